/- States that say less; own objects given up: frozen, and seen as values from then on; calls that borrow. -/
import Derived.Test.YtldlldamnliejaaBw18
namespace Go.Bw
open Go

theorem Le.sub {S S' : St} (ht : ∀ t, get S'.t t = get S.t t ∨ get S'.t t = .any) (hh : ∀ id, hget S'.h id = hget S.h id ∨ hget S'.h id = none) (hn : S.nx ≤ S'.nx) : Le S S' := by
  intro c r a w G m h
  have hs : ∀ id x, hget S'.h id = some x → hget S.h id = some x := fun id x hx => (hh id).elim (fun e => e ▸ hx) (fun e => by rw [e] at hx; cases hx)
  exact ⟨G, m, h.tmps, h.dfr, h.dsr, h.dsn, h.res, fun p hp id q x hq => h.resA p hp id q x (hs _ _ hq), h.inR, h.g, fun t => (ht t).elim (fun e => e ▸ h.rep t) (fun e => e ▸ .any _),
    ⟨fun id x hx => h.heap.obj id x (hs id x hx), fun i j p q x y hi hj => h.heap.apart i j p q x y (hs _ _ hi) (hs _ _ hj)⟩,
    h.ev, fun id p x he => h.own id p x (hs _ _ he), fun id x hx => Nat.lt_of_lt_of_le (h.ids id x hx) hn, fun id p hp => Nat.lt_of_lt_of_le (h.idh id p (hs _ _ hp)) hn, h.old, fun id hid => Nat.lt_of_lt_of_le (h.unx id hid) hn, fun id p hp => h.new id p (hs _ _ hp)⟩

theorem get_sub {T : Nat → AV} (t : List (Nat × AV)) (ht : ∀ p ∈ t, T p.1 = p.2) (x : Nat) : get t x = T x ∨ get t x = .any := by
  induction t with
  | nil => exact .inr rfl
  | cons p r ih =>
    obtain ⟨i, v⟩ := p
    simp only [get]
    split
    · rename_i e; subst e; exact .inl (ht (x, v) (by simp)).symm
    · exact ih (fun q hq => ht q (by simp [hq]))

theorem hget_sub {T : Nat → Option Ob} (h : Heap) (hh : ∀ p ∈ h, T p.1 = p.2) (x : Nat) : hget h x = T x ∨ hget h x = none := by
  induction h with
  | nil => exact .inr rfl
  | cons p r ih =>
    obtain ⟨i, v⟩ := p
    simp only [hget]
    split
    · rename_i e; subst e; exact .inl (hh (x, v) (by simp)).symm
    · exact ih (fun q hq => hh q (by simp [hq]))

/-- Some temporaries and some objects, as they stand. -/
theorem Le.th {S : St} (t : List (Nat × AV)) (h : Heap) (n : Nat) (hn : S.nx ≤ n) (ht : ∀ p ∈ t, get S.t p.1 = p.2) (hh : ∀ p ∈ h, hget S.h p.1 = p.2) : Le S ⟨t, h, n⟩ :=
  Le.sub (get_sub t ht) (hget_sub h hh) hn
theorem Le.tmps {S : St} (t : List (Nat × AV)) (n : Nat) (hn : S.nx ≤ n) (ht : ∀ p ∈ t, get S.t p.1 = p.2) : Le S ⟨t, [], n⟩ := Le.th t [] n hn ht (by simp)
theorem Le.tmpsH {S : St} (t : List (Nat × AV)) (ht : ∀ p ∈ t, get S.t p.1 = p.2) : Le S ⟨t, S.h, S.nx⟩ := Le.sub (get_sub t ht) (fun _ => .inl rfl) (Nat.le_refl _)
/-- Objects listed otherwise. -/
theorem Le.heap {S : St} (h : Heap) (hh : ∀ id p, hget h id = some p → hget S.h id = some p) : Le S ⟨S.t, h, S.nx⟩ :=
  Le.sub (fun _ => .inl rfl) (fun id => by
    dsimp only
    generalize hp : hget h id = q
    cases q with
    | none => exact .inr rfl
    | some p => exact .inl (hh id p hp).symm) (Nat.le_refl _)

/-! ### values that stand by themselves -/
theorem free_val (v : Value) : Free (.val v) := fun _ _ _ _ h => by cases h; exact .val v
theorem free_any : Free .any := fun _ _ _ v _ => .any v
theorem free_agg {cs : List AV} (h : ∀ c ∈ cs, Free c) : Free (.agg cs) := fun w G m v hr => by
  cases hr with
  | agg _ vs hl hr => exact .agg _ vs hl fun j hj => h _ (List.getElem_mem hj) w G m _ (hr j hj)
theorem free_tup {cs : List AV} (h : ∀ c ∈ cs, Free c) : Free (.tup cs) := fun w G m v hr => by
  cases hr with
  | tup _ vs hl hr => exact .tup _ vs hl fun j hj => h _ (List.getElem_mem hj) w G m _ (hr j hj)
theorem free_sl {f : Bool} {es sp : List (List AV)} (h : ∀ e ∈ es ++ sp, ∀ c ∈ e, Free c) : Free (.sl f es sp) := fun w G m v hr => by
  cases hr with
  | slnil => exact .slnil f
  | slnone _ a cap hf => exact .slnone f a cap hf
  | sl _ _ _ b o cap k vs hG hcap hf hk hc h1 hr => exact .sl f es sp b o cap k vs hG hcap hf hk hc h1 fun i hi j hj => h _ (List.getElem_mem hi) _ (List.getElem_mem hj) w G m _ (hr i hi j hj)
theorem free_clo {fn : Go.Fn} {fs cs : List AV} (h1 : ∀ c ∈ fs, Free c) (h2 : ∀ c ∈ cs, Free c) : Free (.clo fn fs cs) := fun w G m v hr => by
  cases hr with
  | clo _ _ _ vf vc hf hc hrf hrc => exact .clo fn fs cs vf vc hf hc (fun j hj => h1 _ (List.getElem_mem hj) w G m _ (hrf j hj)) (fun j hj => h2 _ (List.getElem_mem hj) w G m _ (hrc j hj))


theorem Rep.monoG {w : World} {G G' : Nat → Prop} {m : Where} (hG : ∀ b, G b → G' b) {x : AV} {v : Value} (h : Rep w G m x v) : Rep w G' m x v := by
  induction h with
  | val v => exact .val v
  | any v => exact .any v
  | slnil f => exact .slnil f
  | slnone f a cap hf => exact .slnone f a cap hf
  | sl f es sp b o cap k vs hb hcap hf hk hc h1 _ ih => exact .sl f es sp b o cap k vs (hG b hb) hcap hf hk hc h1 ih
  | fptr cs b o vs hb hc h1 _ ih => exact .fptr cs b o vs (hG b hb) hc h1 ih
  | ref id i off b o k hmm => exact .ref id i off b o k hmm
  | rsl id i len cap b o k e n hmm hlen hsh hin => exact .rsl id i len cap b o k e n hmm hlen hsh hin
  | rslz id i a => exact .rslz id i a
  | clo fn fs cs vf vc hf hc _ _ ih1 ih2 => exact .clo fn fs cs vf vc hf hc ih1 ih2
  | agg cs vs hl _ ih => exact .agg cs vs hl ih
  | tup cs vs hl _ ih => exact .tup cs vs hl ih
  | ifc t x v _ ih => exact .ifc t x v ih
  | mp id b hmm => exact .mp id b hmm
  | it id b hmm => exact .it id b hmm
  | yld id b hmm => exact .yld id b hmm

/-- The blocks of the call's own objects F. -/
def blkOf (F : Nat → Prop) (m : Where) (H : Nat → Option Ob) (b : Nat) : Prop := ∃ id es x, F id ∧ H id = some (.cells false es) ∧ m id = some x ∧ x.1 = b

/-- What x is, once nobody writes the objects F any more. -/
def Vw (F : Nat → Prop) (H : Nat → Option Ob) (x y : AV) : Prop := ∀ (w : World) (G : Nat → Prop) (m : Where) (v : Value), HeapOk w G m H → Rep w G m x v → Rep w (fun b => G b ∨ blkOf F m H b) m y v

section
variable {F : Nat → Prop} {H : Nat → Option Ob}
theorem vw_refl (x : AV) : Vw F H x x := fun _ _ _ _ _ h => h.monoG fun _ hb => .inl hb
theorem vw_any (x : AV) : Vw F H x .any := fun _ _ _ v _ _ => .any v
theorem vw_agg {cs ds : List AV} (hl : cs.length = ds.length) (h : ∀ j (h1 : j < cs.length) (h2 : j < ds.length), Vw F H cs[j] ds[j]) : Vw F H (.agg cs) (.agg ds) := fun w G m v hH hr => by
  cases hr with
  | agg _ vs hl' hr => exact .agg _ vs (hl ▸ hl') fun j hj => h j (hl ▸ hj) hj w G m _ hH (hr j (hl ▸ hj))
theorem vw_tup {cs ds : List AV} (hl : cs.length = ds.length) (h : ∀ j (h1 : j < cs.length) (h2 : j < ds.length), Vw F H cs[j] ds[j]) : Vw F H (.tup cs) (.tup ds) := fun w G m v hH hr => by
  cases hr with
  | tup _ vs hl' hr => exact .tup _ vs (hl ▸ hl') fun j hj => h j (hl ▸ hj) hj w G m _ hH (hr j (hl ▸ hj))

theorem vw_rsl' {id i n : Nat} {f : Bool} {es es' : List (List AV)} (hF : f = false → F id) (hid : H id = some (.cells f es)) (hin : i + n ≤ es.length) (hn : es'.length = n)
    (hk : ∀ t (h : t < es'.length), (es'[t]).length = (es[i + t]'(by omega)).length)
    (hc : ∀ t (h : t < es'.length) j (hj : j < (es'[t]).length), Vw F H ((es[i + t]'(by omega))[j]'(by rw [← hk t h]; exact hj)) ((es'[t])[j])) :
    Vw F H (.rsl id i n) (.sl false es' []) := fun w G m v hH hr => by
  cases hr with
  | rslz _ _ a =>
    have : es' = [] := List.length_eq_zero_iff.1 hn
    subst this
    cases a with
    | none => exact .slnil false
    | some ad => exact .slnone false ad 0 (by simp)
  | rsl _ _ _ cap b o k e sz hm hlen hsh hin2 =>
    subst hn
    by_cases h0 : es'.length = 0
    · have : es' = [] := List.length_eq_zero_iff.1 h0
      subst this
      exact .slnone false _ cap (by simp)
    have hob := hH.obj id _ hid
    obtain ⟨h1, _⟩ | ⟨hne, b', o', k', hm', hg, _, hkk, hcells⟩ := hob
    · subst h1; simp only [List.length_nil] at hin; omega
    rw [hm] at hm'; cases hm'
    have hb : G b ∨ blkOf F m H b := by
      cases f with
      | true => exact .inl (hg rfl)
      | false => exact .inr ⟨id, es, _, hF rfl, hid, hm, rfl⟩
    have hcell : ∀ t (h : t < es'.length) j (hj : j < (es'[t]).length), ∃ v, w.cell? ⟨b, o + i * k + t * k + j, none⟩ = some v ∧ v.oneCell' = true ∧ Rep w (fun b => G b ∨ blkOf F m H b) m ((es'[t])[j]) v := fun t h j hj => by
      obtain ⟨v, e1, e2, e3⟩ := hcells (i + t) (by omega) j (by rw [← hk t h]; exact hj)
      refine ⟨v, ?_, e2, hc t h j hj w G m v hH e3⟩
      rw [← e1, Nat.add_mul]
      congr 2; omega
    have := Rep.sl (w := w) (G := fun b => G b ∨ blkOf F m H b) (m := m) false es' [] b (o + i * k) cap k (fun t j => (w.cell? ⟨b, o + i * k + t * k + j, none⟩).getD undef) hb (by simpa using hlen) (by simp)
      (fun t ht => by
        rw [List.getElem_append_left (by simpa using ht), hk t (by simpa using ht)]
        exact hkk (i + t) (by simp at ht; omega))
      (fun t ht j hj => by
        have ht' : t < es'.length := by simpa using ht
        have hj' : j < (es'[t]).length := by simpa [List.getElem_append_left ht'] using hj
        obtain ⟨v, e1, e2, e3⟩ := hcell t ht' j hj'
        rw [e1]; rfl)
      (fun t ht j hj => by
        have ht' : t < es'.length := by simpa using ht
        have hj' : j < (es'[t]).length := by simpa [List.getElem_append_left ht'] using hj
        obtain ⟨v, e1, e2, e3⟩ := hcell t ht' j hj'
        rw [e1]; exact e2)
      (fun t ht j hj => by
        have ht' : t < es'.length := by simpa using ht
        have hj' : j < (es'[t]).length := by simpa [List.getElem_append_left ht'] using hj
        obtain ⟨v, e1, e2, e3⟩ := hcell t ht' j hj'
        rw [e1]
        simpa [List.getElem_append_left ht'] using e3)
    exact this

theorem vw_rsl {id i n : Nat} {f : Bool} {es es' : List (List AV)} (hF : f = false → F id) (hid : H id = some (.cells f es)) (hin : i + n ≤ es.length) (he : es' = (es.drop i).take n) : Vw F H (.rsl id i n) (.sl false es' []) := by
  have hl : es'.length = n := by rw [he]; simp; omega
  have hg : ∀ t (h : t < es'.length), es'[t] = es[i + t]'(by omega) := fun t h => by subst he; simp
  refine vw_rsl' hF hid hin hl (fun t h => by rw [hg t h]) fun t h j hj => ?_
  have : (es'[t])[j] = (es[i + t]'(by omega))[j]'(by rw [← hg t h]; exact hj) := by simp only [hg t h]
  rw [this]; exact vw_refl _

theorem vw_ref {id i off : Nat} {f : Bool} {es : List (List AV)} {cs : List AV} (hF : f = false → F id) (hid : H id = some (.cells f es)) (hi : es[i]? = some cs) : Vw F H (.ref id i off) (.fptr (cs.drop off)) := fun w G m v hH hr => by
  cases hr with
  | ref _ _ _ b o k hm =>
    have hob := hH.obj id _ hid
    obtain ⟨hi', hcs⟩ := List.getElem?_eq_some_iff.1 hi
    obtain ⟨h1, _⟩ | ⟨hne, b', o', k', hm', hg, _, hkk, hcells⟩ := hob
    · subst h1; simp at hi
    rw [hm] at hm'; cases hm'
    have hb : G b ∨ blkOf F m H b := by
      cases f with
      | true => exact .inl (hg rfl)
      | false => exact .inr ⟨id, es, _, hF rfl, hid, hm, rfl⟩
    have hcell : ∀ j (hj : j < (cs.drop off).length), ∃ v, w.cell? ⟨b, o + i * k + off + j, none⟩ = some v ∧ v.oneCell' = true ∧ Rep w (fun b => G b ∨ blkOf F m H b) m ((cs.drop off)[j]) v := fun j hj => by
      simp only [List.length_drop] at hj
      obtain ⟨v, e1, e2, e3⟩ := hcells i hi' (off + j) (by rw [hcs]; omega)
      refine ⟨v, by rw [← e1]; congr 2; omega, e2, ?_⟩
      have := e3.monoG (G' := fun b => G b ∨ blkOf F m H b) fun _ hb => .inl hb
      simpa [hcs] using this
    exact .fptr _ b _ (fun j => (w.cell? ⟨b, o + i * k + off + j, none⟩).getD undef) hb (fun j hj => by obtain ⟨v, e1, _⟩ := hcell j hj; rw [e1]; rfl)
      (fun j hj => by obtain ⟨v, e1, e2, _⟩ := hcell j hj; rw [e1]; exact e2) (fun j hj => by obtain ⟨v, e1, _, e3⟩ := hcell j hj; rw [e1]; exact e3)
end


theorem vw_clo {F : Nat → Prop} {H : Nat → Option Ob} {fn : Go.Fn} {fs gs cs ds : List AV} (hl1 : fs.length = gs.length) (h1 : ∀ j (h1 : j < fs.length) (h2 : j < gs.length), Vw F H fs[j] gs[j]) (hl2 : cs.length = ds.length) (h2 : ∀ j (h1 : j < cs.length) (h2 : j < ds.length), Vw F H cs[j] ds[j]) :
    Vw F H (.clo fn fs cs) (.clo fn gs ds) := fun w G m v hH hr => by
  cases hr with
  | clo _ _ _ vf vc hf hc hrf hrc =>
    exact .clo fn gs ds vf vc (hl1 ▸ hf) (hl2 ▸ hc) (fun j hj => h1 j (hl1 ▸ hj) hj w G m _ hH (hrf j (hl1 ▸ hj))) (fun j hj => h2 j (hl2 ▸ hj) hj w G m _ hH (hrc j (hl2 ▸ hj)))

theorem vw_ref' {F : Nat → Prop} {H : Nat → Option Ob} {id i off : Nat} {f : Bool} {es : List (List AV)} {cs ds : List AV} (hF : f = false → F id) (hid : H id = some (.cells f es)) (hi : es[i]? = some cs) (hl : ds.length = (cs.drop off).length)
    (hc : ∀ j (h1 : j < (cs.drop off).length) (h2 : j < ds.length), Vw F H (cs.drop off)[j] ds[j]) : Vw F H (.ref id i off) (.fptr ds) := fun w G m v hH hr => by
  have h1 := vw_ref hF hid hi (off := off) w G m v hH hr
  cases hr with
  | ref _ _ _ b o k hm =>
    have hob := hH.obj id _ hid
    obtain ⟨hi', hcs⟩ := List.getElem?_eq_some_iff.1 hi
    obtain ⟨h0, _⟩ | ⟨hne, b', o', k', hm', hg, _, hkk, hcells⟩ := hob
    · subst h0; simp at hi
    rw [hm] at hm'; cases hm'
    have hb : G b ∨ blkOf F m H b := by
      cases f with
      | true => exact .inl (hg rfl)
      | false => exact .inr ⟨id, es, _, hF rfl, hid, hm, rfl⟩
    have hcell : ∀ j (hj : j < ds.length), ∃ v, w.cell? ⟨b, o + i * k + off + j, none⟩ = some v ∧ v.oneCell' = true ∧ Rep w (fun b => G b ∨ blkOf F m H b) m (ds[j]) v := fun j hj => by
      have hj' : j < (cs.drop off).length := hl ▸ hj
      have hj2 := hj'
      simp only [List.length_drop] at hj2
      obtain ⟨v, e1, e2, e3⟩ := hcells i hi' (off + j) (by rw [hcs]; omega)
      refine ⟨v, by rw [← e1]; congr 2; omega, e2, ?_⟩
      refine hc j hj' hj w G m v hH ?_
      simpa [hcs] using e3
    exact .fptr _ b _ (fun j => (w.cell? ⟨b, o + i * k + off + j, none⟩).getD undef) hb (fun j hj => by obtain ⟨v, e1, _⟩ := hcell j hj; rw [e1]; rfl)
      (fun j hj => by obtain ⟨v, e1, e2, _⟩ := hcell j hj; rw [e1]; exact e2) (fun j hj => by obtain ⟨v, e1, _, e3⟩ := hcell j hj; rw [e1]; exact e3)

/-- What a value is, once nobody writes any object any more: so deep. -/
def viewA (h : Heap) : Nat → AV → AV
  | n + 1, .rsl id i len => match hget h id with
    | some (.cells _ es) => if i + len ≤ es.length then .sl false (((es.drop i).take len).map fun e => e.map (viewA h n)) [] else .any
    | _ => .any
  | n + 1, .ref id i off => match hget h id with
    | some (.cells _ es) => match es[i]? with
      | some cs => .fptr ((cs.drop off).map (viewA h n))
      | none => .any
    | _ => .any
  | n + 1, .agg cs => .agg (cs.map (viewA h n))
  | n + 1, .tup cs => .tup (cs.map (viewA h n))
  | n + 1, .clo f fs cs => .clo f (fs.map (viewA h n)) (cs.map (viewA h n))
  | 0, .rsl .. => .any
  | 0, .ref .. => .any
  | 0, .agg _ => .any
  | 0, .tup _ => .any
  | 0, .clo .. => .any
  | _, x => x

theorem viewA_vw (h : Heap) : ∀ (n : Nat) (x : AV), Vw (fun _ => True) (hget h) x (viewA h n x) := by
  intro n
  induction n with
  | zero => intro x; cases x <;> first | exact vw_refl _ | exact vw_any _
  | succ n ih =>
    intro x
    cases x with
    | rsl id i len =>
      unfold viewA
      split
      · rename_i f es hes
        split
        · rename_i hle
          refine vw_rsl' (fun _ => trivial) hes hle (by simp; omega) (fun t ht => by simp) fun t ht j hj => ?_
          simp only [List.getElem_map, List.getElem_take, List.getElem_drop]
          exact ih _
        · exact vw_any _
      · exact vw_any _
    | ref id i off =>
      unfold viewA
      split
      · rename_i f es hes
        split
        · rename_i cs hcs
          refine vw_ref' (fun _ => trivial) hes hcs (by simp) fun j h1 h2 => ?_
          simp only [List.getElem_map]
          exact ih _
        · exact vw_any _
      · exact vw_any _
    | agg cs => exact vw_agg (by simp) fun j h1 h2 => by simp only [List.getElem_map]; exact ih _
    | tup cs => exact vw_tup (by simp) fun j h1 h2 => by simp only [List.getElem_map]; exact ih _
    | clo f fs cs => exact vw_clo (by simp) (fun j h1 h2 => by simp only [List.getElem_map]; exact ih _) (by simp) (fun j h1 h2 => by simp only [List.getElem_map]; exact ih _)
    | _ => exact vw_refl _

/-- The objects F are not written any more. -/
theorem Le.freeze {S : St} (F : Nat → Prop) (t : List (Nat × AV)) (h : Heap) (hn : ∀ id x, hget h id = some x → hget S.h id = some x ∧ ¬ F id)
    (ht : ∀ p ∈ t, Vw F (hget S.h) (get S.t p.1) p.2) : Le S ⟨t, h, S.nx⟩ := by
  intro c r a w G m hI
  have hlt : ∀ b, blkOf F m (hget S.h) b → b < w.heap.size := by
    rintro b ⟨id, es, x, _, h1, h2, rfl⟩
    exact (hI.heap.obj id _ h1).lt rfl h2
  have hG : ∀ id y x, hget h id = some y → y.live = true → m id = some x → ¬ (G x.1 ∨ blkOf F m (hget S.h) x.1) := by
    rintro id y x hy hl hx (hb | ⟨id', es', x', hF', hh', hm', he'⟩)
    · exact (hI.heap.obj id y (hn id y hy).1).notG hl hx hb
    · exact hI.heap.apart id' id _ y x' x hh' (hn id y hy).1 rfl hl (fun e => (hn id y hy).2 (e ▸ hF')) hm' hx he'
  refine ⟨fun b => G b ∨ blkOf F m (hget S.h) b, m, hI.tmps, hI.dfr, hI.dsr, hI.dsn, fun p hp => ⟨(hI.res p hp).1, ?_⟩, fun p hp id q x hq => hI.resA p hp id q x (hn _ _ hq).1, hI.inR, fun b hb => hb.elim (hI.g b) (hlt b), fun x => ?_,
    ⟨fun id y hy => ?_, fun i j p q x y hi hj => hI.heap.apart i j p q x y (hn _ _ hi).1 (hn _ _ hj).1⟩, ?_, fun id p x he => hI.own id p x (hn _ _ he).1, hI.ids, fun id p hp => hI.idh id p (hn _ _ hp).1, hI.old, hI.unx, fun id p hp => hI.new id p (hn _ _ hp).1⟩
  · rintro (hb | ⟨id, es, x, _, h1, h2, e⟩)
    · exact (hI.res p hp).2 hb
    · exact hI.resA p hp id _ x h1 rfl h2 e
  · dsimp only
    induction t with
    | nil => exact .any _
    | cons p r ih =>
      obtain ⟨i, v⟩ := p
      simp only [get]
      split
      · rename_i e; subst e; exact ht (x, v) (by simp) w G m _ hI.heap (hI.rep x)
      · exact ih (fun q hq => ht q (by simp [hq]))
  · have hob := hI.heap.obj id y (hn id y hy).1
    have hGy := fun x => hG id y x hy
    cases y with
    | cells f es =>
      obtain ⟨e1, e2⟩ | ⟨hne, b, o, k, hm, hg, hng, hk, hc⟩ := hob
      · exact .inl ⟨e1, e2⟩
      refine .inr ⟨hne, b, o, k, hm, fun hf => .inl (hg hf), fun hf => ⟨hGy _ (by rw [hf]; rfl) hm, (hng hf).2⟩, hk, fun i hi j hj => ?_⟩
      obtain ⟨v, e1, e2, e3⟩ := hc i hi j hj
      exact ⟨v, e1, e2, e3.monoG fun _ hb => .inl hb⟩
    | loop st pd ps asg body n t =>
      obtain ⟨b, o, e1, e2, e3, e4⟩ := hob
      refine ⟨b, o, e1, hGy _ rfl e1, e3, ?_⟩
      cases o <;> first | exact e4.elim | skip
      exact ⟨e4.1, e4.2.1, e4.2.2.1, e4.2.2.2.1, e4.2.2.2.2.1, e4.2.2.2.2.2.1, fun i => (e4.2.2.2.2.2.2 i).monoG fun _ hb => .inl hb⟩
    | strIt s p =>
      obtain ⟨b, o, e1, e2, e3, e4⟩ := hob
      exact ⟨b, o, e1, hGy _ rfl e1, e3, by cases o <;> first | exact e4.elim | exact e4⟩
    | map es cl =>
      obtain ⟨b, o, e1, e2, e3, e4⟩ := hob
      refine ⟨b, o, e1, hGy _ rfl e1, e3, ?_⟩
      cases o <;> first | exact e4.elim | skip
      exact ⟨e4.1, e4.2.1, fun i h1 h2 => ⟨(e4.2.2 i h1 h2).1, (e4.2.2 i h1 h2).2.1, (e4.2.2 i h1 h2).2.2.monoG fun _ hb => .inl hb⟩⟩
    | mapIt mid s se st =>
      obtain ⟨b, o, e1, e2, e3, e4⟩ := hob
      refine ⟨b, o, e1, hGy _ rfl e1, e3, ?_⟩
      cases o <;> first | exact e4.elim | skip
      rename_i q _ _ _
      cases q <;> first | exact e4.elim | exact e4
  · have ev := hI.ev
    refine ⟨ev.os, ev.tape, ev.output, ev.size, ev.blk, ev.shp, fun b hb => .inl (ev.sub b hb), fun b hb => ?_, fun hl b hb => hb.elim (ev.lt hl b) (hlt b), ev.ext⟩
    rcases hb with hb | ⟨id, es, x, _, h1, h2, rfl⟩
    · exact ev.new b hb
    · exact (hI.own id _ x h1 rfl h2).elim (fun h => .inr (.inr h)) (fun h => .inr (.inl h))

/-- Nothing is written any more. -/
theorem Le.freezeAll {S : St} (t : List (Nat × AV)) (ht : ∀ p ∈ t, Vw (fun _ => True) (hget S.h) (get S.t p.1) p.2) : Le S ⟨t, [], S.nx⟩ :=
  Le.freeze _ t [] (fun id x hx => by simp [hget] at hx) ht

/-- A nil slice is an object without elements. -/
theorem Le.nilOb {S : St} (t : List (Nat × AV)) (ht : ∀ p ∈ t, get S.t p.1 = p.2 ∨ get S.t p.1 = .sl true [] [] ∧ p.2 = .rsl S.nx 0 0) : Le S ⟨t, (S.nx, some (.cells false [])) :: S.h, S.nx + 1⟩ := by
  intro c r a w G m hI
  have hm : m S.nx = none := by
    cases h : m S.nx with
    | none => rfl
    | some x => exact absurd (hI.ids _ x h) (Nat.lt_irrefl _)
  have hnx : ¬ S.nx < c.nx0 := fun h => absurd (hI.unx _ h) (Nat.lt_irrefl _)
  have hs : ∀ id x, hget ((S.nx, some (.cells false [])) :: S.h) id = some x → (id = S.nx ∧ x = .cells false []) ∨ hget S.h id = some x := fun id x hx => by
    simp only [hget] at hx
    split at hx
    · cases hx; exact .inl ⟨by assumption, rfl⟩
    · exact .inr hx
  refine ⟨G, m, hI.tmps, hI.dfr, hI.dsr, hI.dsn, hI.res, fun p hp id q x hq hl hx => ?_, hI.inR, hI.g, fun x => ?_, ⟨fun id y hy => ?_, fun i j p q x y hi hj hp hq hne hx hy => ?_⟩, hI.ev, fun id p x he hl hx => ?_, fun id x hx => Nat.lt_succ_of_lt (hI.ids id x hx), fun id p hp => ?_, hI.old, fun id hid => Nat.lt_succ_of_lt (hI.unx id hid), fun id p hp hlt => ?_⟩
  · rcases hs id _ hq with ⟨e, _⟩ | h1
    · rw [e, hm] at hx; cases hx
    · exact hI.resA p hp id q x h1 hl hx
  · dsimp only
    induction t with
    | nil => exact .any _
    | cons p r ih =>
      obtain ⟨i, v⟩ := p
      simp only [get]
      split
      · rename_i e; subst e
        rcases ht (x, v) (by simp) with e | ⟨e, e'⟩
        · dsimp only at e; rw [← e]; exact hI.rep x
        · dsimp only at e e'; subst e'
          have := hI.rep x; rw [e] at this
          generalize a.tmps.getD x undef = u at this
          cases this with
          | slnil => exact .rslz _ _ _
          | slnone _ ad cap hf => have := hf rfl; subst this; exact .rslz _ _ _
          | sl _ _ _ b o cap k vs hG hcap hf =>
            have := hf rfl; simp only [List.length_nil, Nat.add_zero] at this; subst this; exact .rslz _ _ _
      · exact ih (fun q hq => ht q (by simp [hq]))
  · rcases hs id y hy with ⟨e1, e2⟩ | h1
    · rw [e1, e2]; exact .inl ⟨rfl, hm⟩
    · exact hI.heap.obj id y h1
  · rcases hs i _ hi with ⟨e, _⟩ | h1
    · rw [e, hm] at hx; cases hx
    · rcases hs j _ hj with ⟨e, _⟩ | h2
      · rw [e, hm] at hy; cases hy
      · exact hI.heap.apart i j p q x y h1 h2 hp hq hne hx hy
  · rcases hs id _ he with ⟨e, _⟩ | h1
    · rw [e, hm] at hx; cases hx
    · exact hI.own id p x h1 hl hx
  · rcases hs id _ hp with ⟨e, _⟩ | h1
    · show id < S.nx + 1; omega
    · exact Nat.lt_succ_of_lt (hI.idh id p h1)
  · rcases hs id _ hp with ⟨e, _⟩ | h1
    · omega
    · exact hI.new id p h1 hlt

/-! ### calls that borrow -/
/-- A value in which no memory is. -/
def Flat (x : AV) : Prop := ∀ (w : World) (G : Nat → Prop) (m : Where) (v : Value), Rep w G m x v → ∀ (w' : World) (G' : Nat → Prop) (m' : Where), Rep w' G' m' x v
theorem flat_val (v : Value) : Flat (.val v) := fun _ _ _ _ h _ _ _ => by cases h; exact .val v
theorem flat_tup {cs : List AV} (h : ∀ c ∈ cs, Flat c) : Flat (.tup cs) := fun w G m v hr w' G' m' => by
  cases hr with
  | tup _ vs hl hr => exact .tup _ vs hl fun j hj => h _ (List.getElem_mem hj) w G m _ (hr j hj) w' G' m'
theorem flat_agg {cs : List AV} (h : ∀ c ∈ cs, Flat c) : Flat (.agg cs) := fun w G m v hr w' G' m' => by
  cases hr with
  | agg _ vs hl hr => exact .agg _ vs hl fun j hj => h _ (List.getElem_mem hj) w G m _ (hr j hj) w' G' m'


theorem aCall_borrow {P : Program} {f : FuncId} {fs args cs vs : List AV} {S : St} {K : OK} {out : AV} (rd : List Nat) (h : Fn P f vs out)
    (hl : (fs ++ args ++ cs).length = vs.length) (hv : ∀ j (h1 : j < (fs ++ args ++ cs).length) (h2 : j < vs.length), Vw (fun _ => True) (restr rd (hget S.h)) (fs ++ args ++ cs)[j] vs[j])
    (hflat : Flat out) (hK : K rd 0 out []) : aCall P (.clo (.func f) fs cs) args S K := by
  refine ⟨rd, 0, out, [], ⟨h.enters, by simp [keys], by simp [frs], fun w G m us hg hlen hr hH _ => ?_⟩, hK⟩
  have hlt : ∀ b, G b ∨ blkOf (fun _ => True) m (restr rd (hget S.h)) b → b < w.heap.size := by
    rintro b (hb | ⟨id, es, x, _, h1, h2, rfl⟩)
    · exact hg b hb
    · exact (hH.obj id _ h1).lt rfl h2
  have := h.run w (fun b => G b ∨ blkOf (fun _ => True) m (restr rd (hget S.h)) b) m us hlt (by rw [← hl]; exact hlen) (fun j hj => hv j (hl ▸ hj) hj w G m _ hH (hr j (hl ▸ hj)))
    ⟨fun id x hx => by simp [restr] at hx, fun i j p q x y hi => by simp [restr] at hi⟩ (by simp)
  refine Calls.mono this ?_
  rintro e w' ⟨v, G', m', rfl, hres⟩
  have ev := hres.ev
  exact ⟨v, G, m, rfl, ⟨⟨ev.os, ev.tape, ev.output, ev.size, ev.blk, ev.shp, fun _ h => h, fun _ h => .inl h, fun hl b hb => Nat.lt_of_lt_of_le (hl b hb) ev.size, fun _ _ h => h⟩,
    hflat _ _ _ _ hres.rep _ _ _, by simp [Bw.hl], by simp [Bw.hl], by simp [Bw.hl], fun _ _ => rfl⟩⟩

theorem aCall_H {P : Program} {f : FuncId} {fs args cs : List AV} {S : St} {K : OK} {out : AV} {ch : Heap} {rd : List Nat} {n : Nat} (h : FnH P f (fs ++ args ++ cs) (hget S.h) rd (frs S.nx n) out ch) (hK : K rd n out ch) : aCall P (.clo (.func f) fs cs) args S K :=
  ⟨rd, n, out, ch, h, hK⟩
end Go.Bw
