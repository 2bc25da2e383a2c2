/- Rule: append. -/
import Derived.Test.YtldlldamnliejaaBw14
namespace Go.Bw
open Go

/-- The elements of a slice. -/
def slV (H : Nat → Option Ob) : AV → Option (List (List AV))
  | .sl _ es _ => some es
  | .rsl id i n => match H id with
    | some (.cells _ es) => if i + n ≤ es.length then some ((es.drop i).take n) else none
    | _ => none
  | _ => none
def slIds : AV → List Nat
  | .rsl id _ _ => [id]
  | _ => []

/-- The cells of elements in memory. -/
def CellsAt (w : World) (G : Nat → Prop) (m : Where) (a : Option Addr) (k : Nat) (es : List (List AV)) : Prop :=
  (∀ i (hi : i < es.length), (es[i]).length = k) ∧ (es ≠ [] → ∃ b o, a = some ⟨b, o, none⟩ ∧ b < w.heap.size ∧
    ∀ i (hi : i < es.length) j (hj : j < (es[i]).length), ∃ u, w.cell? ⟨b, o + i * k + j, none⟩ = some u ∧ u.oneCell' = true ∧ Rep w G m ((es[i])[j]) u)

theorem slV_rep {w : World} {G : Nat → Prop} {m : Where} {H : Nat → Option Ob} {x : AV} {v : Value} {es : List (List AV)} {k : Nat} (hg : ∀ b, G b → b < w.heap.size) (h : slV H x = some es) (hr : Rep w G m x v)
    (hH : HeapOk w G m (restr (slIds x) H)) (hk : ∀ e ∈ es, e.length = k) (hpos : 0 < k) : ∃ a cap, v = .slice a es.length cap ∧ es.length ≤ cap ∧ CellsAt w G m a k es := by
  have hk' : ∀ i (hi : i < es.length), (es[i]).length = k := fun i hi => hk _ (List.getElem_mem hi)
  cases x with
  | sl f es' sp =>
    simp only [slV, Option.some.injEq] at h; subst h
    cases hr with
    | slnil => exact ⟨none, 0, rfl, Nat.le_refl _, hk', fun h => absurd rfl h⟩
    | slnone _ a cap _ => exact ⟨some a, cap, rfl, Nat.zero_le _, hk', fun h => absurd rfl h⟩
    | sl _ _ _ b o cap k2 vs hG hcap hf hk2 hc h1 hr =>
      refine ⟨some ⟨b, o, none⟩, cap, rfl, by omega, hk', fun hne => ⟨b, o, rfl, hg b hG, fun i hi j hj => ?_⟩⟩
      have hi2 : i < (es' ++ sp).length := by simp; omega
      have hel : (es' ++ sp)[i] = es'[i] := List.getElem_append_left hi
      have hkk : k2 = k := by rw [← hk2 i hi2, hel]; exact hk' i hi
      subst hkk
      refine ⟨vs i j, hc i hi2 j (by rw [hel]; exact hj), h1 i hi2 j (by rw [hel]; exact hj), ?_⟩
      have := hr i hi2 j (by rw [hel]; exact hj)
      simpa [hel] using this
  | rsl id i n =>
    simp only [slV] at h
    split at h
    case h_2 => cases h
    rename_i f es' hes
    split at h
    case isFalse => cases h
    rename_i hle
    simp only [Option.some.injEq] at h
    have hlen : es.length = n := by rw [← h]; simp; omega
    have hob : ObjOk w G m id (.cells f es') := hH.obj id _ (by simp [restr, slIds, hes])
    cases hr with
    | rslz _ _ a => exact ⟨a, 0, by rw [hlen], by omega, hk', fun hne => absurd (List.eq_nil_of_length_eq_zero hlen) hne⟩
    | rsl _ _ _ cap b o k2 e nn hm hl2 hsh hin =>
      refine ⟨_, cap, by rw [hlen], by omega, hk', fun hne => ⟨b, o + i * k2, rfl, ?_, fun t ht j hj => ?_⟩⟩
      · unfold World.shape? at hsh
        rcases Nat.lt_or_ge b w.heap.size with h' | h'
        · exact h'
        · simp [Array.getElem?_eq_none h'] at hsh
      · obtain ⟨_, hm'⟩ | ⟨_, b', o', k', hm', _, _, hk2', hcells⟩ := hob
        · rw [hm] at hm'; cases hm'
        rw [hm] at hm'; cases hm'
        have hit : i + t < es'.length := by omega
        have hel : es[t] = es'[i + t] := by subst h; simp
        have hkk : k2 = k := by rw [← hk2' (i + t) hit, ← hk' t ht, hel]
        subst hkk
        obtain ⟨u, h1, h2, h3⟩ := hcells (i + t) hit j (by rw [← hel]; exact hj)
        refine ⟨u, ?_, h2, ?_⟩
        · rw [show o + i * k2 + t * k2 + j = o + (i + t) * k2 + j by rw [Nat.add_mul]; omega]; exact h1
        · simpa [hel] using h3
  | _ => simp [slV] at h

/-- The same cells as a list of values. -/
theorem cells_list {w : World} {G : Nat → Prop} {m : Where} {a : Option Addr} {k : Nat} {es : List (List AV)} (h : CellsAt w G m a k es) (hpos : 0 < k) :
    ∃ news : List Value, news.length = es.length * k ∧ (∀ u ∈ news, u.oneCell' = true) ∧ (∀ t v, news[t]? = some v → ∃ ad, a = some ad ∧ w.cell? (ad.add t) = some v) ∧
      ∀ i (hi : i < es.length) j (hj : j < (es[i]).length), ∃ v, news[i * k + j]? = some v ∧ v.oneCell' = true ∧ Rep w G m ((es[i])[j]) v := by
  obtain ⟨hk, hc⟩ := h
  by_cases hne : es = []
  · subst hne
    exact ⟨[], by simp, by simp, by simp, fun i hi => by simp at hi⟩
  obtain ⟨b, o, rfl, _, hc⟩ := hc hne
  have hex : ∃ f : Nat → Nat → Value, ∀ i (hi : i < es.length) j (hj : j < (es[i]).length), w.cell? ⟨b, o + i * k + j, none⟩ = some (f i j) ∧ (f i j).oneCell' = true ∧ Rep w G m ((es[i])[j]) (f i j) := by
    refine ⟨fun i j => if h : ∃ (hi : i < es.length), j < (es[i]).length then (hc i h.1 j h.2).choose else undef, fun i hi j hj => ?_⟩
    simp only [dif_pos (show ∃ (hi : i < es.length), j < (es[i]).length from ⟨hi, hj⟩)]
    exact (hc i hi j hj).choose_spec
  obtain ⟨f, hf⟩ := hex
  have hdiv : ∀ t, t < es.length * k → t / k < es.length ∧ t % k < k := fun t ht => ⟨(Nat.div_lt_iff_lt_mul hpos).2 ht, Nat.mod_lt _ hpos⟩
  refine ⟨(List.range (es.length * k)).map fun t => f (t / k) (t % k), by simp, fun u hu => ?_, fun t v hv => ⟨⟨b, o, none⟩, rfl, ?_⟩, fun i hi j hj => ?_⟩
  · simp only [List.mem_map, List.mem_range] at hu
    obtain ⟨t, ht, rfl⟩ := hu
    obtain ⟨h1, h2⟩ := hdiv t ht
    exact (hf _ h1 _ (by rw [hk _ h1]; exact h2)).2.1
  · simp only [List.getElem?_map, Option.map_eq_some_iff] at hv
    obtain ⟨t', ht', rfl⟩ := hv
    obtain ⟨hlt, e⟩ := List.getElem?_eq_some_iff.1 ht'
    simp only [List.getElem_range, List.length_range] at e hlt
    subst e
    obtain ⟨h1, h2⟩ := hdiv t hlt
    have := (hf _ h1 _ (by rw [hk _ h1]; exact h2)).1
    rw [add_lit']
    rwa [Nat.add_assoc, Nat.mul_comm, Nat.div_add_mod] at this
  · rw [hk i hi] at hj
    have e1 : (i * k + j) / k = i := by rw [Nat.mul_comm, Nat.mul_add_div hpos, Nat.div_eq_of_lt hj, Nat.add_zero]
    have e2 : (i * k + j) % k = j := by rw [Nat.mul_comm, Nat.mul_add_mod, Nat.mod_eq_of_lt hj]
    have hlt : i * k + j < es.length * k := by
      have : (i + 1) * k ≤ es.length * k := Nat.mul_le_mul_right _ hi
      rw [Nat.add_mul] at this; omega
    refine ⟨f i j, ?_, (hf i hi j (by rw [hk i hi]; exact hj)).2⟩
    simp [hlt, e1, e2]

section
variable {P : Program}

/-- An append that finds no room: a new block. -/
theorem run_append_grow' {T U e : TypeId} {ty : TypeId} (hT : P.underlying T = some (.slice e)) (hU : ∃ e', P.underlying U = some (.slice e')) (hek : (ti P e).known = true) {w : World} {z : Value} (hz : (zeroValue e).run P w.drew = .ok z w.drew)
    (base : Option Addr) (sLen sCap : Nat) (olds : List Value) (hlo : olds.length = sLen * (ti P e).sz) (holds : ∀ t v, olds[t]? = some v → ∃ ad, base = some ad ∧ w.cell? (ad.add t) = some v)
    (ad : Addr) (n c : Nat) (news : List Value) (hl : news.length = n * (ti P e).sz) (hnews : ∀ t v, news[t]? = some v → w.cell? (ad.add t) = some v)
    (hg : sCap < sLen + n) (h63 : sLen + n ≤ 9223372036854775807) (hfit : (sLen + n) * (ti P e).bytes ≤ 140737488355328) :
    ∃ cap', sLen + n ≤ cap' ∧ (Builtin.append_ #[T, U] ty #[.slice base sLen sCap, .slice (some ad) n c]).run P w =
      .ok (.slice (some ⟨w.heap.size, 0, none⟩) (sLen + n) cap') (w.drew.alloc (.cells (olds.toArray ++ news.toArray ++ Builtin.zeroCells z.cells (cap' - (sLen + n))) e)) := by
  obtain ⟨e', hU⟩ := hU
  obtain ⟨i, d, h1, h2⟩ := ti_known hek
  have hby : i.bytes = (ti P e).bytes := ti_bytes h1 h2
  have hsz' : i.size = (ti P e).sz := by simp [ti, h1, h2]
  have hn : ¬ (sLen + n ≤ sCap) := by omega
  have h63' : ¬ (9223372036854775807 < ((sLen : Int) + (n : Int))) := by omega
  have h48 := growslice_fits hg (by rw [hby]; exact hfit : (sLen + n) * i.bytes ≤ 140737488355328)
  have h48' : ¬ (281474976710656 < Builtin.nextslicecap (sLen + n) sCap * i.bytes) := by omega
  have hf := run_firstCells_some (P := P) w.drew i.size n ad n c news (by rw [hsz']; exact hl) (by simpa using hnews)
  have hfo : (Builtin.firstCells i.size sLen (.slice base sLen sCap)).run P w.drew = .ok olds.toArray w.drew := by
    cases base with
    | some b => exact run_firstCells_some w.drew i.size sLen b sLen sCap olds (by rw [hsz']; exact hlo) (fun t v hv => by obtain ⟨ad', e1, e2⟩ := holds t v hv; cases e1; simpa using e2)
    | none =>
      rw [run_firstCells_none]
      have : olds = [] := by
        cases olds with
        | nil => rfl
        | cons o os => obtain ⟨ad', e1, _⟩ := holds 0 o rfl; cases e1
      rw [this]
  have hzo : i.zero = some z := by
    simp only [zeroValue, Sem.run_bind, run_typeInfo' h1, Result.andThen_ok] at hz
    cases h : i.zero with
    | none => rw [h] at hz; cases hz
    | some z' => rw [h] at hz; cases hz; rfl
  refine ⟨grownCap w (sLen + n) sCap e, ?_, ?_⟩
  · simp only [grownCap, Question.cut]; omega
  · simp [Builtin.append_, run_underlying' hT, run_underlying' hU, sizeOf, typeInfo, zeroValue, h1, hzo, Builtin.lenOf, hn, h63', h48', Question.forced, hf, hfo, newRow, grownCap]
    congr 2
    apply Array.ext'
    simp [List.append_assoc]

theorem run_firstCells' {w : World} {a : Option Addr} (size n c : Nat) (news : List Value) (hl : news.length = n * size) (h : ∀ t v, news[t]? = some v → ∃ ad, a = some ad ∧ w.cell? (ad.add t) = some v) :
    (Builtin.firstCells size n (.slice a n c)).run P w = .ok news.toArray w := by
  cases a with
  | some b => exact run_firstCells_some w size n b n c news hl (fun t v hv => by obtain ⟨ad', e1, e2⟩ := h t v hv; cases e1; exact e2)
  | none =>
    rw [run_firstCells_none]
    have : news = [] := by
      cases news with
      | nil => rfl
      | cons o os => obtain ⟨ad', e1, _⟩ := h 0 o rfl; cases e1
    rw [this]

/-- An append that finds room. -/
theorem run_append_room' {T U e : TypeId} {ty : TypeId} (hT : P.underlying T = some (.slice e)) (hU : ∃ e', P.underlying U = some (.slice e')) (hek : (ti P e).known = true) {w : World}
    (base : Option Addr) (sLen sCap n c : Nat) (a : Option Addr) (news : List Value) (hl : news.length = n * (ti P e).sz) (hnews : ∀ t v, news[t]? = some v → ∃ ad, a = some ad ∧ w.cell? (ad.add t) = some v)
    (hroom : sLen + n ≤ sCap) {w' : World} (hst : (match base with | some b => storeCells (b.add (sLen * (ti P e).sz)) news | none => (pure () : Sem Unit)).run P w = .ok () w') :
    (Builtin.append_ #[T, U] ty #[.slice base sLen sCap, .slice a n c]).run P w = .ok (.slice base (sLen + n) sCap) w' := by
  obtain ⟨e', hU⟩ := hU
  have hf := run_firstCells' (P := P) (ti P e).sz n c news hl hnews
  have hs := run_sizeOf' hek w
  cases base with
  | some b =>
    simp only at hst
    simp [Builtin.append_, run_underlying' hT, run_underlying' hU, hs, Builtin.lenOf, hroom, hf, hst]
  | none =>
    simp only [Sem.run_pure] at hst
    cases hst
    simp [Builtin.append_, run_underlying' hT, run_underlying' hU, hs, Builtin.lenOf, hroom, hf]

theorem OpRes.kill {w : World} {G : Nat → Prop} {m : Where} {fr : List Nat} {out : AV} {ch : Heap} {v : Value} {w' : World} {G' : Nat → Prop} {m' : Where} (h : OpRes w G m fr out ch v w' G' m') (id : Nat) :
    OpRes w G m fr out (ch ++ [(id, none)]) v w' G' m' := by
  have hk : ∀ x, x ∈ keys ch → x ∈ keys (ch ++ [(id, none)]) := fun x hx => by simp only [keys, List.map_append, List.mem_append] at hx ⊢; exact .inl hx
  have e : ∀ j x, hl (ch ++ [(id, none)]) j = some (some x) → hl ch j = some (some x) := by
    intro j x
    have : ∀ (l : Heap), hl (l ++ [(id, none)]) j = some (some x) → hl l j = some (some x) := by
      intro l
      induction l with
      | nil => simp [hl]
      | cons p r ih =>
        obtain ⟨i, q⟩ := p
        simp only [List.cons_append, hl]
        split
        · exact fun h => h
        · exact ih
    exact this ch
  refine ⟨h.ev.weaken fun b ⟨i, hi, x⟩ => .inl ⟨i, hk i hi, x⟩, h.rep, fun i x hx => h.obj i x (e i x hx), fun i es x hx hlv hx' => (h.blk i es x (e i _ hx) hlv hx').imp (fun h => h) fun ⟨i', hi', y⟩ => ⟨i', hk i' hi', y⟩,
    fun i j es es' x y hi hj => h.apart i j es es' x y (e i _ hi) (e j _ hj), h.ids⟩

theorem OpRes.undrew {w : World} {G : Nat → Prop} {m : Where} {fr : List Nat} {out : AV} {ch : Heap} {v : Value} {w' : World} {G' : Nat → Prop} {m' : Where} (h : OpRes w.drew G m fr out ch v w' G' m') : OpRes w G m fr out ch v w' G' m' :=
  ⟨⟨h.ev.os, h.ev.tape, h.ev.output, h.ev.size, h.ev.blk, h.ev.shp, h.ev.sub, h.ev.new, h.ev.lt, h.ev.ext⟩, h.rep, h.obj, h.blk, h.apart, h.ids⟩

theorem Rep.drew {w : World} {G : Nat → Prop} {m : Where} {x : AV} {v : Value} (h : Rep w G m x v) (hg : ∀ b, G b → b < w.heap.size) : Rep w.drew G m x v :=
  Rep.mono (mu := fun _ => False) (w := w) (G := G) (m := m) (w' := w.drew) (G' := G) (m' := m) ⟨rfl, rfl, rfl, Nat.le_refl _, fun _ _ _ => rfl, fun _ _ h => h, fun _ h => h, fun _ h => .inl h, fun h => h, fun _ _ h => h⟩ (fun _ h => h.elim) hg h

/-- A new block that holds two lists of cells, and more. -/
theorem grow_res {w : World} {G : Nat → Prop} {m : Where} {nx : Nat} (hm : m nx = none) (hg : ∀ b, G b → b < w.heap.size) (e : TypeId) {k : Nat} (old new : List (List AV)) (olds news : List Value) (rest : Array Value)
    (hlo : olds.length = old.length * k) (hln : news.length = new.length * k) (hko : ∀ c ∈ old, c.length = k) (hkn : ∀ c ∈ new, c.length = k) (hne : old ++ new ≠ [])
    (ho : ∀ i (hi : i < old.length) j (hj : j < (old[i]).length), ∃ v, olds[i * k + j]? = some v ∧ v.oneCell' = true ∧ Rep w G m ((old[i])[j]) v)
    (hn : ∀ i (hi : i < new.length) j (hj : j < (new[i]).length), ∃ v, news[i * k + j]? = some v ∧ v.oneCell' = true ∧ Rep w G m ((new[i])[j]) v) (cap : Nat) (hcap : old.length + new.length ≤ cap) (hrest : rest.size = (cap - (old.length + new.length)) * k) :
    OpRes w G m [nx] (.rsl nx 0 (old.length + new.length)) [(nx, some (.cells false (old ++ new)))] (.slice (some ⟨w.heap.size, 0, none⟩) (old.length + new.length) cap)
      (w.drew.alloc (.cells (olds.toArray ++ news.toArray ++ rest) e)) G (mnew m nx (w.drew.heap.size, 0, k) (old ++ new)) := by
  have hkk : ∀ i (hi : i < (old ++ new).length), ((old ++ new)[i]).length = k := fun i hi => by
    have := List.getElem_mem hi
    rw [List.mem_append] at this
    exact this.elim (hko _) (hkn _)
  refine OpRes.undrew (OpRes.alloc (w := w.drew) hm hg _ e (old ++ new) k hkk (fun i hi j hj => ?_) ?_)
  · have hj' : j < k := by rw [hkk i hi] at hj; exact hj
    by_cases h1 : i < old.length
    · have hel : (old ++ new)[i] = old[i] := List.getElem_append_left h1
      obtain ⟨v, e1, e2, e3⟩ := ho i h1 j (by rw [← hel]; exact hj)
      have hlt := (List.getElem?_eq_some_iff.1 e1).1
      refine ⟨v, ?_, e2, ?_⟩
      · simp only [List.append_toArray, Array.getElem?_append, List.size_toArray, List.length_append]
        rw [if_pos (by omega)]
        simp [List.getElem?_append_left hlt, e1]
      · have := e3.drew hg
        simpa [hel] using this
    · have h2 : i - old.length < new.length := by simp at hi; omega
      have hel : (old ++ new)[i] = new[i - old.length] := List.getElem_append_right (by omega)
      obtain ⟨v, e1, e2, e3⟩ := hn _ h2 j (by rw [← hel]; exact hj)
      have hlt := (List.getElem?_eq_some_iff.1 e1).1
      have hmul : i * k = old.length * k + (i - old.length) * k := by rw [← Nat.add_mul]; congr 1; omega
      refine ⟨v, ?_, e2, ?_⟩
      · simp only [List.append_toArray, Array.getElem?_append, List.size_toArray, List.length_append]
        rw [if_pos (by omega)]
        simp only [List.getElem?_toArray]
        rw [List.getElem?_append_right (by omega), show i * k + j - olds.length = (i - old.length) * k + j by omega]
        exact e1
      · have := e3.drew hg
        simpa [hel] using this
  · have hs : (w.drew.alloc (.cells (olds.toArray ++ news.toArray ++ rest) e)).shape? w.heap.size = some (e, (olds.toArray ++ news.toArray ++ rest).size) := by
      show (match (w.heap.push _)[w.heap.size]? with | some (.cells c elem _) => some (elem, c.size) | _ => none) = _
      simp
    have := Rep.rsl (w := w.drew.alloc (.cells (olds.toArray ++ news.toArray ++ rest) e)) (G := G) (m := mnew m nx (w.drew.heap.size, 0, k) (old ++ new)) nx 0 (old.length + new.length) cap w.heap.size 0 k _ _ (by simp [mnew, mset, hne]) hcap hs (by
      simp only [Nat.zero_add, Array.size_append, List.size_toArray, hlo, hln, hrest]
      rw [← Nat.add_mul, ← Nat.add_mul]
      exact Nat.mul_le_mul_right _ (by omega))
    simpa using this

end
end Go.Bw
