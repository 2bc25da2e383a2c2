/- Rules for operations that make memory or write it: box, alloc, store, index, append, make, slice. -/
import Derived.Test.YtldlldamnliejaaBw10
import Derived.Laws.AppendOwn
import Derived.Laws.MakeOwn
namespace Go.Bw
open Go

theorem Rep.mapM {w : World} {G : Nat → Prop} {m m' : Where} (hm : ∀ id x, m id = some x → m' id = some x) {x : AV} {v : Value} (h : Rep w G m x v) : Rep w G m' x v := by
  induction h with
  | val v => exact .val v
  | any v => exact .any v
  | slnil f => exact .slnil f
  | slnone f a cap hf => exact .slnone f a cap hf
  | sl f es sp b o cap k vs hG hcap hf hk hc h1 _ ih => exact .sl f es sp b o cap k vs hG hcap hf hk hc h1 ih
  | fptr cs b o vs hG hc h1 _ ih => exact .fptr cs b o vs hG hc h1 ih
  | ref id i off b o k hmm => exact .ref id i off b o k (hm _ _ hmm)
  | rsl id i len cap b o k e n hmm hlen hsh hin => exact .rsl id i len cap b o k e n (hm _ _ hmm) hlen hsh hin
  | rslz id i a => exact .rslz id i a
  | clo fn fs cs vf vc hf hc _ _ ih1 ih2 => exact .clo fn fs cs vf vc hf hc ih1 ih2
  | agg cs vs hl _ ih => exact .agg cs vs hl ih
  | tup cs vs hl _ ih => exact .tup cs vs hl ih
  | ifc t x v _ ih => exact .ifc t x v ih
  | mp id b hmm => exact .mp id b (hm _ _ hmm)
  | it id b hmm => exact .it id b (hm _ _ hmm)
  | yld id b hmm => exact .yld id b (hm _ _ hmm)

theorem shape_alloc {w : World} {o : Obj} {b : Nat} {x : TypeId × Nat} (h : w.shape? b = some x) : (w.alloc o).shape? b = some x := by
  have hb : b < w.heap.size := by
    unfold World.shape? at h
    rcases Nat.lt_or_ge b w.heap.size with h' | h'
    · exact h'
    · simp [Array.getElem?_eq_none h'] at h
  simp only [World.shape?, World.alloc, Array.getElem?_push, if_neg (Nat.ne_of_lt hb)] at h ⊢
  exact h

theorem Ev.alloc {mu : Nat → Prop} (w : World) (G : Nat → Prop) (m : Where) (o : Obj) {m' : Where} (hm : ∀ id x, m id = some x → m' id = some x) : Ev mu w G m (w.alloc o) G m' :=
  ⟨rfl, rfl, rfl, by simp, fun b hb _ => by simp only [World.alloc, Array.getElem?_push, if_neg (Nat.ne_of_lt hb)], fun b x hx => shape_alloc hx, fun _ h => h, fun _ h => .inl h,
    fun h b hb => by simpa using Nat.lt_succ_of_lt (h b hb), hm⟩

/-- The places behind a new block: of a block without elements nothing is kept. -/
def mnew (m : Where) (id : Nat) (x : Nat × Nat × Nat) (es : List (List AV)) : Where := if es = [] then m else mset m id x

/-- A new block of the call's own. -/
theorem OpRes.alloc {w : World} {G : Nat → Prop} {m : Where} {nx : Nat} (hm : m nx = none) (hg : ∀ b, G b → b < w.heap.size) (vs : Array Value) (T : TypeId) (es : List (List AV)) (k : Nat)
    (hk : ∀ i (hi : i < es.length), (es[i]).length = k) (hc : ∀ i (hi : i < es.length) j (hj : j < (es[i]).length), ∃ v, vs[i * k + j]? = some v ∧ v.oneCell' = true ∧ Rep w G m ((es[i])[j]) v)
    {out : AV} {v : Value} (hout : Rep (w.alloc (.cells vs T)) G (mnew m nx (w.heap.size, 0, k) es) out v) :
    OpRes w G m [nx] out [(nx, some (.cells false es))] v (w.alloc (.cells vs T)) G (mnew m nx (w.heap.size, 0, k) es) := by
  have hext : ∀ id x, m id = some x → mnew m nx (w.heap.size, 0, k) es id = some x := fun id x hx => by
    unfold mnew
    split
    · exact hx
    · unfold mset
      split
      · rename_i e; subst e; rw [hm] at hx; cases hx
      · exact hx
  have hev : ∀ mu, Ev mu w G m (w.alloc (.cells vs T)) G (mnew m nx (w.heap.size, 0, k) es) := fun mu => Ev.alloc w G m _ hext
  refine ⟨hev _, hout, fun id x hx => ?_, fun id es' x hx _ hx' => ?_, fun i j es1 es2 x y h1 h2 _ _ hne => ?_, fun id hid => ?_⟩
  · simp only [hl] at hx
    split at hx
    · rename_i e; subst e; cases hx
      by_cases he : es = []
      · exact .inl ⟨he, by simp [mnew, he, hm]⟩
      refine .inr ⟨he, w.heap.size, 0, k, by simp [mnew, mset, he], (fun h => by cases h), fun _ => ⟨fun hG => by have := hg _ hG; omega, vs, T, by show (w.heap.push _)[w.heap.size]? = _; simp⟩, hk, fun i hi j hj => ?_⟩
      obtain ⟨v, h1, h2, h3⟩ := hc i hi j hj
      refine ⟨v, ?_, h2, h3.mono (hev fun _ => False) (fun _ h => h.elim) hg⟩
      rw [World.cell?_alloc_new, Nat.zero_add]; exact h1
    · cases hx
  · left
    simp only [hl] at hx
    split at hx
    · rename_i e; subst e
      unfold mnew at hx'
      split at hx'
      · rw [hm] at hx'; cases hx'
      · simp [mset] at hx'; rw [← hx']; exact Nat.le_refl _
    · cases hx
  · simp only [hl] at h1 h2
    split at h1
    · rename_i e; split at h2
      · rename_i e'; exact absurd (e.trans e'.symm) hne
      · cases h2
    · cases h1
  · simp only [List.mem_singleton] at hid
    unfold mnew
    split
    · rfl
    · simp [mset, hid]

section
variable {P : Program}

theorem OpS.alloc {o : Oper} {S : St} {K : OK} (es : List (List AV)) (out : AV) (hK : K [] 1 out [(S.nx, some (.cells false es))])
    (h : ∀ (w : World) (G : Nat → Prop) (m : Where) (a : Act), (∀ b, G b → b < w.heap.size) → (∀ x ∈ o.op.operands, Rep w G m (evalA (get S.t) x) (a.eval x)) → ∃ (vs : Array Value) (T : TypeId) (k : Nat) (v : Value),
      (execOp a.eval o).run P w = .ok (.value v) (w.alloc (.cells vs T)) ∧ (∀ i (hi : i < es.length), (es[i]).length = k) ∧
      (∀ i (hi : i < es.length) j (hj : j < (es[i]).length), ∃ v, vs[i * k + j]? = some v ∧ v.oneCell' = true ∧ Rep w G m ((es[i])[j]) v) ∧
      ∀ m' : Where, (es ≠ [] → m' S.nx = some (w.heap.size, 0, k)) → Rep (w.alloc (.cells vs T)) G m' out v) : OpS P o S K := by
  refine ⟨[], 1, out, [(S.nx, some (.cells false es))], OpT.of_run (fun id hid => .inl ?_) (fun id hid => ?_) fun w G m a hg hx _ hfr => ?_, hK⟩
  · simpa [keys, frs] using hid
  · simpa [keys, frs] using hid
  · obtain ⟨vs, T, k, v, h1, h2, h3, h4⟩ := h w G m a hg hx
    have hm : m S.nx = none := hfr S.nx (by simp [frs])
    have := OpRes.alloc (nx := S.nx) hm hg vs T es k h2 h3 (h4 _ (fun he => by simp [mnew, mset, he]))
    exact ⟨v, _, _, _, .inl h1, by simpa [frs] using this⟩

theorem s_box {o : Oper} {S : St} {K : OK} {T : TypeId} {x : Operand} (ho : o.op = .box T x)
    (h : (cellsOf (evalA (get S.t) x)).all AV.one = true ∧ K [] 1 (.ref S.nx 0 0) [(S.nx, some (.cells false [cellsOf (evalA (get S.t) x)]))]) : OpS P o S K := by
  refine OpS.alloc _ _ h.2 fun w G m a _ hx => ?_
  obtain ⟨hl, hr⟩ := rep_cells (hx x (by simp [ho, Op.operands])) h.1
  refine ⟨(a.eval x).cells, T, (cellsOf (evalA (get S.t) x)).length, .pointer (some ⟨w.heap.size, 0, none⟩), by simp [execOp, ho, Instr.box, newVar, newRow], fun i hi => ?_, fun i hi j hj => ?_, fun m' hm' => ?_⟩
  · have : i = 0 := by simp at hi; omega
    subst this; rfl
  · have : i = 0 := by simp at hi; omega
    subst this
    simp only [List.getElem_cons_zero] at hj ⊢
    have hj' : j < (a.eval x).cells.size := by omega
    refine ⟨(a.eval x).cells.getD j undef, by simp [Array.getD, hj'], (hr j hj).2, (hr j hj).1⟩
  · have := Rep.ref (w := w.alloc (.cells (a.eval x).cells T)) (G := G) (m := m') S.nx 0 0 w.heap.size 0 _ (hm' (by simp))
    simpa using this

theorem rep_zero {T : TypeId} (w : World) (G : Nat → Prop) (m : Where) {i : TypeInfo} {z : Value} {d : TypeDesc} (h1 : P.info? T = some i) (h2 : P.underlying T = some d) (hz : i.zero = some z) :
    (ti P T).zero.length = z.cells.size ∧ ∀ j (hj : j < (ti P T).zero.length), Rep w G m ((ti P T).zero[j]) (z.cells.getD j undef) := by
  have e : (ti P T).zero = z.cells.toList.map ofConst := by simp [ti, h1, h2, hz]
  rw [e]
  refine ⟨by simp, fun j hj => ?_⟩
  have hj' : j < z.cells.size := by simpa using hj
  simp only [List.getElem_map, Array.getElem_toList]
  rw [show z.cells.getD j undef = z.cells[j] by simp [Array.getD, hj']]
  exact rep_ofConst w G m _

/-- The zero value of a type is known. -/
def zeroKnown (P : Program) (T : TypeId) : Bool := match P.info? T with | some i => i.zero.isSome | none => false

theorem s_alloc {o : Oper} {S : St} {K : OK} {T : TypeId} (ho : o.op = .alloc T)
    (h : (ti P T).known = true ∧ zeroKnown P T = true ∧ (ti P T).zero.all AV.one = true ∧ K [] 1 (.ref S.nx 0 0) [(S.nx, some (.cells false [(ti P T).zero]))]) : OpS P o S K := by
  obtain ⟨hk, hzk, hone, hK⟩ := h
  obtain ⟨i, d, h1, h2⟩ := ti_known hk
  obtain ⟨z, hz⟩ : ∃ z, i.zero = some z := by
    simp only [zeroKnown, h1] at hzk
    exact Option.isSome_iff_exists.1 hzk
  refine OpS.alloc _ _ hK fun w G m a _ hx => ?_
  obtain ⟨hl, hr⟩ := rep_zero (P := P) w G m h1 h2 hz
  refine ⟨z.cells, T, (ti P T).zero.length, .pointer (some ⟨w.heap.size, 0, none⟩), by simp [execOp, ho, Instr.alloc, newVar, newRow, zeroValue, run_typeInfo' h1, hz], fun i hi => ?_, fun i hi j hj => ?_, fun m' hm' => ?_⟩
  · have : i = 0 := by simp at hi; omega
    subst this; rfl
  · have : i = 0 := by simp at hi; omega
    subst this
    simp only [List.getElem_cons_zero] at hj ⊢
    have hj' : j < z.cells.size := by omega
    exact ⟨z.cells.getD j undef, by simp [Array.getD, hj'], rep_one (hr j hj) (List.all_eq_true.1 hone _ (List.getElem_mem hj)), hr j hj⟩
  · have := Rep.ref (w := w.alloc (.cells z.cells T)) (G := G) (m := m') S.nx 0 0 w.heap.size 0 _ (hm' (by simp))
    simpa using this

/-! ### a store -/
theorem setCell_block (w : World) (b o : Nat) (v : Value) (c : Array Value) (e : TypeId) (fr : Nat × Nat) (h : w.heap[b]? = some (.cells c e fr)) :
    (w.setCell ⟨b, o, none⟩ v).heap[b]? = some (.cells (c.setIfInBounds o v) e fr) := by
  simp [World.setCell, Array.getElem?_modify, h]

theorem run_storeCells' (e : TypeId) (b : Nat) : ∀ (vs : List Value) (i q : Nat) (w : World) (c : Array Value), w.heap[b]? = some (.cells c e (0, 0)) → q + i + vs.length ≤ c.size → (∀ v ∈ vs, v.oneCell' = true) →
    ∃ w' c', (storeCells ⟨b, q, none⟩ vs i).run P w = .ok () w' ∧ w'.heap[b]? = some (.cells c' e (0, 0)) ∧ c'.size = c.size ∧
      (∀ x, c'[x]? = if q + i ≤ x ∧ x < q + i + vs.length then vs[x - (q + i)]? else c[x]?) ∧ w'.os = w.os ∧ w'.tape = w.tape ∧ w'.output = w.output ∧ w'.heap.size = w.heap.size ∧
      ∀ b', b' ≠ b → w'.heap[b']? = w.heap[b']? := by
  intro vs
  induction vs with
  | nil =>
    intro i q w c hb _ _
    refine ⟨w, c, by simp [storeCells], hb, rfl, fun x => ?_, rfl, rfl, rfl, rfl, fun _ _ => rfl⟩
    rw [if_neg (by simp only [List.length_nil]; omega)]
  | cons v vs ih =>
    intro i q w c hb hle h1
    have hadd : (Addr.add ⟨b, q, none⟩ i) = ⟨b, q + i, none⟩ := by unfold Addr.add; split <;> simp_all
    simp only [List.length_cons] at hle
    have hc : w.cell? ⟨b, q + i, none⟩ = some c[q + i] := by simp [World.cell?, hb, show q + i < c.size by omega]
    have hf : w.frozen? ⟨b, q + i, none⟩ = false := by simp [World.frozen?, hb]
    obtain ⟨w', c', hr, hb', hs', hx', h2, h3, h4, h5, h6⟩ := ih (i + 1) q (w.setCell ⟨b, q + i, none⟩ v) (c.setIfInBounds (q + i) v) (setCell_block w b (q + i) v c e _ hb) (by simp; omega) (fun u hu => h1 u (by simp [hu]))
    refine ⟨w', c', ?_, hb', by simpa using hs', fun x => ?_, h2, h3, h4, by simpa using h5, fun b' hne => (h6 b' hne).trans (Below.heap_setCell' w b b' (q + i) v hne)⟩
    · simp only [storeCells, Sem.run_bind, hadd, run_store P w _ v _ (h1 v (by simp)), hc, hf, Bool.false_eq_true, if_false, Result.andThen_ok]
      exact hr
    · rw [hx' x]
      by_cases e1 : x = q + i
      · subst e1
        rw [if_neg (by omega), if_pos (by simp)]
        simp [show q + i < c.size by omega]
      · by_cases e2 : q + (i + 1) ≤ x ∧ x < q + (i + 1) + vs.length
        · rw [if_pos e2, if_pos (by simp; omega)]
          rw [show x - (q + i) = (x - (q + (i + 1))) + 1 by omega, List.getElem?_cons_succ]
        · rw [if_neg e2, if_neg (by simp; omega)]
          simp [show q + i ≠ x from fun h => e1 h.symm]
where
  Below.heap_setCell' (w : World) (b b' o : Nat) (v : Value) (h : b' ≠ b) : (w.setCell ⟨b, o, none⟩ v).heap[b']? = w.heap[b']? := by
    simp only [World.setCell, Array.getElem?_modify]
    rw [if_neg (fun e => h e.symm)]

def splice (cs : List AV) (off : Nat) (new : List AV) : List AV := cs.take off ++ new ++ cs.drop (off + new.length)

def aStore (t : TI) (x y : AV) (H : Heap) (K : OK) : Prop := match x with
  | .ref id i off => match hget H id with
    | some (.cells false es) => match es[i]? with
      | some cs => t.known = true ∧ 0 < t.sz ∧ off + t.sz ≤ cs.length ∧ (cellsOf y).length = t.sz ∧ (cellsOf y).all AV.one = true ∧ K [id] 0 (.val undef) [(id, some (.cells false (es.set i (splice cs off (cellsOf y)))))]
      | none => False
    | _ => False
  | _ => False

theorem s_store {o : Oper} {S : St} {K : OK} {T : TypeId} {x y : Operand} (ho : o.op = .store T x y) (h : aStore (ti P T) (evalA (get S.t) x) (evalA (get S.t) y) S.h K) : OpS P o S K := by
  unfold aStore at h
  split at h
  case h_2 => exact h.elim
  rename_i id i off hx'
  split at h
  case h_2 => exact h.elim
  rename_i es hes
  split at h
  case h_2 => exact h.elim
  rename_i cs hcs
  obtain ⟨hkn, hpos, hle, hlen, hone, hK⟩ := h
  obtain ⟨hi, hci⟩ := List.getElem?_eq_some_iff.1 hcs
  refine ⟨[id], 0, .val undef, _, OpT.of_run (fun j hj => .inr ?_) (by simp [frs]) fun w G m a hg hx hH _ => ?_, hK⟩
  · have : j = id := by simpa [keys] using hj
    subst this; exact ⟨by simp, _, hes, rfl⟩
  have h1 := hx x (by simp [ho, Op.operands]); rw [hx'] at h1
  generalize hev : a.eval x = ex at h1
  cases h1 with
  | ref _ _ _ b q k hm =>
    have hy := rep_cells (hx y (by simp [ho, Op.operands])) hone
    have hob : ObjOk w G m id (.cells false es) := hH.obj id _ (by simp [restr, hes])
    obtain ⟨_, hm'⟩ | ⟨hne0, b', q', k', hm', _, h2, hk, hcells⟩ := hob
    · rw [hm] at hm'; cases hm'
    rw [hm] at hm'; cases hm'
    obtain ⟨hnG, c, e, hb⟩ := h2 rfl
    have hcsl : cs.length = k := by rw [← hci]; exact hk i hi
    -- the last cell of the element lies in the block
    have hin : ∀ j, j < cs.length → q + i * k + j < c.size := by
      intro j hj
      obtain ⟨v, hv, _⟩ := hcells i hi j (by rw [hci]; exact hj)
      simp only [World.cell?, hb] at hv
      exact (Array.getElem?_eq_some_iff.1 hv).1
    have hfit : q + i * k + off + 0 + (a.eval y).cells.toList.length ≤ c.size := by
      simp only [Array.length_toList, ← hy.1, hlen]
      have := hin (off + (ti P T).sz - 1) (by omega); omega
    obtain ⟨w', c', hr, hb', hs', hx'', g1, g2, g3, g4, g5⟩ := run_storeCells' (P := P) e b (a.eval y).cells.toList 0 (q + i * k + off) w c hb hfit (fun v hv => by
      obtain ⟨j, hj, rfl⟩ := List.getElem_of_mem hv
      have hj' : j < (a.eval y).cells.size := by simpa using hj
      have := (hy.2 j (by omega)).2
      simpa [Array.getD, hj'] using this)
    have hev' : Ev (fun b' => b' = b) w G m w' G m := by
      refine ⟨g1, g2, g3, by omega, fun b1 _ hn => g5 b1 hn, fun b1 y' hy' => ?_, fun _ h => h, fun _ h => .inl h, fun h b1 hb1 => by have := h b1 hb1; omega, fun _ _ h => h⟩
      by_cases e1 : b1 = b
      · subst e1
        simp only [World.shape?, hb, hb'] at hy' ⊢
        rw [hs']; exact hy'
      · simp only [World.shape?, g5 b1 e1] at hy' ⊢; exact hy'
    have hmuG : ∀ b1, b1 = b → ¬ G b1 := fun b1 e1 => e1 ▸ hnG
    refine ⟨undef, w', G, m, .inr ⟨?_, rfl⟩, hev'.weaken (fun b1 e1 => .inl ⟨id, by simp [keys], _, hm, e1.symm⟩), .val undef, fun id' x' hx1 => ?_, fun id' es' x' hx1 _ hx2 => .inr ⟨id', ?_, x', ?_, rfl⟩, fun i1 i2 es1 es2 x1 x2 hh1 hh2 _ _ hne => ?_, fun _ _ => rfl⟩
    · simp only [execOp, ho, hev, Instr.storeAt, Instr.sureAddr, storeVar]
      have hsz : (a.eval y).cells.size = (ti P T).sz := by rw [← hy.1]; exact hlen
      simp [run_sizeOf' hkn, hsz, hr]
    · simp only [hl] at hx1
      split at hx1
      case isFalse => cases hx1
      rename_i e1; subst e1; cases hx1
      refine .inr ⟨by simpa using hne0, b, q, k, hm, (fun h => by cases h), fun _ => ⟨hnG, c', e, hb'⟩, fun i1 hi1 => ?_, fun i1 hi1 j hj => ?_⟩
      · simp only [List.length_set] at hi1
        simp only [List.getElem_set]
        split
        · simp only [splice, List.length_append, List.length_take, List.length_drop, hlen]; omega
        · exact hk i1 hi1
      · simp only [List.length_set] at hi1
        simp only [List.getElem_set] at hj ⊢
        by_cases e2 : i = i1
        · subst e2
          simp only [if_true] at hj ⊢
          simp only [splice, List.length_append, List.length_take, List.length_drop, hlen] at hj
          have hcell : w'.cell? ⟨b, q + i * k + j, none⟩ = c'[q + i * k + j]? := by simp [World.cell?, hb']
          rw [hcell, hx'' (q + i * k + j)]
          simp only [Nat.add_zero, Array.length_toList, ← hy.1, hlen]
          by_cases e3 : off ≤ j ∧ j < off + (ti P T).sz
          · rw [if_pos (by omega)]
            obtain ⟨hr1, hr2⟩ := hy.2 (j - off) (by omega)
            refine ⟨(a.eval y).cells.getD (j - off) undef, ?_, hr2, ?_⟩
            · have hj' : j - off < (a.eval y).cells.size := by omega
              rw [show q + i * k + j - (q + i * k + off) = j - off by omega]
              simp [Array.getD, hj']
            · simp only [splice]
              rw [List.getElem_append_left (by simp; omega), List.getElem_append_right (by simp; omega)]
              simp only [List.length_take, show min off cs.length = off by omega]
              exact hr1.mono hev' hmuG hg
          · rw [if_neg (by omega)]
            obtain ⟨v, hv, hv1, hv2⟩ := hcells i hi j (by rw [hci]; omega)
            simp only [World.cell?, hb] at hv
            refine ⟨v, hv, hv1, ?_⟩
            have hv2 := hv2.mono hev' hmuG hg
            by_cases e4 : j < off
            · simp only [splice, List.append_assoc]
              rw [List.getElem_append_left (by simp; omega)]
              simpa [hci] using hv2
            · simp only [splice]
              rw [List.getElem_append_right (by simp; omega)]
              simp only [List.getElem_drop, List.length_append, List.length_take]
              have e5 : off + (cellsOf (evalA (get S.t) y)).length + (j - (min off cs.length + (cellsOf (evalA (get S.t) y)).length)) = j := by omega
              simp only [e5]
              simpa [hci] using hv2
        · simp only [if_neg e2] at hj ⊢
          obtain ⟨v, hv, hv1, hv2⟩ := hcells i1 hi1 j hj
          refine ⟨v, ?_, hv1, hv2.mono hev' hmuG hg⟩
          have hcell : w'.cell? ⟨b, q + i1 * k + j, none⟩ = c'[q + i1 * k + j]? := by simp [World.cell?, hb']
          rw [hcell, hx'' (q + i1 * k + j)]
          simp only [World.cell?, hb] at hv
          simp only [Nat.add_zero, Array.length_toList, ← hy.1, hlen]
          have hjk : j < k := by rw [← hk i1 hi1]; exact hj
          have : ¬ (q + i * k + off ≤ q + i1 * k + j ∧ q + i1 * k + j < q + i * k + off + (ti P T).sz) := by
            rcases Nat.lt_or_gt_of_ne e2 with h' | h'
            · have : (i + 1) * k ≤ i1 * k := Nat.mul_le_mul_right _ h'
              rw [Nat.add_mul] at this; omega
            · have : (i1 + 1) * k ≤ i * k := Nat.mul_le_mul_right _ h'
              rw [Nat.add_mul] at this; omega
          rw [if_neg this]; exact hv
    · simp only [hl] at hx1
      split at hx1
      · rename_i e1; simp [keys, e1]
      · cases hx1
    · exact hx2
    · simp only [hl] at hh1 hh2
      split at hh1
      · rename_i e1; split at hh2
        · rename_i e2; exact absurd (e1.trans e2.symm) hne
        · cases hh2
      · cases hh1
end

end Go.Bw
