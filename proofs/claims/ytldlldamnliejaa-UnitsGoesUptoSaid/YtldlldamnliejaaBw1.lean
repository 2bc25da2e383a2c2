/- One operation at a time: what it reads, what it makes (OpT), and what becomes of all else (Inv.step); the operations of a region in the order of the text, and in whatever order their edges allow. -/
import Derived.Test.YtldlldamnliejaaBw0
import Derived.TacticsIn
import Derived.OrdersIn
import Derived.CallsIn
import Derived.Orders
namespace Go.Bw
open Go

def hl : Heap → Nat → Option (Option Ob)
  | [], _ => none
  | (i, x) :: r, j => if j = i then some x else hl r j
def keys (ch : Heap) : List Nat := ch.map (·.1)
def hupd (H : Nat → Option Ob) (ch : Heap) : Nat → Option Ob := fun id => match hl ch id with | some c => c | none => H id
def restr (rd : List Nat) (H : Nat → Option Ob) : Nat → Option Ob := fun id => if id ∈ rd then H id else none
def tput (τ : Nat → AV) (d : Option Nat) (v : AV) : Nat → AV := fun t => if d = some t then v else τ t

theorem hl_none {ch : Heap} {id : Nat} : hl ch id = none ↔ id ∉ keys ch := by
  induction ch with
  | nil => simp [hl, keys]
  | cons p r ih =>
    obtain ⟨i, x⟩ := p
    simp only [hl, keys, List.map_cons, List.mem_cons]
    by_cases h : id = i
    · simp [h]
    · simpa [h, keys] using ih
theorem hl_some {ch : Heap} {id : Nat} {c : Option Ob} (h : hl ch id = some c) : id ∈ keys ch :=
  Decidable.byContradiction fun hn => by rw [hl_none.2 hn] at h; cases h
theorem hget_append (ch H : Heap) : hget (ch ++ H) = hupd (hget H) ch := by
  funext id
  induction ch with
  | nil => rfl
  | cons p r ih =>
    obtain ⟨i, x⟩ := p
    simp only [List.cons_append, hget, hupd, hl] at ih ⊢
    by_cases h : id = i
    · simp [h]
    · simpa [h, hupd] using ih

/-- What an operation leaves behind. -/
structure OpRes (w : World) (G : Nat → Prop) (m : Where) (fr : List Nat) (out : AV) (ch : Heap) (v : Value) (w' : World) (G' : Nat → Prop) (m' : Where) : Prop where
  ev : Ev (fun b => ∃ id ∈ keys ch, ∃ x, m id = some x ∧ x.1 = b) w G m w' G' m'
  rep : Rep w' G' m' out v
  obj : ∀ id x, hl ch id = some (some x) → ObjOk w' G' m' id x
  blk : ∀ id p x, hl ch id = some (some p) → p.live = true → m' id = some x → w.heap.size ≤ x.1 ∨ ∃ id' ∈ keys ch, ∃ y, m id' = some y ∧ y.1 = x.1
  apart : ∀ i j p q x y, hl ch i = some (some p) → hl ch j = some (some q) → p.live = true → q.live = true → i ≠ j → m' i = some x → m' j = some y → x.1 ≠ y.1
  ids : ∀ id, id ∉ fr → m' id = m id

/-- All that a machine may do; within a round of the loop 'ro'. -/
abbrev Fw (ro : Option Nat) : Fence := { Fence.wide with round := ro }

/-- An operation, by itself: it reads its operands and the objects 'rd'; it answers 'out', makes the objects 'fr', and turns objects as 'ch' says. -/
def OpT (P : Program) (o : Oper) (ρ : Operand → AV) (H : Nat → Option Ob) (rd fr : List Nat) (out : AV) (ch : Heap) : Prop :=
  (∀ id ∈ keys ch, id ∈ fr ∨ (id ∈ rd ∧ ∃ p, H id = some p ∧ p.live = true)) ∧ (∀ id ∈ fr, id ∈ keys ch) ∧ ((∀ c, o.op ≠ .defer c) →
  ∀ (ro : Option Nat) (n : Nat) (w : World) (G : Nat → Prop) (m : Where) (a : Act), (∀ b, G b → b < w.heap.size) → (∀ x ∈ o.op.operands, Rep w G m (ρ x) (a.eval x)) → HeapOk w G m (restr rd H) →
    (∀ id ∈ fr, m id = none) → ∀ (next : Act → World → Prop) (Q : Exit → Act → World → Prop),
    (∀ v w' G' m', OpRes w G m fr out ch v w' G' m' → next (a.put o.dst v) w') → o.wpIn (Fw ro) n P a w next Q)

/-- Where a walk began: temporaries, world, blocks that nobody writes, places, blocks that may be written; within a round: the loop's record. -/
structure Cx where
  N : Nat
  w0 : World
  G0 : Nat → Prop
  m0 : Where
  nx0 : Nat
  I0 : Nat → Prop
  mu0 : Nat → Prop
  ro : Option (Nat × Loop)

/-- What is laid aside: blocks that stay as they are; the blocks of deferred calls. -/
structure Rs where
  rs : List (Nat × Obj)
  ds : List Nat

def mark (b : Nat) : Deferred := { target := .collected b, args := #[] }

/-- What holds at a point of a walk. -/
structure Inv (c : Cx) (r : Rs) (U : Nat → Prop) (τ : Nat → AV) (H : Nat → Option Ob) (a : Act) (w : World) (G : Nat → Prop) (m : Where) : Prop where
  tmps : a.tmps.size = c.N
  dfr : a.defers = r.ds.map mark
  dsr : ∀ b ∈ r.ds, (b, Obj.deferred (some [])) ∈ r.rs ∧ c.w0.heap.size ≤ b
  dsn : r.ds.Nodup
  res : ∀ p ∈ r.rs, w.heap[p.1]? = some p.2 ∧ ¬ G p.1
  resA : ∀ p ∈ r.rs, ∀ id q x, H id = some q → q.live = true → m id = some x → x.1 ≠ p.1
  inR : ∀ l L, c.ro = some (l, L) → (l, Obj.loop L) ∈ r.rs
  g : ∀ b, G b → b < w.heap.size
  rep : ∀ t, Rep w G m (τ t) (a.tmps.getD t undef)
  heap : HeapOk w G m H
  ev : Ev c.mu0 c.w0 c.G0 c.m0 w G m
  own : ∀ id p x, H id = some p → p.live = true → m id = some x → c.mu0 x.1 ∨ c.w0.heap.size ≤ x.1
  ids : ∀ id x, m id = some x → U id
  idh : ∀ id p, H id = some p → U id
  old : ∀ id, id < c.nx0 → m id = c.m0 id
  unx : ∀ id, id < c.nx0 → U id
  new : ∀ id p, H id = some p → id < c.nx0 → c.I0 id

theorem getD_put (a : Act) (d : Option Nat) (v : Value) (t : Nat) (h : ∀ x, d = some x → x < a.tmps.size) :
    (a.put d v).tmps.getD t undef = if d = some t then v else a.tmps.getD t undef := by
  cases d with
  | none => simp [Act.put]
  | some d =>
    have hd := h d rfl
    simp only [Act.put, Array.getD_eq_getD_getElem?, Array.getElem?_setIfInBounds, Option.some.injEq]
    by_cases e : d = t
    · subst e; simp [hd]
    · simp [e]

theorem Inv.step {c : Cx} {r : Rs} {U U' : Nat → Prop} {τ : Nat → AV} {H : Nat → Option Ob} {a : Act} {w : World}
    {G : Nat → Prop} {m : Where} (h : Inv c r U τ H a w G m) {rd fr : List Nat} {out : AV} {ch : Heap} {d : Option Nat} {v : Value} {w' : World} {G' : Nat → Prop} {m' : Where}
    (hd : ∀ x, d = some x → x < c.N) (hk : ∀ id ∈ keys ch, id ∈ fr ∨ (id ∈ rd ∧ ∃ p, H id = some p ∧ p.live = true)) (hfk : ∀ id ∈ fr, id ∈ keys ch) (hfr : ∀ id ∈ fr, m id = none) (hnU : ∀ id ∈ fr, ¬ U id)
    (hU : ∀ id, U id → U' id) (hU2 : ∀ id ∈ fr, U' id)
    (hr : OpRes w G m fr out ch v w' G' m') : Inv c r U' (tput τ d out) (hupd H ch) (a.put d v) w' G' m' := by
  have live : ∀ id ∈ keys ch, ∀ x, m id = some x → ∃ p, H id = some p ∧ p.live = true := fun id hid x hx => (hk id hid).elim (fun hf => by rw [hfr id hf] at hx; cases hx) (fun h => h.2)
  have hmu : ∀ b, (∃ id ∈ keys ch, ∃ x, m id = some x ∧ x.1 = b) → ¬ G b := by
    rintro b ⟨id, hid, x, hx, rfl⟩
    obtain ⟨p, he, hp⟩ := live id hid x hx
    exact (h.heap.obj id _ he).notG hp hx
  have hmu0 : ∀ b, (∃ id ∈ keys ch, ∃ x, m id = some x ∧ x.1 = b) → c.mu0 b ∨ c.w0.heap.size ≤ b := by
    rintro b ⟨id, hid, x, hx, rfl⟩
    obtain ⟨p, he, hp⟩ := live id hid x hx
    exact h.own id p x he hp hx
  have sep : ∀ i p, hl ch i = none → H i = some p → p.live = true → ∀ x, m i = some x → ¬ ∃ id ∈ keys ch, ∃ y, m id = some y ∧ y.1 = x.1 := by
    rintro i p hi hes hp x hx ⟨id, hid, y, hy, e⟩
    obtain ⟨q, he', hq⟩ := live id hid y hy
    have hne : id ≠ i := fun e' => (hl_none.1 hi) (e' ▸ hid)
    exact h.heap.apart id i q p y x he' hes hq hp hne hy hx e
  have sepR : ∀ p ∈ r.rs, ¬ ∃ id ∈ keys ch, ∃ y, m id = some y ∧ y.1 = p.1 := by
    rintro p hp ⟨id, hid, y, hy, e⟩
    obtain ⟨q, he', hq⟩ := live id hid y hy
    exact h.resA p hp id q y he' hq hy e
  have ltR : ∀ p ∈ r.rs, p.1 < w.heap.size := fun p hp => (Array.getElem?_eq_some_iff.1 (h.res p hp).1).1
  refine ⟨?_, ?_, h.dsr, h.dsn, ?_, ?_, h.inR, fun b hb => hr.ev.lt h.g b hb, fun t => ?_, ⟨?_, ?_⟩, h.ev.trans hr.ev hmu0, ?_, ?_, ?_, fun id hid => (hr.ids id fun hf => hnU id hf (h.unx id hid)).trans (h.old id hid), fun id hid => hU id (h.unx id hid), ?_⟩
  · cases d <;> simp [Act.put, h.tmps]
  · cases d <;> simp [Act.put, h.dfr]
  · intro p hp
    refine ⟨(hr.ev.blk p.1 (ltR p hp) (sepR p hp)).trans (h.res p hp).1, fun hG => ?_⟩
    rcases hr.ev.new p.1 hG with h' | h' | h'
    · exact (h.res p hp).2 h'
    · have := ltR p hp; omega
    · exact sepR p hp h'
  · intro p hp id q x he hq hx
    unfold hupd at he
    cases hl' : hl ch id with
    | some c =>
      rw [hl'] at he; dsimp only at he; subst he
      rcases hr.blk id q x hl' hq hx with h1 | ⟨id', hid', y, hy, e⟩
      · have := ltR p hp; omega
      · exact fun e' => sepR p hp ⟨id', hid', y, hy, e.trans e'⟩
    | none =>
      rw [hl'] at he; dsimp only at he
      have hm : m id = some x := (hr.ids id fun hf => (hl_none.1 hl') (hfk id hf)) ▸ hx
      exact h.resA p hp id q _ he hq hm
  · rw [getD_put a d v t (fun x hx => h.tmps ▸ hd x hx)]
    unfold tput
    split
    · exact hr.rep
    · exact (h.rep t).mono hr.ev hmu h.g
  · intro id es he
    unfold hupd at he
    cases hl' : hl ch id with
    | some c => rw [hl'] at he; dsimp only at he; subst he; exact hr.obj id es hl'
    | none =>
      rw [hl'] at he; dsimp only at he
      exact (h.heap.obj id es he).mono hr.ev hmu h.g (fun hf x hx => sep id es hl' he hf x hx) (hr.ids id fun hf => (hl_none.1 hl') (hfk id hf))
  · intro i j p q x y hi hj hp hq hne hx hy
    unfold hupd at hi hj
    cases hi' : hl ch i with
    | some c =>
      rw [hi'] at hi; dsimp only at hi; subst hi
      cases hj' : hl ch j with
      | some c' => rw [hj'] at hj; dsimp only at hj; subst hj; exact hr.apart i j p q x y hi' hj' hp hq hne hx hy
      | none =>
        rw [hj'] at hj; dsimp only at hj
        have hm : m j = some y := (hr.ids j fun hf => (hl_none.1 hj') (hfk j hf)) ▸ hy
        have hlt := (h.heap.obj j _ hj).lt hq hm
        rcases hr.blk i p x hi' hp hx with h1 | h1
        · omega
        · intro e; exact sep j q hj' hj hq _ hm (by obtain ⟨a1, a2, a3, a4, a5⟩ := h1; exact ⟨a1, a2, a3, a4, a5.trans e⟩)
    | none =>
      rw [hi'] at hi; dsimp only at hi
      have hm : m i = some x := (hr.ids i fun hf => (hl_none.1 hi') (hfk i hf)) ▸ hx
      have hlt := (h.heap.obj i _ hi).lt hp hm
      cases hj' : hl ch j with
      | some c' =>
        rw [hj'] at hj; dsimp only at hj; subst hj
        rcases hr.blk j q y hj' hq hy with h1 | h1
        · omega
        · intro e; exact sep i p hi' hi hp _ hm (by obtain ⟨a1, a2, a3, a4, a5⟩ := h1; exact ⟨a1, a2, a3, a4, a5.trans e.symm⟩)
      | none =>
        rw [hj'] at hj; dsimp only at hj
        have hm' : m j = some y := (hr.ids j fun hf => (hl_none.1 hj') (hfk j hf)) ▸ hy
        exact h.heap.apart i j p q _ _ hi hj hp hq hne hm hm'
  · intro id p x he hp hx
    unfold hupd at he
    cases hl' : hl ch id with
    | some c =>
      rw [hl'] at he; dsimp only at he; subst he
      rcases hr.blk id p x hl' hp hx with h1 | ⟨id', hid', y, hy, e⟩
      · exact .inr (Nat.le_trans h.ev.size h1)
      · exact e ▸ hmu0 y.1 ⟨id', hid', y, hy, rfl⟩
    | none =>
      rw [hl'] at he; dsimp only at he
      have hm : m id = some x := (hr.ids id fun hf => (hl_none.1 hl') (hfk id hf)) ▸ hx
      exact h.own id p _ he hp hm
  · intro id x hx
    by_cases hf : id ∈ fr
    · exact hU2 id hf
    · rw [hr.ids id hf] at hx; exact hU id (h.ids id x hx)
  · intro id p he
    unfold hupd at he
    cases hl' : hl ch id with
    | some c =>
      rcases hk id (hl_some hl') with h1 | ⟨_, q, hq, _⟩
      · exact hU2 id h1
      · exact hU id (h.idh id q hq)
    | none => rw [hl'] at he; exact hU id (h.idh id p he)
  · intro id p he hlt
    unfold hupd at he
    cases hl' : hl ch id with
    | some c =>
      rcases hk id (hl_some hl') with h1 | ⟨_, q, hq, _⟩
      · exact absurd (h.unx id hlt) (hnU id h1)
      · exact h.new id q hq hlt
    | none => rw [hl'] at he; exact h.new id p he hlt

end Go.Bw
