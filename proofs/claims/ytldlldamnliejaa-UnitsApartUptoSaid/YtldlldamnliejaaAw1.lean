/- One operation at a time: what it reads, what it makes (OpT), and what becomes of all else (Inv.step); the operations of a region in the order of the text, and in whatever order their edges allow. -/
import Derived.Test.YtldlldamnliejaaAw0
import Derived.Orders
namespace Go.Aw
open Go

def hl : Heap → Nat → Option (Option Ob)
  | [], _ => none
  | (i, x) :: r, j => if j = i then some x else hl r j
def keys (ch : Heap) : List Nat := ch.map (·.1)
def hupd (H : Nat → Option Ob) (ch : Heap) : Nat → Option Ob := fun id => match hl ch id with | some c => c | none => H id
def restr (rd : List Nat) (H : Nat → Option Ob) : Nat → Option Ob := fun id => if id ∈ rd then H id else none
def tput (τ : Nat → AV) (d : Option Nat) (v : AV) : Nat → AV := fun t => if d = some t then v else τ t

theorem hl_none {ch : Heap} {id : Nat} : hl ch id = none ↔ id ∉ keys ch := by
  induction ch with
  | nil => simp [hl, keys]
  | cons p r ih =>
    obtain ⟨i, x⟩ := p
    simp only [hl, keys, List.map_cons, List.mem_cons]
    by_cases h : id = i
    · simp [h]
    · simpa [h, keys] using ih
theorem hl_some {ch : Heap} {id : Nat} {c : Option Ob} (h : hl ch id = some c) : id ∈ keys ch :=
  Decidable.byContradiction fun hn => by rw [hl_none.2 hn] at h; cases h
theorem hget_append (ch H : Heap) : hget (ch ++ H) = hupd (hget H) ch := by
  funext id
  induction ch with
  | nil => rfl
  | cons p r ih =>
    obtain ⟨i, x⟩ := p
    simp only [List.cons_append, hget, hupd, hl] at ih ⊢
    by_cases h : id = i
    · simp [h]
    · simpa [h, hupd] using ih

/-- What an operation leaves behind. -/
structure OpRes (w : World) (G : Nat → Prop) (m : Where) (fr : List Nat) (out : AV) (ch : Heap) (v : Value) (w' : World) (G' : Nat → Prop) (m' : Where) : Prop where
  ev : Ev (fun b => ∃ id ∈ keys ch, ∃ x, m id = some x ∧ x.1 = b) w G m w' G' m'
  rep : Rep w' G' m' out v
  obj : ∀ id x, hl ch id = some (some x) → ObjOk w' G' m' id x
  blk : ∀ id es x, hl ch id = some (some (false, es)) → m' id = some x → w.heap.size ≤ x.1 ∨ ∃ id' ∈ keys ch, ∃ y, m id' = some y ∧ y.1 = x.1
  apart : ∀ i j es es' x y, hl ch i = some (some (false, es)) → hl ch j = some (some (false, es')) → i ≠ j → m' i = some x → m' j = some y → x.1 ≠ y.1
  ids : ∀ id, id ∉ fr → m' id = m id

/-- An operation, by itself: it reads its operands and the objects 'rd'; it answers 'out', makes the objects 'fr', and turns objects as 'ch' says. -/
def OpT (P : Program) (o : Oper) (ρ : Operand → AV) (H : Nat → Option Ob) (rd fr : List Nat) (out : AV) (ch : Heap) : Prop :=
  (∀ id ∈ keys ch, id ∈ fr ∨ (id ∈ rd ∧ ∃ es, H id = some (false, es))) ∧ (∀ id ∈ fr, id ∈ keys ch) ∧
  ∀ (w : World) (G : Nat → Prop) (m : Where) (a : Act), (∀ b, G b → b < w.heap.size) → (∀ x ∈ o.op.operands, Rep w G m (ρ x) (a.eval x)) → HeapOk w G m (restr rd H) →
    (∀ id ∈ fr, m id = none) → ∀ (next : Act → World → Prop) (Q : Exit → Act → World → Prop),
    (∀ v w' G' m', OpRes w G m fr out ch v w' G' m' → next (a.put o.dst v) w') → o.wp P a w next Q

/-- What holds at a point of a walk; w0, G0, m0: the world in which the call began; mu0: the blocks of it that may be written. -/
structure Inv (N : Nat) (w0 : World) (G0 : Nat → Prop) (m0 : Where) (mu0 : Nat → Prop) (U : Nat → Prop) (τ : Nat → AV) (H : Nat → Option Ob)
    (a : Act) (w : World) (G : Nat → Prop) (m : Where) : Prop where
  tmps : a.tmps.size = N
  dfr : a.defers = []
  g : ∀ b, G b → b < w.heap.size
  rep : ∀ t, Rep w G m (τ t) (a.tmps.getD t undef)
  heap : HeapOk w G m H
  ev : Ev mu0 w0 G0 m0 w G m
  own : ∀ id es x, H id = some (false, es) → m id = some x → mu0 x.1 ∨ w0.heap.size ≤ x.1
  ids : ∀ id x, m id = some x → U id

theorem getD_put (a : Act) (d : Option Nat) (v : Value) (t : Nat) (h : ∀ x, d = some x → x < a.tmps.size) :
    (a.put d v).tmps.getD t undef = if d = some t then v else a.tmps.getD t undef := by
  cases d with
  | none => simp [Act.put]
  | some d =>
    have hd := h d rfl
    simp only [Act.put, Array.getD_eq_getD_getElem?, Array.getElem?_setIfInBounds, Option.some.injEq]
    by_cases e : d = t
    · subst e; simp [hd]
    · simp [e]

theorem Inv.step {N : Nat} {w0 : World} {G0 : Nat → Prop} {m0 : Where} {mu0 U U' : Nat → Prop} {τ : Nat → AV} {H : Nat → Option Ob} {a : Act} {w : World}
    {G : Nat → Prop} {m : Where} (h : Inv N w0 G0 m0 mu0 U τ H a w G m) {rd fr : List Nat} {out : AV} {ch : Heap} {d : Option Nat} {v : Value} {w' : World} {G' : Nat → Prop} {m' : Where}
    (hd : ∀ x, d = some x → x < N) (hk : ∀ id ∈ keys ch, id ∈ fr ∨ (id ∈ rd ∧ ∃ es, H id = some (false, es))) (hfk : ∀ id ∈ fr, id ∈ keys ch) (hfr : ∀ id ∈ fr, m id = none)
    (hU : ∀ id, U id → U' id) (hU2 : ∀ id ∈ fr, U' id)
    (hr : OpRes w G m fr out ch v w' G' m') : Inv N w0 G0 m0 mu0 U' (tput τ d out) (hupd H ch) (a.put d v) w' G' m' := by
  have live : ∀ id ∈ keys ch, ∀ x, m id = some x → ∃ es, H id = some (false, es) := fun id hid x hx => (hk id hid).elim (fun hf => by rw [hfr id hf] at hx; cases hx) (fun h => h.2)
  have hmu : ∀ b, (∃ id ∈ keys ch, ∃ x, m id = some x ∧ x.1 = b) → ¬ G b := by
    rintro b ⟨id, hid, x, hx, rfl⟩
    obtain ⟨es, he⟩ := live id hid x hx
    exact (h.heap.obj id _ he).notG hx
  have hmu0 : ∀ b, (∃ id ∈ keys ch, ∃ x, m id = some x ∧ x.1 = b) → mu0 b ∨ w0.heap.size ≤ b := by
    rintro b ⟨id, hid, x, hx, rfl⟩
    obtain ⟨es, he⟩ := live id hid x hx
    exact h.own id es x he hx
  have sep : ∀ i es, hl ch i = none → H i = some (false, es) → ∀ x, m i = some x → ¬ ∃ id ∈ keys ch, ∃ y, m id = some y ∧ y.1 = x.1 := by
    rintro i es hi hes x hx ⟨id, hid, y, hy, e⟩
    obtain ⟨es', he'⟩ := live id hid y hy
    have hne : id ≠ i := fun e' => (hl_none.1 hi) (e' ▸ hid)
    exact h.heap.apart id i es' es y x he' hes hne hy hx e
  refine ⟨?_, ?_, fun b hb => hr.ev.lt h.g b hb, fun t => ?_, ⟨?_, ?_⟩, h.ev.trans hr.ev hmu0, ?_, ?_⟩
  · cases d <;> simp [Act.put, h.tmps]
  · cases d <;> simp [Act.put, h.dfr]
  · rw [getD_put a d v t (fun x hx => h.tmps ▸ hd x hx)]
    unfold tput
    split
    · exact hr.rep
    · exact (h.rep t).mono hr.ev hmu h.g
  · intro id es he
    unfold hupd at he
    cases hl' : hl ch id with
    | some c => rw [hl'] at he; dsimp only at he; subst he; exact hr.obj id es hl'
    | none =>
      rw [hl'] at he; dsimp only at he
      exact (h.heap.obj id es he).mono hr.ev hmu h.g (fun hf x hx => by obtain ⟨f, es⟩ := es; dsimp only at hf; subst hf; exact sep id es hl' he x hx) (hr.ids id fun hf => (hl_none.1 hl') (hfk id hf))
  · intro i j es es' x y hi hj hne hx hy
    unfold hupd at hi hj
    cases hi' : hl ch i with
    | some c =>
      rw [hi'] at hi; dsimp only at hi; subst hi
      cases hj' : hl ch j with
      | some c' => rw [hj'] at hj; dsimp only at hj; subst hj; exact hr.apart i j es es' x y hi' hj' hne hx hy
      | none =>
        rw [hj'] at hj; dsimp only at hj
        have hm : m j = some y := (hr.ids j fun hf => (hl_none.1 hj') (hfk j hf)) ▸ hy
        have hlt := (h.heap.obj j _ hj).lt hm
        rcases hr.blk i es x hi' hx with h1 | h1
        · omega
        · intro e; exact sep j es' hj' hj _ hm (by obtain ⟨a1, a2, a3, a4, a5⟩ := h1; exact ⟨a1, a2, a3, a4, a5.trans e⟩)
    | none =>
      rw [hi'] at hi; dsimp only at hi
      have hm : m i = some x := (hr.ids i fun hf => (hl_none.1 hi') (hfk i hf)) ▸ hx
      have hlt := (h.heap.obj i _ hi).lt hm
      cases hj' : hl ch j with
      | some c' =>
        rw [hj'] at hj; dsimp only at hj; subst hj
        rcases hr.blk j es' y hj' hy with h1 | h1
        · omega
        · intro e; exact sep i es hi' hi _ hm (by obtain ⟨a1, a2, a3, a4, a5⟩ := h1; exact ⟨a1, a2, a3, a4, a5.trans e.symm⟩)
      | none =>
        rw [hj'] at hj; dsimp only at hj
        have hm' : m j = some y := (hr.ids j fun hf => (hl_none.1 hj') (hfk j hf)) ▸ hy
        exact h.heap.apart i j es es' _ _ hi hj hne hm hm'
  · intro id es x he hx
    unfold hupd at he
    cases hl' : hl ch id with
    | some c =>
      rw [hl'] at he; dsimp only at he; subst he
      rcases hr.blk id es x hl' hx with h1 | ⟨id', hid', y, hy, e⟩
      · exact .inr (Nat.le_trans h.ev.size h1)
      · exact e ▸ hmu0 y.1 ⟨id', hid', y, hy, rfl⟩
    | none =>
      rw [hl'] at he; dsimp only at he
      have hm : m id = some x := (hr.ids id fun hf => (hl_none.1 hl') (hfk id hf)) ▸ hx
      exact h.own id es _ he hm
  · intro id x hx
    by_cases hf : id ∈ fr
    · exact hU2 id hf
    · rw [hr.ids id hf] at hx; exact hU id (h.ids id x hx)

end Go.Aw
