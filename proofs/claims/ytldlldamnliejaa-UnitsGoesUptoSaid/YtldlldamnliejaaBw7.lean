/- The walk of code: regions, branches, blocks, loops, loops over functions; its soundness against the machine's. -/
import Derived.Test.YtldlldamnliejaaBw6
namespace Go.Bw
open Go

/-- A state that says no more than another one: another reading of the same memory. -/
def Le (S S' : St) : Prop := ∀ (c : Cx) (r : Rs) (a : Act) (w : World) (G : Nat → Prop) (m : Where),
  Inv c r (· < S.nx) (get S.t) (hget S.h) a w G m →
  ∃ G' m', Inv c r (· < S'.nx) (get S'.t) (hget S'.h) a w G' m'

theorem Le.refl (S : St) : Le S S := fun _ _ _ _ G m h => ⟨G, m, h⟩
theorem Le.trans {S S' S2 : St} (h : Le S S') (h' : Le S' S2) : Le S S2 := fun c r a w G m hI => by
  obtain ⟨G', m', hI'⟩ := h c r a w G m hI
  exact h' c r a w G' m' hI'

def gc (keep : List Nat) : List (Nat × AV) → List (Nat × AV)
  | [] => []
  | (i, v) :: r => if keep.contains i then (i, v) :: gc keep r else gc keep r

theorem get_gc (keep : List Nat) (t : List (Nat × AV)) (x : Nat) : get (gc keep t) x = get t x ∨ get (gc keep t) x = .any := by
  induction t with
  | nil => exact .inl rfl
  | cons p r ih =>
    obtain ⟨i, v⟩ := p
    unfold gc
    split
    · simp only [get]; split
      · exact .inl rfl
      · exact ih
    · simp only [get]
      split
      · rename_i hk e
        subst e
        right
        have : ∀ l : List (Nat × AV), get (gc keep l) x = .any := by
          intro l
          induction l with
          | nil => rfl
          | cons q l ihl =>
            obtain ⟨j, u⟩ := q
            unfold gc
            split
            · rename_i hk'
              simp only [get]
              split
              · rename_i e'; subst e'; exact absurd hk' hk
              · exact ihl
            · exact ihl
        exact this r
      · exact ih

theorem Inv.weakT {c : Cx} {r : Rs} {U : Nat → Prop} {τ τ' : Nat → AV} {H : Nat → Option Ob} {a : Act} {w : World}
    {G : Nat → Prop} {m : Where} (h : Inv c r U τ H a w G m) (ht : ∀ t, τ' t = τ t ∨ τ' t = .any) : Inv c r U τ' H a w G m :=
  ⟨h.tmps, h.dfr, h.dsr, h.dsn, h.res, h.resA, h.inR, h.g, fun t => by
    rcases ht t with e | e
    · rw [e]; exact h.rep t
    · rw [e]; exact .any _, h.heap, h.ev, h.own, h.ids, h.idh, h.old, h.unx, h.new⟩

/-- The temporaries of a round. -/
def roundT (ps : Array Tmp) (args : List AV) (t : List (Nat × AV)) : List (Nat × AV) := (ps.toList.zip args).reverse ++ t

def noDefer (o : Oper) : Bool := match o.op with | .defer _ => false | _ => true

def dstOk (N : Nat) : Code → Bool
  | .region _ ops _ => ops.toList.all fun o => noDefer o && match o.dst with | some d => decide (d < N) | none => true
  | .seq a b => dstOk N a && dstOk N b
  | .cond _ a b => dstOk N a && dstOk N b
  | .block _ a => dstOk N a
  | .loop a => dstOk N a
  | .rangeFunc _ ps a b => ps.toList.all (fun d => decide (d < N)) && dstOk N a && dstOk N b
  | _ => true

section
variable (P : Program) (A : Rules) (B : SRules) (keep : List Nat)

def endR (dr : Bool) (ops : Array Oper) (Q : Exit → St → Prop) (fs : List Foot) (S : St) : Prop :=
  (dr = true → drawOk ops fs = true ∧ P.follows .mixedOrders = true) ∧ Q .normal S

/-- What follows a loop over a function: what is left of memory, by the jump that is pending. -/
def afterR (lid : Nat) (t : List (Nat × AV)) (ps : Array Tmp) (asg body : Code) (N : Nat) (Q : Exit → St → Prop) (h : Heap) (nx : Nat) : Prop :=
  ∃ (h0 : Heap) (st : LoopState) (pd : Option Code) (t' : List (Nat × AV)), hget h lid = some (.loop st pd ps asg body N t') ∧ st ≠ .busy ∧ (∀ id p, hget h0 id = some p → id ≠ lid ∧ hget h id = some p) ∧
    match pd with
    | none => Q .normal ⟨t, h0, nx⟩
    | some .ret => Q .ret ⟨t, h0, nx⟩
    | some (.exit id) => Q (.exit id) ⟨t, h0, nx⟩
    | _ => False

def awp : Code → (Exit → St → Prop) → St → Prop
  | .skip, Q, S => Q .normal S
  | .region _ ops true, Q, S => aops A true ops ops.toList [] ⟨gc keep S.t, S.h, S.nx⟩ (endR P true ops Q)
  | .region _ ops false, Q, S => sops B ops ops.toList ⟨gc keep S.t, S.h, S.nx⟩ (Q .normal)
  | .seq a b, Q, S => awp a (fun e S => match e with | .normal => awp b Q S | e => Q e S) S
  | .cond c a b, Q, S => match evalA (get S.t) c with
    | .val (.bool c) => if c then awp a Q S else awp b Q S
    | _ => False
  | .block id a, Q, S => awp a (fun e S => match e with | .exit j => if j = id then Q .normal S else Q e S | e => Q e S) S
  | .loop b, Q, S => ∃ I : Nat → St → Prop, (∃ n S', Le S S' ∧ I n S') ∧
      ∀ n S', I n S' → awp b (fun e S1 => match e with | .normal => ∃ n' S2, n' < n ∧ Le S1 S2 ∧ I n' S2 | e => Q e S1) S'
  | .rangeFunc f ps asg body, Q, S => ∃ S0, Le S S0 ∧ ∃ (g : FuncId) (fs cs : List AV), evalA (get S0.t) f = .clo (.func g) fs cs ∧
      (∀ args w, (callFunc g args).run P w = .ok (.enter g args) w) ∧
      (hget S0.h S0.nx = none → ∀ N, dstOk N (.rangeFunc f ps asg body) = true → ∃ Post, CallV P (.clo (.func g) fs cs) [.yld S0.nx] ((S0.nx, some (.loop .ready none ps asg body N S0.t)) :: S0.h) (S0.nx + 1) Post ∧
        ∀ out h nx, Post out h nx → afterR S0.nx S0.t ps asg body N Q h nx)
  | .exit id, Q, S => Q (.exit id) S
  | .ret, Q, S => Q .ret S
  | _, _, _ => False

variable {P A B keep}

theorem wpIn_loop_ghost {F : Fence} {n : Nat} {Q : Exit → Act → World → Prop} {a : Act} {w : World} {c : Code} (I : Nat → Act → World → Prop) (n₀ : Nat) (h₀ : I n₀ a w)
    (round : ∀ n' a w, I n' a w → c.wpIn F n P (Exit.then (fun a' w' => ∃ n2, n2 < n' ∧ I n2 a' w') Q) a w) : (Code.loop c).wpIn F n P Q a w := by
  refine wpIn_loop (fun a w => ∃ n, I n a w) (fun a w => leastOf (fun n => I n a w)) ⟨n₀, h₀⟩ ?_
  intro a w hI
  refine wpIn_mono (round _ a w (leastOf_spec hI).1) ?_
  intro e a' w' hq
  cases e with
  | normal =>
    obtain ⟨n', hlt, hI'⟩ := hq
    exact show (∃ n, I n a' w') ∧ leastOf (fun n => I n a' w') < leastOf (fun n => I n a w) from ⟨⟨n', hI'⟩, Nat.lt_of_le_of_lt ((leastOf_spec ⟨n', hI'⟩).2 n' hI') hlt⟩
  | exit id => exact hq
  | goto l => exact hq
  | ret => exact hq
  | panic ch => exact hq
  | outgrown => exact hq

theorem alloc_ev {mu : Nat → Prop} (w : World) (G : Nat → Prop) (m : Where) (o : Obj) {m' : Where} (hm : ∀ id x, m id = some x → m' id = some x) : Ev mu w G m (w.alloc o) G m' where
  os := rfl
  tape := rfl
  output := rfl
  size := by rw [World.size_alloc]; omega
  blk b hb _ := by simp only [World.alloc]; rw [Array.getElem?_push_lt hb, Array.getElem?_eq_getElem hb]
  shp b x hx := by
    have hlt : b < w.heap.size := Decidable.byContradiction fun hn => by
      simp only [World.shape?, Array.getElem?_eq_none (Nat.le_of_not_lt hn)] at hx
      cases hx
    simp only [World.shape?, World.alloc] at hx ⊢
    rw [Array.getElem?_push_lt hlt]
    rw [Array.getElem?_eq_getElem hlt] at hx
    exact hx
  sub _ h := h
  new _ h := .inl h
  lt hg b hb := by have := hg b hb; simp only [World.alloc, Array.size_push]; omega
  ext := hm

/-- A block that holds no cells turns. -/
theorem putObj_ev {mu : Nat → Prop} (w : World) (G : Nat → Prop) (m : Where) (b : Nat) (o : Obj) (hmu : mu b) (hsh : w.shape? b = none) : Ev mu w G m (w.putObj b o) G m where
  os := rfl
  tape := rfl
  output := rfl
  size := by simp
  blk b' _ hn := World.putObj_heap_other (fun e => hn (e ▸ hmu))
  shp b' x hx := by
    have : b' ≠ b := fun e => by subst e; rw [hsh] at hx; cases hx
    simp only [World.shape?] at hx ⊢
    rw [World.putObj_heap_other this]; exact hx
  sub _ h := h
  new _ h := .inl h
  lt hg b hb := by have := hg b hb; simpa using this
  ext _ _ h := h

theorem shape_loop {w : World} {b : Nat} {L : Loop} (h : w.heap[b]? = some (.loop L)) : w.shape? b = none := by simp [World.shape?, h]
theorem shape_deferred {w : World} {b : Nat} {d : Option (List Deferred)} (h : w.heap[b]? = some (.deferred d)) : w.shape? b = none := by simp [World.shape?, h]

end
end Go.Bw
