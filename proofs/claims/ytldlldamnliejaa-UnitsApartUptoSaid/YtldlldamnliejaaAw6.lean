/- The walk of code: regions, branches, blocks, loops; its soundness against the machine's. -/
import Derived.Test.YtldlldamnliejaaAw5
namespace Go.Aw
open Go

/-- A state that says no more than another one: another reading of the same memory. -/
def Le (n0 : Nat) (S S' : St) : Prop := ∀ (N : Nat) (w0 : World) (G0 : Nat → Prop) (m0 : Where) (mu0 : Nat → Prop) (a : Act) (w : World) (G : Nat → Prop) (m : Where),
  (∀ id x, m0 id = some x → id < n0) → Inv N w0 G0 m0 mu0 (· < S.nx) (get S.t) (hget S.h) a w G m →
  ∃ G' m', Inv N w0 G0 m0 mu0 (· < S'.nx) (get S'.t) (hget S'.h) a w G' m'

theorem Le.refl (n0 : Nat) (S : St) : Le n0 S S := fun _ _ _ _ _ _ _ G m _ h => ⟨G, m, h⟩
theorem Le.trans {n0 : Nat} {S S' S2 : St} (h : Le n0 S S') (h' : Le n0 S' S2) : Le n0 S S2 := fun N w0 G0 m0 mu0 a w G m hm hI => by
  obtain ⟨G', m', hI'⟩ := h N w0 G0 m0 mu0 a w G m hm hI
  exact h' N w0 G0 m0 mu0 a w G' m' hm hI'

def gc (keep : List Nat) : List (Nat × AV) → List (Nat × AV)
  | [] => []
  | (i, v) :: r => if keep.contains i then (i, v) :: gc keep r else gc keep r

theorem get_gc (keep : List Nat) (t : List (Nat × AV)) (x : Nat) : get (gc keep t) x = get t x ∨ get (gc keep t) x = .any := by
  by_cases hk : keep.contains x = true
  · left
    induction t with
    | nil => rfl
    | cons p r ih =>
      obtain ⟨i, v⟩ := p
      simp only [gc]
      by_cases h : x = i
      · subst h; rw [if_pos hk]; simp [get]
      · split
        · simp [get, h, ih]
        · simp [get, h, ih]
  · right
    induction t with
    | nil => rfl
    | cons p r ih =>
      obtain ⟨i, v⟩ := p
      simp only [gc]
      split
      · rename_i hi
        have h : x ≠ i := fun e => hk (e ▸ hi)
        simp [get, h, ih]
      · exact ih

theorem Inv.weakT {N : Nat} {w0 : World} {G0 : Nat → Prop} {m0 : Where} {mu0 U : Nat → Prop} {τ τ' : Nat → AV} {H : Nat → Option Ob} {a : Act} {w : World}
    {G : Nat → Prop} {m : Where} (h : Inv N w0 G0 m0 mu0 U τ H a w G m) (ht : ∀ t, τ' t = τ t ∨ τ' t = .any) : Inv N w0 G0 m0 mu0 U τ' H a w G m :=
  ⟨h.tmps, h.dfr, h.g, fun t => (ht t).elim (fun e => e ▸ h.rep t) (fun e => e ▸ .any _), h.heap, h.ev, h.own, h.ids⟩

section
variable (P : Program) (A : Rules) (n0 : Nat) (keep : List Nat)

def endR (dr : Bool) (ops : Array Oper) (Q : Exit → St → Prop) (fs : List Foot) (S : St) : Prop :=
  (dr = true → drawOk ops fs = true ∧ P.follows .mixedOrders = true) ∧ Q .normal S

def awp : Code → (Exit → St → Prop) → St → Prop
  | .skip, Q, S => Q .normal S
  | .region _ ops dr, Q, S => aops A dr ops ops.toList [] ⟨gc keep S.t, S.h, S.nx⟩ (endR P dr ops Q)
  | .seq a b, Q, S => awp a (fun e S => match e with | .normal => awp b Q S | e => Q e S) S
  | .cond c a b, Q, S => match evalA (get S.t) c with
    | .val (.bool c) => if c then awp a Q S else awp b Q S
    | _ => False
  | .block id a, Q, S => awp a (fun e S => match e with | .exit j => if j = id then Q .normal S else Q e S | e => Q e S) S
  | .loop b, Q, S => ∃ I : Nat → St → Prop, (∃ n S', Le n0 S S' ∧ I n S') ∧
      ∀ n S', I n S' → awp b (fun e S1 => match e with | .normal => ∃ n' S2, n' < n ∧ Le n0 S1 S2 ∧ I n' S2 | e => Q e S1) S'
  | .exit id, Q, S => Q (.exit id) S
  | .ret, Q, S => Q .ret S
  | _, _, _ => False

def dstOk (N : Nat) : Code → Bool
  | .region _ ops _ => ops.toList.all fun o => match o.dst with | some d => decide (d < N) | none => true
  | .seq a b => dstOk N a && dstOk N b
  | .cond _ a b => dstOk N a && dstOk N b
  | .block _ a => dstOk N a
  | .loop a => dstOk N a
  | _ => true

variable {P A n0 keep}

theorem awp_sound (hA : Sound P A) {N : Nat} {w0 : World} {G0 : Nat → Prop} {m0 : Where} {mu0 : Nat → Prop} (hm0 : ∀ id x, m0 id = some x → id < n0) :
    ∀ (c : Code) (Q : Exit → St → Prop) (S : St) (a : Act) (w : World) (G : Nat → Prop) (m : Where), awp P A n0 keep c Q S → dstOk N c = true →
    Inv N w0 G0 m0 mu0 (· < S.nx) (get S.t) (hget S.h) a w G m →
    c.wp P (fun e a' w' => ∃ S' G' m', Inv N w0 G0 m0 mu0 (· < S'.nx) (get S'.t) (hget S'.h) a' w' G' m' ∧ Q e S') a w := by
  intro c
  induction c with
  | skip => intro Q S a w G m h _ hI; exact wp_skip ⟨S, G, m, hI, h⟩
  | region i ops dr =>
    intro Q S a w G m h hd hI
    refine region_wp (N := N) (w0 := w0) (G0 := G0) (m0 := m0) (mu0 := mu0) hA h (fun o ho x hx => ?_) (fun fs S' hk => hk.1) (hI.weakT (get_gc keep S.t)) (fun fs S' a' w' G' m' hk hI' => ⟨S', G', m', hI', hk.2⟩)
    simp only [dstOk, List.all_eq_true] at hd
    have := hd o ho
    rw [hx] at this
    simpa using this
  | seq x y ihx ihy =>
    intro Q S a w G m h hd hI
    simp only [dstOk, Bool.and_eq_true] at hd
    refine wp_seq (wp_mono (ihx _ S a w G m h hd.1 hI) fun e a' w' hq => ?_)
    obtain ⟨S', G', m', hI', hq⟩ := hq
    cases e <;> first | exact ihy Q S' a' w' G' m' hq hd.2 hI' | exact ⟨S', G', m', hI', hq⟩
  | cond cnd x y ihx ihy =>
    intro Q S a w G m h hd hI
    simp only [dstOk, Bool.and_eq_true] at hd
    have hc := hI.eval cnd
    unfold awp at h
    split at h
    · rename_i b hb
      rw [hb] at hc
      cases hc' : a.eval cnd with
      | bool b' =>
        rw [hc'] at hc
        cases hc
        refine wp_cond hc' ?_
        cases b
        · exact ihy Q S a w G m (by simpa using h) hd.2 hI
        · exact ihx Q S a w G m (by simpa using h) hd.1 hI
      | _ => rw [hc'] at hc; cases hc
    · exact h.elim
  | block id x ih =>
    intro Q S a w G m h hd hI
    refine wp_block (wp_mono (ih _ S a w G m h hd hI) fun e a' w' hq => ?_)
    obtain ⟨S', G', m', hI', hq⟩ := hq
    cases e with
    | exit j =>
      dsimp only at hq
      simp only [Exit.inBlock]
      split
      · rename_i e; rw [if_pos e] at hq; exact ⟨S', G', m', hI', hq⟩
      · rename_i e; rw [if_neg e] at hq; exact ⟨S', G', m', hI', hq⟩
    | _ => exact ⟨S', G', m', hI', hq⟩
  | loop x ih =>
    intro Q S a w G m h hd hI
    obtain ⟨I, ⟨n, S', hle, hS'⟩, hstep⟩ := h
    obtain ⟨G', m', hI'⟩ := hle N w0 G0 m0 mu0 a w G m hm0 hI
    refine wp_loop_ghost (fun n a w => ∃ S G m, I n S ∧ Inv N w0 G0 m0 mu0 (· < S.nx) (get S.t) (hget S.h) a w G m) n ⟨S', G', m', hS', hI'⟩ ?_
    rintro n a w ⟨S, G, m, hS, hI⟩
    refine wp_mono (ih _ S a w G m (hstep n S hS) hd hI) fun e a' w' hq => ?_
    obtain ⟨S1, G1, m1, hI1, hq⟩ := hq
    cases e with
    | normal =>
      obtain ⟨n', S2, hlt, hle, h2⟩ := hq
      obtain ⟨G2, m2, hI2⟩ := hle N w0 G0 m0 mu0 a' w' G1 m1 hm0 hI1
      exact ⟨n', hlt, S2, G2, m2, h2, hI2⟩
    | _ => exact ⟨S1, G1, m1, hI1, hq⟩
  | rangeFunc => intro Q S a w G m h; exact h.elim
  | exit id => intro Q S a w G m h _ hI; exact wp_exit ⟨S, G, m, hI, h⟩
  | scope => intro Q S a w G m h; exact h.elim
  | label => intro Q S a w G m h; exact h.elim
  | goto => intro Q S a w G m h; exact h.elim
  | ret => intro Q S a w G m h _ hI; exact wp_ret ⟨S, G, m, hI, h⟩
  | refuse => intro Q S a w G m h; exact h.elim

end

end Go.Aw
