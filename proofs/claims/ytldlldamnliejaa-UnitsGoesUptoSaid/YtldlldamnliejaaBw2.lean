/- The operations of a region: in the order of the text; in whatever order their edges allow, where operations that no edge orders do not touch what the other one touches. -/
import Derived.Test.YtldlldamnliejaaBw1
import Derived.Tactics
namespace Go.Bw
open Go

def ofConst : Value → AV
  | .slice none 0 0 => .sl true [] []
  | v => .val v
def evalA (τ : Nat → AV) : Operand → AV
  | .tmp t => τ t
  | .const v => ofConst v
  | .func f => .clo (.func f) [] []
  | .global _ => .any

theorem rep_ofConst (w : World) (G : Nat → Prop) (m : Where) (v : Value) : Rep w G m (ofConst v) v := by
  unfold ofConst
  split
  · exact .slnil true
  · exact .val _

theorem Inv.eval {c : Cx} {r : Rs} {U : Nat → Prop} {τ : Nat → AV} {H : Nat → Option Ob} {a : Act} {w : World}
    {G : Nat → Prop} {m : Where} (h : Inv c r U τ H a w G m) (x : Operand) : Rep w G m (evalA τ x) (a.eval x) := by
  cases x with
  | tmp t => exact h.rep t
  | const v => exact rep_ofConst w G m v
  | global g => exact .any _
  | func f => exact .clo (.func f) [] [] #[] #[] rfl rfl (fun j hj => absurd hj (by simp)) (fun j hj => absurd hj (by simp))

theorem Inv.restr {c : Cx} {r : Rs} {U : Nat → Prop} {τ : Nat → AV} {H : Nat → Option Ob} {a : Act} {w : World}
    {G : Nat → Prop} {m : Where} (h : Inv c r U τ H a w G m) (rd : List Nat) : HeapOk w G m (restr rd H) where
  obj id es he := h.heap.obj id es (by unfold Bw.restr at he; split at he; · exact he
                                       · cases he)
  apart i j p q x y hi hj := h.heap.apart i j p q x y
    (by unfold Bw.restr at hi; split at hi <;> first | exact hi | cases hi)
    (by unfold Bw.restr at hj; split at hj <;> first | exact hj | cases hj)

theorem Inv.drew {c : Cx} {r : Rs} {U : Nat → Prop} {τ : Nat → AV} {H : Nat → Option Ob} {a : Act} {w : World}
    {G : Nat → Prop} {m : Where} (h : Inv c r U τ H a w G m) (n : Nat) : Inv c r U τ H a { w with drawn := n } G m := by
  have hev : Ev (fun _ => False) w G m { w with drawn := n } G m := ⟨rfl, rfl, rfl, Nat.le_refl _, fun _ _ _ => rfl, fun _ _ h => h, fun _ h => h, fun _ h => .inl h, fun h => h, fun _ _ h => h⟩
  exact ⟨h.tmps, h.dfr, h.dsr, h.dsn, h.res, h.resA, h.inR, h.g, fun t => (h.rep t).mono hev (fun _ h => h.elim) h.g, ⟨fun id es he => (h.heap.obj id es he).mono hev (fun _ h => h.elim) h.g (fun _ _ _ h => h) rfl, h.heap.apart⟩,
    h.ev.trans hev (fun _ h => h.elim), h.own, h.ids, h.idh, h.old, h.unx, h.new⟩

/-- What an operation does at its place: is it carried out at all; what it reads and makes. -/
structure Stp where
  wt : Bool
  rd : List Nat
  fr : List Nat
  n : Nat
  out : AV
  ch : Heap

def wantA : AV → Bool → Option Bool
  | .val (.bool b), want => some (b == want)
  | .val (.tuple _), _ => some false
  | _, _ => none

def gdst (ops : Array Oper) (j : Nat) : Option Nat := (ops[j]?).bind (·.dst)
def gAV (τ : Nat → AV) (ops : Array Oper) (j : Nat) : AV := match gdst ops j with | some d => τ d | none => .val undef

structure StpOk (P : Program) (ops : Array Oper) (o : Oper) (τ : Nat → AV) (H : Nat → Option Ob) (nx : Nat) (s : Stp) : Prop where
  guard : match o.guard with | none => s.wt = true | some (j, want) => wantA (gAV τ ops j) want = some s.wt
  yes : s.wt = true → OpT P o (evalA τ) H s.rd s.fr s.out s.ch
  no : s.wt = false → s.out = .val undef ∧ s.ch = [] ∧ s.fr = []
  fresh : ∀ id ∈ s.fr, nx ≤ id ∧ id < nx + s.n

theorem wanted_of {P : Program} {ops : Array Oper} {o : Oper} {τ : Nat → AV} {H : Nat → Option Ob} {nx : Nat} {s : Stp} (hs : StpOk P ops o τ H nx s)
    {w : World} {G : Nat → Prop} {m : Where} {a : Act} (hr : ∀ t, Rep w G m (τ t) (a.tmps.getD t undef)) : Region.wanted o (yielded ops a.tmps) = s.wt := by
  have hg := hs.guard
  unfold Region.wanted
  cases h : o.guard with
  | none => rw [h] at hg; exact hg.symm
  | some p =>
    obtain ⟨j, want⟩ := p
    rw [h] at hg
    dsimp only at hg ⊢
    unfold gAV gdst at hg
    unfold yielded
    cases hd : (ops[j]?).bind (·.dst) with
    | none =>
      rw [hd] at hg
      simp only [undef, wantA, Option.some.injEq] at hg
      simp [← hg]
    | some d =>
      rw [hd] at hg
      dsimp only at hg
      have hrd := hr d
      simp only [Option.bind_some]
      generalize hτ : τ d = x at hg hrd
      cases x with
      | val v =>
        cases v with
        | bool b =>
          simp only [wantA, Option.some.injEq] at hg
          cases hrd' : a.tmps[d]? with
          | none =>
            exfalso
            rw [Array.getD_eq_getD_getElem?, hrd'] at hrd
            simp only [Option.getD_none, undef] at hrd
            cases hrd
          | some u =>
            rw [Array.getD_eq_getD_getElem?, hrd'] at hrd
            simp only [Option.getD_some] at hrd
            cases hrd
            simpa using hg
        | tuple vs =>
          simp only [wantA, Option.some.injEq] at hg
          cases hrd' : a.tmps[d]? with
          | none => simp [← hg]
          | some u =>
            rw [Array.getD_eq_getD_getElem?, hrd'] at hrd
            simp only [Option.getD_some] at hrd
            cases hrd
            simp [← hg]
        | _ => simp [wantA] at hg
      | _ => simp [wantA] at hg

/-- The operations, one behind the other. -/
def chain (P : Program) (ops : Array Oper) : List Oper → List Stp → (Nat → AV) → (Nat → Option Ob) → Nat → Prop
  | [], [], _, _, _ => True
  | o :: l, s :: ss, τ, H, nx => StpOk P ops o τ H nx s ∧ chain P ops l ss (tput τ o.dst s.out) (hupd H s.ch) (nx + s.n)
  | _, _, _, _, _ => False

def endT : List Oper → List Stp → (Nat → AV) → (Nat → AV)
  | o :: l, s :: ss, τ => endT l ss (tput τ o.dst s.out)
  | _, _, τ => τ
def endH : List Stp → (Nat → Option Ob) → (Nat → Option Ob)
  | s :: ss, H => endH ss (hupd H s.ch)
  | [], H => H
def endN : List Stp → Nat → Nat
  | s :: ss, n => endN ss (n + s.n)
  | [], n => n

section
variable {P : Program} {ops : Array Oper} {Q : Exit → Act → World → Prop} {c : Cx} {r : Rs} {ro : Option Nat} {n : Nat}

/-- One operation out of a point that fits: the next point. -/
theorem stp_wp {o : Oper} {τ : Nat → AV} {H : Nat → Option Ob} {nx : Nat} {s : Stp} {U U' : Nat → Prop} (hs : StpOk P ops o τ H nx s) (hd : ∀ x, o.dst = some x → x < c.N) (hdf : ∀ c, o.op ≠ .defer c)
    {a : Act} {w : World} {G : Nat → Prop} {m : Where} (h : Inv c r U τ H a w G m) (hfr : ∀ id ∈ s.fr, ¬ U id) (hU : ∀ id, U id → U' id) (hU2 : ∀ id ∈ s.fr, U' id)
    {K : Act → World → Prop} (hK : ∀ a' w' G' m', Inv c r U' (tput τ o.dst s.out) (hupd H s.ch) a' w' G' m' → K a' w') :
    if Region.wanted o (yielded ops a.tmps) then o.wpIn (Fw ro) n P a w K Q else K (a.put o.dst undef) w := by
  rw [wanted_of hs h.rep]
  cases hw : s.wt with
  | true =>
    obtain ⟨hk, hfk, hT⟩ := hs.yes hw
    have hfn : ∀ id ∈ s.fr, m id = none := fun id hid => by
      cases hm : m id with
      | none => rfl
      | some x => exact absurd (h.ids id x hm) (hfr id hid)
    exact hT hdf ro n w G m a h.g (fun x _ => h.eval x) (h.restr s.rd) hfn K Q (fun v w' G' m' hr => hK _ _ _ _ (h.step hd hk hfk hfn hfr hU hU2 hr))
  | false =>
    obtain ⟨h1, h2, h3⟩ := hs.no hw
    simp only [Bool.false_eq_true, if_false]
    refine hK _ _ G m ?_
    rw [h1, h2]
    exact h.step (rd := []) (fr := []) (ch := []) hd (by simp [keys]) (by simp) (by simp) (by simp) hU (by simp)
      ⟨Ev.refl _ _ _ _, .val undef, by simp [hl], by simp [hl], by simp [hl], fun _ _ => rfl⟩

theorem seq_sound : ∀ (l : List Oper) (ss : List Stp) (τ : Nat → AV) (H : Nat → Option Ob) (nx : Nat) (a : Act) (w : World) (G : Nat → Prop) (m : Where),
    chain P ops l ss τ H nx → (∀ o ∈ l, (∀ x, o.dst = some x → x < c.N) ∧ ∀ c, o.op ≠ .defer c) → Inv c r (· < nx) τ H a w G m →
    (∀ a' w' G' m', Inv c r (· < endN ss nx) (endT l ss τ) (endH ss H) a' w' G' m' → Q .normal a' w') → wpListIn (Fw ro) n P ops Q l a w := by
  intro l
  induction l with
  | nil =>
    intro ss τ H nx a w G m hc _ h hQ
    cases ss with
    | nil => exact hQ a w G m h
    | cons s ss => exact hc.elim
  | cons o l ih =>
    intro ss τ H nx a w G m hc hd h hQ
    cases ss with
    | nil => exact hc.elim
    | cons s ss =>
      obtain ⟨hs, hc⟩ := hc
      have := stp_wp (Q := Q) (ro := ro) (n := n) (U' := (· < nx + s.n)) (K := wpListIn (Fw ro) n P ops Q l) hs (hd o (by simp)).1 (hd o (by simp)).2 h (fun id hid => by have := hs.fresh id hid; omega) (fun id hid => by omega)
        (fun id hid => (hs.fresh id hid).2) (fun a' w' G' m' h' => ih ss _ _ _ a' w' G' m' hc (fun o' ho' => hd o' (by simp [ho'])) h' hQ)
      unfold wpListIn
      split at this
      · rename_i hw; rw [if_pos hw]; exact this
      · rename_i hw; rw [if_neg hw]; exact ⟨fun _ _ => trivial, this⟩
end

end Go.Bw
