/- The walk of a function's code on abstract states, and its soundness. -/
import Derived.Test.YtldlldamnliejaaBw4
import Derived.Deep.LoopGhost
import Derived.RangeFuncNested
namespace Go.Bw
open Go

structure St where
  t : List (Nat × AV)
  h : Heap
  nx : Nat

def St.put (S : St) (d : Option Nat) (n : Nat) (v : AV) (ch : Heap) : St :=
  { t := match d with | some d => (d, v) :: S.t | none => S.t, h := ch ++ S.h, nx := S.nx + n }

theorem get_put (S : St) (d : Option Nat) (n : Nat) (v : AV) (ch : Heap) : get (S.put d n v ch).t = tput (get S.t) d v := by
  funext t
  cases d with
  | none => simp [St.put, tput]
  | some d =>
    simp only [St.put, get, tput, Option.some.injEq]
    by_cases h : t = d
    · simp [h]
    · rw [if_neg h, if_neg (fun e => h e.symm)]

theorem hget_put (S : St) (d : Option Nat) (n : Nat) (v : AV) (ch : Heap) : hget (S.put d n v ch).h = hupd (hget S.h) ch := hget_append ch S.h

abbrev OK := List Nat → Nat → AV → Heap → Prop
def frs (nx n : Nat) : List Nat := (List.range n).map (nx + ·)
theorem mem_frs {nx n id : Nat} : id ∈ frs nx n ↔ nx ≤ id ∧ id < nx + n := by
  simp only [frs, List.mem_map, List.mem_range]
  exact ⟨fun ⟨a, h, e⟩ => by omega, fun h => ⟨id - nx, by omega, by omega⟩⟩

/-- An operation carried out at a state. -/
def OpS (P : Program) (o : Oper) (S : St) (K : OK) : Prop := ∃ rd n out ch, OpT P o (evalA (get S.t)) (hget S.h) rd (frs S.nx n) out ch ∧ K rd n out ch

/-- Rules for operations. -/
abbrev Rules := Oper → St → OK → Prop
def Sound (P : Program) (A : Rules) : Prop := ∀ o S K, A o S K → OpS P o S K

def foot (dr : Bool) (rd : List Nat) (ch : Heap) (fs : List Foot) : List Foot := if dr then fs ++ [(rd, keys ch)] else fs

/-- The operations of a region. -/
def aops (A : Rules) (dr : Bool) (ops : Array Oper) : List Oper → List Foot → St → (List Foot → St → Prop) → Prop
  | [], fs, S, K => K fs S
  | o :: l, fs, S, K =>
    match o.guard with
    | none => A o S fun rd n out ch => aops A dr ops l (foot dr rd ch fs) (S.put o.dst n out ch) K
    | some (j, want) =>
      match gAV (get S.t) ops j with
      | .val (.bool b) => if b = want then A o S fun rd n out ch => aops A dr ops l (foot dr rd ch fs) (S.put o.dst n out ch) K
        else aops A dr ops l (foot dr [] [] fs) (S.put o.dst 0 (.val undef) []) K
      | .val (.tuple _) => aops A dr ops l (foot dr [] [] fs) (S.put o.dst 0 (.val undef) []) K
      | _ => False

def feet (dr : Bool) (fs : List Foot) (ss : List Stp) : List Foot := if dr then fs ++ ss.map (fun s => (s.rd, keys s.ch)) else fs

theorem foot_feet (dr : Bool) (rd : List Nat) (ch : Heap) (fs : List Foot) (s : Stp) (ss : List Stp) (h1 : s.rd = rd) (h2 : s.ch = ch) :
    feet dr (foot dr rd ch fs) ss = feet dr fs (s :: ss) := by
  cases dr <;> simp [feet, foot, h1, h2]

theorem aops_sound {P : Program} {A : Rules} (hA : Sound P A) (dr : Bool) (ops : Array Oper) : ∀ (l : List Oper) (fs : List Foot) (S : St) (K : List Foot → St → Prop), aops A dr ops l fs S K →
    ∃ ss S', chain P ops l ss (get S.t) (hget S.h) S.nx ∧ get S'.t = endT l ss (get S.t) ∧ hget S'.h = endH ss (hget S.h) ∧ S'.nx = endN ss S.nx ∧ K (feet dr fs ss) S' := by
  intro l
  induction l with
  | nil => intro fs S K h; exact ⟨[], S, trivial, rfl, rfl, rfl, by unfold aops at h; cases dr <;> simpa [feet] using h⟩
  | cons o l ih =>
    intro fs S K h
    have yes : ∀ (hg : match o.guard with | none => True | some (j, want) => wantA (gAV (get S.t) ops j) want = some true),
        (A o S fun rd n out ch => aops A dr ops l (foot dr rd ch fs) (S.put o.dst n out ch) K) →
        ∃ ss S', chain P ops (o :: l) ss (get S.t) (hget S.h) S.nx ∧ get S'.t = endT (o :: l) ss (get S.t) ∧ hget S'.h = endH ss (hget S.h) ∧ S'.nx = endN ss S.nx ∧ K (feet dr fs ss) S' := by
      intro hg h
      obtain ⟨rd, n, out, ch, hT, h⟩ := hA o S _ h
      obtain ⟨ss, S', hc, h1, h2, h3, h4⟩ := ih _ _ _ h
      rw [get_put, hget_put] at hc
      rw [get_put] at h1
      rw [hget_put] at h2
      refine ⟨⟨true, rd, frs S.nx n, n, out, ch⟩ :: ss, S', ⟨⟨?_, fun _ => hT, (fun h => by cases h), fun id hid => mem_frs.1 hid⟩, hc⟩, h1, h2, h3, ?_⟩
      · cases hgd : o.guard with
        | none => rfl
        | some p => obtain ⟨j, want⟩ := p; rw [hgd] at hg; exact hg
      · rw [← foot_feet dr rd ch fs ⟨true, rd, frs S.nx n, n, out, ch⟩ ss rfl rfl]; exact h4
    have no : ∀ (j : Nat) (want : Bool) (hgd : o.guard = some (j, want)) (hg : wantA (gAV (get S.t) ops j) want = some false),
        aops A dr ops l (foot dr [] [] fs) (S.put o.dst 0 (.val undef) []) K →
        ∃ ss S', chain P ops (o :: l) ss (get S.t) (hget S.h) S.nx ∧ get S'.t = endT (o :: l) ss (get S.t) ∧ hget S'.h = endH ss (hget S.h) ∧ S'.nx = endN ss S.nx ∧ K (feet dr fs ss) S' := by
      intro j want hgd hg h
      obtain ⟨ss, S', hc, h1, h2, h3, h4⟩ := ih _ _ _ h
      rw [get_put, hget_put] at hc
      rw [get_put] at h1
      rw [hget_put] at h2
      refine ⟨⟨false, [], [], 0, .val undef, []⟩ :: ss, S', ⟨⟨?_, (fun h => by cases h), fun _ => ⟨rfl, rfl, rfl⟩, (fun id hid => by cases hid)⟩, hc⟩, h1, h2, h3, ?_⟩
      · rw [hgd]; exact hg
      · rw [← foot_feet dr [] [] fs ⟨false, [], [], 0, .val undef, []⟩ ss rfl rfl]; exact h4
    unfold aops at h
    cases hgd : o.guard with
    | none => rw [hgd] at h; exact yes (by rw [hgd]; trivial) h
    | some p =>
      obtain ⟨j, want⟩ := p
      rw [hgd] at h
      dsimp only at h
      split at h
      · rename_i b hb
        split at h
        · rename_i e; exact yes (by rw [hgd]; dsimp only; rw [hb]; simp [wantA, e]) h
        · rename_i e; exact no j want hgd (by rw [hb]; simp [wantA, e]) h
      · rename_i vs hb; exact no j want hgd (by rw [hb]; rfl) h
      · exact h.elim

section
variable {P : Program} {ops : Array Oper} {Q : Exit → Act → World → Prop} {c : Cx} {r : Rs} {ro : Option Nat} {n : Nat}

theorem chain_get : ∀ (l : List Oper) (ss : List Stp) (τ : Nat → AV) (H : Nat → Option Ob) (nx k : Nat), chain P ops l ss τ H nx → (∀ i, i < l.length → l[i]? = ops[k + i]?) → ∀ (st : Nat → Stp),
    (∀ i, i < l.length → st (k + i) = ss.getD i ⟨false, [], [], 0, .any, []⟩) → ∀ (σ : Sto) (n0 : Nat), (fold ops st (fun _ => true) σ k) = (τ, H) → nxs st n0 k = nx →
    (∀ i, i < l.length → StpOk P ops (ops.getD (k + i) default) (fold ops st (fun _ => true) σ (k + i)).1 (fold ops st (fun _ => true) σ (k + i)).2 (nxs st n0 (k + i)) (st (k + i))) ∧
    fold ops st (fun _ => true) σ (k + l.length) = (endT l ss τ, endH ss H) ∧ nxs st n0 (k + l.length) = endN ss nx ∧ ss.length = l.length := by
  intro l
  induction l with
  | nil =>
    intro ss τ H nx k hc _ st _ σ n0 hf hn
    cases ss with
    | nil => exact ⟨fun i hi => by simp at hi, hf, hn, rfl⟩
    | cons => exact hc.elim
  | cons o l ih =>
    intro ss τ H nx k hc hl st hst σ n0 hf hn
    cases ss with
    | nil => exact hc.elim
    | cons s ss =>
      obtain ⟨hs, hc⟩ := hc
      have hs0 : st k = s := by simpa using hst 0 (by simp)
      have ho : ops.getD k default = o := by
        have := hl 0 (by simp)
        simp only [List.getElem?_cons_zero, Nat.add_zero] at this
        have hk : k < ops.size := (Array.getElem?_eq_some_iff.1 this.symm).1
        simp [Array.getD, hk, (Array.getElem?_eq_some_iff.1 this.symm).2]
      have hstep : fold ops st (fun _ => true) σ (k + 1) = (tput τ o.dst s.out, hupd H s.ch) := by
        simp only [fold, if_true, hf, app, ho, hs0]
      have hnx : nxs st n0 (k + 1) = nx + s.n := by simp only [nxs, hn, hs0]
      obtain ⟨h1, h2, h3, h4⟩ := ih ss _ _ _ (k + 1) hc (fun i hi => by
          have := hl (i + 1) (by simp; omega)
          simp only [List.getElem?_cons_succ] at this
          rw [this]; congr 1; omega) st (fun i hi => by
          have := hst (i + 1) (by simp; omega)
          simp only [List.getD_cons_succ] at this
          rw [← this]; congr 1; omega) σ n0 hstep hnx
      refine ⟨fun i hi => ?_, ?_, ?_, by simp [h4]⟩
      · cases i with
        | zero => simp only [Nat.add_zero, hf, hn, hs0, ho]; exact hs
        | succ i => have := h1 i (by simp at hi; omega); rw [show k + 1 + i = k + (i + 1) by omega] at this; exact this
      · rw [List.length_cons, show k + (l.length + 1) = k + 1 + l.length by omega, h2]; rfl
      · rw [List.length_cons, show k + (l.length + 1) = k + 1 + l.length by omega, h3]; rfl

/-- A region. -/
theorem region_wp {A : Rules} (hA : Sound P A) {id : Nat} {dr : Bool} {S : St} {K : List Foot → St → Prop} (h : aops A dr ops ops.toList [] S K)
    (hN : ∀ o ∈ ops.toList, (∀ x, o.dst = some x → x < c.N) ∧ ∀ c, o.op ≠ .defer c) (hdr : ∀ fs S', K fs S' → dr = true → drawOk ops fs = true ∧ P.follows .mixedOrders = true)
    {a : Act} {w : World} {G : Nat → Prop} {m : Where} (hI : Inv c r (· < S.nx) (get S.t) (hget S.h) a w G m)
    (hQ : ∀ fs S' a' w' G' m', K fs S' → Inv c r (· < S'.nx) (get S'.t) (hget S'.h) a' w' G' m' → Q .normal a' w') : (Code.region id ops dr).wpIn (Fw ro) n P Q a w := by
  obtain ⟨ss, S', hc, h1, h2, h3, hK⟩ := aops_sound hA dr ops _ _ _ _ h
  cases dr with
  | false =>
    refine wpIn_region_list (seq_sound _ ss _ _ _ a w G m hc hN hI fun a' w' G' m' h' => hQ _ S' a' w' G' m' hK ?_)
    rw [h1, h2, h3]; exact h'
  | true =>
    obtain ⟨hok, hmix⟩ := hdr _ _ hK rfl
    obtain ⟨hst, hend, hnend, hlen⟩ := chain_get ops.toList ss (get S.t) (hget S.h) S.nx 0 hc (fun i hi => by simp) (fun i => ss.getD i ⟨false, [], [], 0, .any, []⟩) (fun i _ => by simp) (get S.t, hget S.h) S.nx rfl rfl
    simp only [Nat.zero_add, Array.length_toList] at hst hend hnend hlen
    simp only [drawOk, Bool.and_eq_true, List.all_eq_true, List.mem_range] at hok
    obtain ⟨hb, hp⟩ := hok
    have hD : Draws P ops (fun i => ss.getD i ⟨false, [], [], 0, .any, []⟩) (get S.t, hget S.h) S.nx := by
      refine ⟨hst, fun j o ho e he hbe => ?_, fun i j hij hj => ?_⟩
      · have := hb (o, j) (by
          rw [List.mem_iff_getElem?]
          exact ⟨j, by simp [List.getElem?_zipIdx, ho]⟩) e (by simpa using he)
        simpa [hbe] using this
      · have := hp j hj i hij
        simp only [Bool.or_eq_true, List.contains_eq_mem, decide_eq_true_eq, Bool.and_eq_true] at this
        refine this.imp (fun h => h) fun h => ⟨h.1, ?_⟩
        have hf : ∀ k, k < ops.size → (feet true [] ss).getD k ([], []) = ((ss.getD k ⟨false, [], [], 0, .any, []⟩).rd, keys (ss.getD k ⟨false, [], [], 0, .any, []⟩).ch) := by
          intro k hk
          simp only [feet, if_true, List.nil_append, List.getD_eq_getElem?_getD, List.getElem?_map]
          rw [List.getElem?_eq_getElem (by omega)]
          rfl
        rw [← hf i (by omega), ← hf j hj]
        exact h.2
    refine wpIn_region_any hmix (draw_any (c := c) (r := r) (ro := ro) (n := n) (fun i hi => hN _ ?_) hD ops.size (Array.replicate ops.size false) a _ G m (by simp) ?_ ?_ ?_ ?_)
    · simp [Array.getD, hi]
    · exact Nat.le_trans (List.length_filter_le _ _) (by simp)
    · intro j o ho hl
      simp [Array.getD] at hl
    · have e : fold ops (fun i => ss.getD i ⟨false, [], [], 0, .any, []⟩) (fun i => (Array.replicate ops.size false).getD i false) (get S.t, hget S.h) ops.size = (get S.t, hget S.h) := by
        have : ∀ k, fold ops (fun i => ss.getD i ⟨false, [], [], 0, .any, []⟩) (fun i => (Array.replicate ops.size false).getD i false) (get S.t, hget S.h) k = (get S.t, hget S.h) := by
          intro k
          induction k with
          | zero => rfl
          | succ k ih => simp only [fold, ih]; rw [if_neg (by simp [Array.getD])]
        exact this _
      rw [e]
      have := hI.drew (w.drawn + 1)
      exact ⟨this.tmps, this.dfr, this.dsr, this.dsn, this.res, this.resA, this.inR, this.g, this.rep, this.heap, this.ev, this.own, fun id x hx => .inl (this.ids id x hx), fun id p hp => .inl (this.idh id p hp), this.old, fun id hid => .inl (this.unx id hid), this.new⟩
    · intro a' w' G' m' h'
      refine hQ _ S' a' w' G' m' hK ?_
      rw [h1, h2, h3]
      rw [hend, hnend] at h'
      exact h'
end

end Go.Bw
