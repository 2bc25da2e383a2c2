/- The soundness of one evaluation in the order of the text for a region that draws its order. -/
import Derived.Test.YtldlldamnliejaaBw3
namespace Go.Bw
open Go

theorem StpOk.congr {P : Program} {ops : Array Oper} {o : Oper} {τ τ' : Nat → AV} {H H' : Nat → Option Ob} {nx : Nat} {s : Stp} (h : StpOk P ops o τ H nx s)
    (ht : ∀ t ∈ o.looksAt ops, τ t = τ' t) (hh : ∀ id ∈ s.rd, H id = H' id) : StpOk P ops o τ' H' nx s where
  guard := by
    have hg := h.guard
    cases ho : o.guard with
    | none => rw [ho] at hg; exact hg
    | some p =>
      obtain ⟨j, want⟩ := p
      rw [ho] at hg
      dsimp only at hg ⊢
      rw [← hg]
      congr 1
      unfold gAV gdst
      cases hd : (ops[j]?).bind (·.dst) with
      | none => rfl
      | some d => exact (ht d (by simp [Oper.looksAt, ho, hd])).symm
  yes hw := by
    obtain ⟨h1, h2, h3⟩ := h.yes hw
    refine ⟨fun id hid => (h1 id hid).imp (fun x => x) fun ⟨a, es, b⟩ => ⟨a, es, (hh id a) ▸ b⟩, h2, fun hdf ro n w G m a hg hx hH hfr next Q hn => h3 hdf ro n w G m a hg (fun x hx' => ?_) ?_ hfr next Q hn⟩
    · have := hx x hx'
      cases x with
      | tmp t =>
        have e := ht t (by simp only [Oper.looksAt, List.mem_append, List.mem_filterMap]; exact .inl ⟨.tmp t, by simpa using hx', rfl⟩)
        simp only [evalA] at this ⊢
        rwa [e]
      | _ => exact this
    · have e : restr s.rd H = restr s.rd H' := by
        funext id
        simp only [restr]
        split
        · rename_i hid; exact hh id hid
        · rfl
      rwa [e]
  no := h.no
  fresh := h.fresh

section
variable {P : Program} {ops : Array Oper} {Q : Exit → Act → World → Prop} {c : Cx} {r : Rs} {ro : Option Nat} {n : Nat}

def nxs (st : Nat → Stp) (nx : Nat) : Nat → Nat
  | 0 => nx
  | k + 1 => nxs st nx k + (st k).n

theorem nxs_le (st : Nat → Stp) (nx : Nat) {i : Nat} : ∀ j, i ≤ j → nxs st nx i ≤ nxs st nx j := by
  intro j
  induction j with
  | zero => intro h; obtain rfl : i = 0 := by omega
            exact Nat.le_refl _
  | succ j ih =>
    intro h
    by_cases e : i = j + 1
    · subst e; exact Nat.le_refl _
    · exact Nat.le_trans (ih (by omega)) (by simp [nxs])

structure Draws (P : Program) (ops : Array Oper) (st : Nat → Stp) (σ : Sto) (nx : Nat) : Prop where
  ok : ∀ i, i < ops.size → StpOk P ops (ops.getD i default) (fold ops st (fun _ => true) σ i).1 (fold ops st (fun _ => true) σ i).2 (nxs st nx i) (st i)
  back : ∀ (j : Nat) (o : Oper), ops[j]? = some o → ∀ e ∈ o.after, Region.binds .any e = true → e.on < j
  apart : ∀ i j, i < j → j < ops.size → i ∈ anc ops j ∨ ((ops.getD i default).apart ops (ops.getD j default) = true ∧
    apartF ((st i).rd, keys (st i).ch) ((st j).rd, keys (st j).ch) = true)

theorem apartF_spec {x y : Foot} (h : apartF x y = true) : (∀ i ∈ x.2, i ∉ y.1 ∧ i ∉ y.2) ∧ ∀ i ∈ y.2, i ∉ x.1 := by
  simp only [apartF, Bool.and_eq_true, List.all_eq_true, Bool.not_eq_true', List.contains_eq_mem, decide_eq_false_iff_not] at h
  exact ⟨h.1, h.2⟩

theorem draw_any (hN : ∀ i, i < ops.size → (∀ x, (ops.getD i default).dst = some x → x < c.N) ∧ ∀ c, (ops.getD i default).op ≠ .defer c) {st : Nat → Stp} {σ : Sto} {nx : Nat} (hd : Draws P ops st σ nx) :
    ∀ (fuel : Nat) (listed : Array Bool) (a : Act) (w : World) (G : Nat → Prop) (m : Where),
    listed.size = ops.size → ((List.range ops.size).filter fun i => !listed.getD i false).length ≤ fuel →
    (∀ (j : Nat) (o : Oper), ops[j]? = some o → listed.getD j false = true → ∀ e ∈ o.after, Region.binds .any e = true → listed.getD e.on false = true) →
    Inv c r (fun id => id < nx ∨ ∃ i, i < ops.size ∧ listed.getD i false = true ∧ id ∈ (st i).fr)
      (fold ops st (fun i => listed.getD i false) σ ops.size).1 (fold ops st (fun i => listed.getD i false) σ ops.size).2 a w G m →
    (∀ a' w' G' m', Inv c r (· < nxs st nx ops.size) (fold ops st (fun _ => true) σ ops.size).1 (fold ops st (fun _ => true) σ ops.size).2 a' w' G' m' → Q .normal a' w') →
    wpAnyIn (Fw ro) n P .any ops Q fuel listed a w := by
  have hfin : ∀ (listed : Array Bool) (a : Act) (w : World) (G : Nat → Prop) (m : Where), listed.size = ops.size → Region.ready .any ops listed = [] →
      Inv c r (fun id => id < nx ∨ ∃ i, i < ops.size ∧ listed.getD i false = true ∧ id ∈ (st i).fr)
        (fold ops st (fun i => listed.getD i false) σ ops.size).1 (fold ops st (fun i => listed.getD i false) σ ops.size).2 a w G m →
      Inv c r (· < nxs st nx ops.size) (fold ops st (fun _ => true) σ ops.size).1 (fold ops st (fun _ => true) σ ops.size).2 a w G m := by
    intro listed a w G m hsz hr h
    have hall : ∀ i, i < ops.size → listed.getD i false = true := by
      intro i
      induction i using Nat.strongRecOn with
      | _ i ih =>
        intro hi
        cases hl' : listed.getD i false with
        | true => rfl
        | false =>
          have : i ∈ Region.ready .any ops listed := by
            refine mem_ready.2 ⟨?_, ops[i], Array.getElem?_eq_getElem hi, fun e he hb => ?_⟩
            · simpa [Array.getD, hsz, hi] using hl'
            · have := hd.back i _ (Array.getElem?_eq_getElem hi) e he hb
              exact ih e.on this (by omega)
          rw [hr] at this
          cases this
    rw [fold_congr (ops := ops) st σ (D := fun i => listed.getD i false) (D' := fun _ => true) ops.size (fun i hi => hall i hi)] at h
    refine ⟨h.tmps, h.dfr, h.dsr, h.dsn, h.res, h.resA, h.inR, h.g, h.rep, h.heap, h.ev, h.own, fun id x hx => ?_, fun id p hp => ?_, h.old, fun id hid => ?_, h.new⟩
    · rcases h.ids id x hx with h' | ⟨i, hi, _, h'⟩
      · exact Nat.lt_of_lt_of_le h' (nxs_le st nx (i := 0) ops.size (Nat.zero_le _))
      · have h1 := (hd.ok i hi).fresh id h'
        have h2 := nxs_le st nx (i := i + 1) ops.size hi
        simp only [nxs] at h2
        omega
    · rcases h.idh id p hp with h' | ⟨i, hi, _, h'⟩
      · exact Nat.lt_of_lt_of_le h' (nxs_le st nx (i := 0) ops.size (Nat.zero_le _))
      · have h1 := (hd.ok i hi).fresh id h'
        have h2 := nxs_le st nx (i := i + 1) ops.size hi
        simp only [nxs] at h2
        omega
    · rcases h.unx id hid with h' | ⟨i, hi, _, h'⟩
      · exact Nat.lt_of_lt_of_le h' (nxs_le st nx (i := 0) ops.size (Nat.zero_le _))
      · have h1 := (hd.ok i hi).fresh id h'
        have h2 := nxs_le st nx (i := i + 1) ops.size hi
        simp only [nxs] at h2
        omega
  intro fuel
  induction fuel with
  | zero =>
    intro listed a w G m hsz hcount _ h hQ
    have hr : Region.ready .any ops listed = [] := by
      cases hr : Region.ready .any ops listed with
      | nil => rfl
      | cons j r =>
        have hj : j ∈ Region.ready .any ops listed := by simp [hr]
        obtain ⟨h1, o, ho, _⟩ := mem_ready.1 hj
        have hlt := (Array.getElem?_eq_some_iff.1 ho).1
        have : j ∈ (List.range ops.size).filter fun i => !listed.getD i false := by
          simp only [List.mem_filter, List.mem_range, hlt, true_and, Bool.not_eq_true']
          simpa [Array.getD, hsz, hlt] using h1
        have := List.length_pos_of_mem this
        omega
    exact ⟨hr, hQ a w G m (hfin listed a w G m hsz hr h)⟩
  | succ fuel ih =>
    intro listed a w G m hsz hcount hcl h hQ
    refine ⟨fun hr => hQ a w G m (hfin listed a w G m hsz hr h), fun i hi => ?_⟩
    obtain ⟨hnl, o, ho, hready⟩ := mem_ready.1 hi
    have hlt := (Array.getElem?_eq_some_iff.1 ho).1
    have hoD : ops.getD i default = o := by simp [Array.getD, hlt, (Array.getElem?_eq_some_iff.1 ho).2]
    have hnl' : listed.getD i false = false := by simpa [Array.getD, hsz, hlt] using hnl
    have hanc : ∀ j ∈ anc ops i, listed.getD j false = true := closed_anc hd.back (D := fun j => listed.getD j false = true) hcl i o ho hready
    have hlater : ∀ j, i < j → j < ops.size → listed.getD j false = true → i ∉ anc ops j := by
      intro j hij hj hl' hia
      have hoj : ops[j]? = some ops[j] := Array.getElem?_eq_getElem hj
      have := closed_anc hd.back (D := fun j => listed.getD j false = true) hcl j _ hoj (hcl j _ hoj hl') i hia
      rw [hnl'] at this; cases this
    -- what it reads is what it reads in the order of the text
    have hdiff : ∀ j, j < ops.size → listed.getD j false ≠ decide (j < i) → j ≠ i → (ops.getD j default).apart ops (ops.getD i default) = true ∨ (ops.getD i default).apart ops (ops.getD j default) = true := by
      intro j hj hne hji
      rcases Nat.lt_or_ge j i with hlt' | hge
      · have : listed.getD j false = false := by cases hx : listed.getD j false <;> simp_all
        rcases hd.apart j i hlt' hlt with h1 | h1
        · rw [hanc j h1] at this; cases this
        · exact .inl h1.1
      · have hij : i < j := by omega
        have : listed.getD j false = true := by cases hx : listed.getD j false <;> simp_all <;> omega
        rcases hd.apart i j hij hj with h1 | h1
        · exact absurd h1 (hlater j hij hj this)
        · exact .inr h1.1
    have hdiffF : ∀ j, j < ops.size → listed.getD j false ≠ decide (j < i) → j ≠ i → ∀ id ∈ (st i).rd, id ∉ keys (st j).ch := by
      intro j hj hne hji id hid hk
      rcases Nat.lt_or_ge j i with hlt' | hge
      · have : listed.getD j false = false := by cases hx : listed.getD j false <;> simp_all
        rcases hd.apart j i hlt' hlt with h1 | h1
        · rw [hanc j h1] at this; cases this
        · exact ((apartF_spec h1.2).1 id hk).1 hid
      · have hij : i < j := by omega
        have : listed.getD j false = true := by cases hx : listed.getD j false <;> simp_all <;> omega
        rcases hd.apart i j hij hj with h1 | h1
        · exact absurd h1 (hlater j hij hj this)
        · exact (apartF_spec h1.2).2 id hk hid
    have htext : ∀ k, k ≤ ops.size → i ≤ k → fold ops st (fun j => decide (j < i)) σ k = fold ops st (fun _ => true) σ i := by
      intro k
      induction k with
      | zero => intro _ h0; obtain rfl : i = 0 := by omega
                rfl
      | succ k ihk =>
        intro hk1 hk2
        by_cases e : i = k + 1
        · subst e; exact fold_congr (ops := ops) st σ _ (fun j hj => by simp [hj])
        · simp only [fold]
          rw [if_neg (by simp; omega)]
          exact ihk (by omega) (by omega)
    have hok : StpOk P ops o (fold ops st (fun i => listed.getD i false) σ ops.size).1 (fold ops st (fun i => listed.getD i false) σ ops.size).2 (nxs st nx i) (st i) := by
      have h0 := hd.ok i hlt
      rw [hoD] at h0
      refine h0.congr (fun t ht => ?_) (fun id hid => ?_)
      · rw [← htext ops.size (Nat.le_refl _) (by omega)]
        refine (fold_t st σ t ops.size fun j hj hne => ?_)
        by_cases hji : j = i
        · subst hji; simp [hnl'] at hne
        · intro hdst
          rcases hdiff j hj (fun e => hne e.symm) hji with h1 | h1
          · have := (Oper.apart_spec h1).1 t hdst
            rw [hoD] at this
            exact this ht
          · have := (Oper.apart_spec h1).2.2 t hdst
            rw [hoD] at this
            exact this ht
      · rw [← htext ops.size (Nat.le_refl _) (by omega)]
        refine (fold_h st σ id ops.size fun j hj hne => ?_)
        by_cases hji : j = i
        · subst hji; simp [hnl'] at hne
        · exact hdiffF j hj (fun e => hne e.symm) hji id hid
    have hgd : ∀ j, (listed.setIfInBounds i true).getD j false = if j = i then true else listed.getD j false := by
      intro j
      by_cases e : j = i
      · subst e; simp [Array.getD, hsz, hlt]
      · rw [if_neg e, getD_set_ne false (fun h => e h.symm)]
    have hadd : fold ops st (fun j => (listed.setIfInBounds i true).getD j false) σ ops.size = app ops st i (fold ops st (fun j => listed.getD j false) σ ops.size) := by
      refine fold_add st σ (i := i) hnl' (by simp [hgd]) (fun j hj => by simp [hgd, hj]) ops.size hlt (fun j hij hj hl' => ?_)
      rcases hd.apart i j hij hj with h1 | h1
      · exact absurd h1 (hlater j hij hj hl')
      · refine ⟨?_, fun id hid hk => ((apartF_spec h1.2).1 id hid).2 hk⟩
        cases hdi : (ops.getD i default).dst with
        | none => cases hdj : (ops.getD j default).dst <;> simp
        | some d => exact .inr ((Oper.apart_spec h1.1).2.1 d hdi)
    have hstp := stp_wp (P := P) (Q := Q) (c := c) (r := r) (ro := ro) (n := n)
      (U := fun id => id < nx ∨ ∃ i, i < ops.size ∧ listed.getD i false = true ∧ id ∈ (st i).fr)
      (U' := fun id => id < nx ∨ ∃ j, j < ops.size ∧ (listed.setIfInBounds i true).getD j false = true ∧ id ∈ (st j).fr)
      (K := wpAnyIn (Fw ro) n P .any ops Q fuel (listed.setIfInBounds i true)) hok (fun x hx => (hN i hlt).1 x (hoD ▸ hx)) (fun c => hoD ▸ (hN i hlt).2 c) h ?_ ?_ ?_ ?_
    · unfold wpOpIn
      rw [ho]
      dsimp only
      split
      · rename_i hw; rw [if_pos hw] at hstp; exact hstp
      · rename_i hw; rw [if_neg hw] at hstp; exact ⟨fun _ _ => trivial, hstp⟩
    · intro id hid hU
      have hf := (hd.ok i hlt).fresh id hid
      rcases hU with h' | ⟨j, hj, hl', hjf⟩
      · have := nxs_le st nx (i := 0) i (Nat.zero_le _)
        simp only [nxs] at this
        omega
      · have hfj := (hd.ok j hj).fresh id hjf
        have hne : j ≠ i := fun e => by subst e; rw [hnl'] at hl'; cases hl'
        rcases Nat.lt_or_ge j i with h1 | h1
        · have := nxs_le st nx (i := j + 1) i h1
          simp only [nxs] at this; omega
        · have := nxs_le st nx (i := i + 1) j (by omega)
          simp only [nxs] at this; omega
    · rintro id (h' | ⟨j, hj, hl', hjf⟩)
      · exact .inl h'
      · exact .inr ⟨j, hj, by rw [hgd]; split <;> simp [hl'], hjf⟩
    · intro id hid
      exact .inr ⟨i, hlt, by simp [hgd], hid⟩
    · intro a' w' G' m' h'
      refine ih (listed.setIfInBounds i true) a' w' G' m' (by simp [hsz]) ?_ ?_ ?_ hQ
      · have hsub : ((List.range ops.size).filter fun j => !(listed.setIfInBounds i true).getD j false).length < ((List.range ops.size).filter fun j => !listed.getD j false).length := by
          have e : (List.range ops.size).filter (fun j => !(listed.setIfInBounds i true).getD j false) = ((List.range ops.size).filter fun j => !listed.getD j false).filter (fun j => decide (j ≠ i)) := by
            rw [List.filter_filter]
            refine List.filter_congr fun j _ => ?_
            rw [hgd]
            by_cases e : j = i
            · subst e; simp
            · simp [e]
          rw [e]
          refine List.length_filter_lt_length_iff_exists.2 ⟨i, ?_, by simp⟩
          exact List.mem_filter.2 ⟨List.mem_range.2 hlt, by rw [hnl']; rfl⟩
        omega
      · intro j o' ho' hl' e he hb
        rw [hgd] at hl' ⊢
        split
        · rfl
        · by_cases e' : j = i
          · subst e'; rw [ho] at ho'; cases ho'; exact hready e he hb
          · rw [if_neg e'] at hl'; exact hcl j o' ho' hl' e he hb
      · rw [hadd]
        simp only [app, hoD]
        exact h'
end

end Go.Bw
