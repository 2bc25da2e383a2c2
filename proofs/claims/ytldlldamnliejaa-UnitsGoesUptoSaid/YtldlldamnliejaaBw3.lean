/- A region whose order is drawn: where operations that no edge orders do not touch what the other one touches, each order comes to the same. -/
import Derived.Test.YtldlldamnliejaaBw2
namespace Go.Bw
open Go

/-- Which operations stand ahead of each: edges, and edges of edges. -/
def ancs (ops : Array Oper) : List (List Nat) :=
  ops.toList.foldl (fun acc o => acc ++ [o.after.toList.foldl (fun s e => if Region.binds .any e then s ++ e.on :: acc.getD e.on [] else s) []]) []

abbrev Foot := List Nat × List Nat   -- objects that are read; that turn

def apartF (x y : Foot) : Bool := x.2.all (fun i => !y.1.contains i && !y.2.contains i) && y.2.all (fun i => !x.1.contains i)

/-- Every two operations are ordered, or apart; edges point back. -/
def drawOk (ops : Array Oper) (fs : List Foot) : Bool :=
  ops.toList.zipIdx.all (fun (o, j) => o.after.toList.all (fun e => !Region.binds .any e || decide (e.on < j))) &&
  (List.range ops.size).all fun j => (List.range j).all fun i =>
    ((ancs ops).getD j []).contains i || ((ops.getD i default).apart ops (ops.getD j default) && apartF (fs.getD i ([], [])) (fs.getD j ([], [])))

def anc (ops : Array Oper) (j : Nat) : List Nat := (ancs ops).getD j []

section
variable {P : Program} {ops : Array Oper} {Q : Exit → Act → World → Prop} 

theorem foldl_inner (acc : List (List Nat)) (es : List Edge) : ∀ (s : List Nat) (i : Nat),
    i ∈ es.foldl (fun s e => if Region.binds .any e then s ++ e.on :: acc.getD e.on [] else s) s ↔
      i ∈ s ∨ ∃ e ∈ es, Region.binds .any e = true ∧ (i = e.on ∨ i ∈ acc.getD e.on []) := by
  induction es with
  | nil => intro s i; simp
  | cons e es ih =>
    intro s i
    rw [List.foldl_cons, ih]
    by_cases h : Region.binds .any e = true
    · simp only [h, if_true, List.mem_append, List.mem_cons, exists_eq_or_imp, true_and, or_assoc]
    · simp only [h, Bool.false_eq_true, if_false, List.mem_cons, exists_eq_or_imp, false_and, false_or]

theorem ancs_len : ∀ (l : List Oper) (acc : List (List Nat)),
    (l.foldl (fun acc o => acc ++ [o.after.toList.foldl (fun s e => if Region.binds .any e then s ++ e.on :: acc.getD e.on [] else s) []]) acc).length = acc.length + l.length := by
  intro l
  induction l with
  | nil => intro acc; simp
  | cons o l ih => intro acc; rw [List.foldl_cons, ih]; simp; omega

theorem ancs_get : ∀ (l : List Oper) (acc : List (List Nat)) (j : Nat), j < acc.length →
    (l.foldl (fun acc o => acc ++ [o.after.toList.foldl (fun s e => if Region.binds .any e then s ++ e.on :: acc.getD e.on [] else s) []]) acc).getD j [] = acc.getD j [] := by
  intro l
  induction l with
  | nil => intro acc j _; rfl
  | cons o l ih =>
    intro acc j hj
    rw [List.foldl_cons, ih _ j (by simp; omega)]
    simp [List.getD_eq_getElem?_getD, List.getElem?_append_left hj]

/-- What stands ahead of an operation is an edge's end, or stands ahead of it; edges point back. -/
theorem ancs_mem : ∀ (l : List Oper) (acc : List (List Nat)) (k : Nat) (o : Oper), l[k]? = some o →
    (∀ e ∈ o.after, Region.binds .any e = true → e.on < acc.length + k) → ∀ i,
    i ∈ (l.foldl (fun acc o => acc ++ [o.after.toList.foldl (fun s e => if Region.binds .any e then s ++ e.on :: acc.getD e.on [] else s) []]) acc).getD (acc.length + k) [] →
    ∃ e ∈ o.after, Region.binds .any e = true ∧ (i = e.on ∨
      i ∈ (l.foldl (fun acc o => acc ++ [o.after.toList.foldl (fun s e => if Region.binds .any e then s ++ e.on :: acc.getD e.on [] else s) []]) acc).getD e.on []) := by
  intro l
  induction l with
  | nil => intro acc k o h; simp at h
  | cons o' l ih =>
    intro acc k o ho hback i hi
    cases k with
    | zero =>
      simp only [List.getElem?_cons_zero, Option.some.injEq] at ho
      subst ho
      rw [List.foldl_cons, Nat.add_zero, ancs_get _ _ _ (by simp)] at hi
      simp only [List.getD_eq_getElem?_getD, List.getElem?_append_right (Nat.le_refl _), Nat.sub_self, List.getElem?_cons_zero, Option.getD_some] at hi
      have := (foldl_inner acc o'.after.toList [] i).1 (by simpa [List.getD_eq_getElem?_getD] using hi)
      rcases this with h | ⟨e, he, hb, h⟩
      · simp at h
      · refine ⟨e, by simpa using he, hb, h.imp id fun h => ?_⟩
        have hlt := hback e (by simpa using he) hb
        rw [List.foldl_cons, ancs_get _ _ _ (by simp; omega)]
        simp only [List.getD_eq_getElem?_getD] at h ⊢
        rw [List.getElem?_append_left (by omega)]
        exact h
    | succ k =>
      rw [List.foldl_cons] at hi ⊢
      refine ih _ k o (by simpa using ho) (fun e he hb => by have := hback e he hb; simp; omega) i ?_
      simp only [List.length_append, List.length_singleton]
      rw [show acc.length + 1 + k = acc.length + (k + 1) by omega]
      exact hi

theorem anc_mem {j : Nat} {o : Oper} (ho : ops[j]? = some o) (hback : ∀ e ∈ o.after, Region.binds .any e = true → e.on < j) {i : Nat} (hi : i ∈ anc ops j) :
    ∃ e ∈ o.after, Region.binds .any e = true ∧ (i = e.on ∨ i ∈ anc ops e.on) := by
  have := ancs_mem ops.toList [] j o (by simpa using ho) (by simpa using hback) i (by simpa [anc, ancs] using hi)
  simpa [anc, ancs] using this

/-- What is done is closed: what stands ahead of what is done is done. -/
theorem closed_anc (hback : ∀ (j : Nat) (o : Oper), ops[j]? = some o → ∀ e ∈ o.after, Region.binds .any e = true → e.on < j) {D : Nat → Prop}
    (hD : ∀ (j : Nat) (o : Oper), ops[j]? = some o → D j → ∀ e ∈ o.after, Region.binds .any e = true → D e.on) :
    ∀ (j : Nat) (o : Oper), ops[j]? = some o → (∀ e ∈ o.after, Region.binds .any e = true → D e.on) → ∀ i ∈ anc ops j, D i := by
  intro j
  induction j using Nat.strongRecOn with
  | _ j ih =>
    intro o ho hready i hi
    obtain ⟨e, he, hb, h⟩ := anc_mem ho (hback j o ho) hi
    rcases h with rfl | h
    · exact hready e he hb
    · have hlt := hback j o ho e he hb
      have hj : j < ops.size := (Array.getElem?_eq_some_iff.1 ho).1
      have hoe : ops[e.on]? = some ops[e.on] := Array.getElem?_eq_getElem (by omega)
      exact ih e.on hlt _ hoe (fun e' he' hb' => hD e.on _ hoe (hready e he hb) e' he' hb') i h

abbrev Sto := (Nat → AV) × (Nat → Option Ob)
def app (ops : Array Oper) (st : Nat → Stp) (i : Nat) (σ : Sto) : Sto := (tput σ.1 ((ops.getD i default).dst) (st i).out, hupd σ.2 (st i).ch)
def fold (ops : Array Oper) (st : Nat → Stp) (D : Nat → Bool) (σ : Sto) : Nat → Sto
  | 0 => σ
  | k + 1 => if D k then app ops st k (fold ops st D σ k) else fold ops st D σ k

theorem fold_congr (st : Nat → Stp) (σ : Sto) {D D' : Nat → Bool} : ∀ k, (∀ i, i < k → D i = D' i) → fold ops st D σ k = fold ops st D' σ k := by
  intro k
  induction k with
  | zero => intro _; rfl
  | succ k ih => intro h; simp only [fold, h k (by omega), ih (fun i hi => h i (by omega))]

/-- A temporary that no operation that parts them writes reads the same. -/
theorem fold_t (st : Nat → Stp) (σ : Sto) {D D' : Nat → Bool} (t : Nat) : ∀ k, (∀ i, i < k → D i ≠ D' i → (ops.getD i default).dst ≠ some t) → (fold ops st D σ k).1 t = (fold ops st D' σ k).1 t := by
  intro k
  induction k with
  | zero => intro _; rfl
  | succ k ih =>
    intro h
    have ih := ih (fun i hi => h i (by omega))
    have hk := h k (by omega)
    simp only [fold]
    cases hD : D k <;> cases hD' : D' k <;> simp only [Bool.false_eq_true, if_false, if_true]
    · exact ih
    · simp only [app, tput, if_neg (hk (by simp [hD, hD']))]; exact ih
    · simp only [app, tput, if_neg (hk (by simp [hD, hD']))]; exact ih
    · simp only [app, tput]; split
      · rfl
      · exact ih

theorem fold_h (st : Nat → Stp) (σ : Sto) {D D' : Nat → Bool} (id : Nat) : ∀ k, (∀ i, i < k → D i ≠ D' i → id ∉ keys (st i).ch) → (fold ops st D σ k).2 id = (fold ops st D' σ k).2 id := by
  intro k
  induction k with
  | zero => intro _; rfl
  | succ k ih =>
    intro h
    have ih := ih (fun i hi => h i (by omega))
    have hk := h k (by omega)
    simp only [fold]
    cases hD : D k <;> cases hD' : D' k <;> simp only [Bool.false_eq_true, if_false, if_true]
    · exact ih
    · simp only [app, hupd, hl_none.2 (hk (by simp [hD, hD']))]; exact ih
    · simp only [app, hupd, hl_none.2 (hk (by simp [hD, hD']))]; exact ih
    · simp only [app, hupd]; split
      · rfl
      · exact ih

/-- One operation more, that touches nothing that a later one that is done touches. -/
theorem fold_add (st : Nat → Stp) (σ : Sto) {D D' : Nat → Bool} {i : Nat} (hi : D i = false) (hi' : D' i = true) (he : ∀ j, j ≠ i → D' j = D j) :
    ∀ k, i < k → (∀ j, i < j → j < k → D j = true → ((ops.getD j default).dst = none ∨ (ops.getD j default).dst ≠ (ops.getD i default).dst) ∧ ∀ id ∈ keys (st i).ch, id ∉ keys (st j).ch) →
      fold ops st D' σ k = app ops st i (fold ops st D σ k) := by
  intro k
  induction k with
  | zero => intro h; omega
  | succ k ih =>
    intro hlt hj
    by_cases hk : k = i
    · subst hk
      simp only [fold, hi, hi', if_true, Bool.false_eq_true, if_false]
      rw [fold_congr (ops := ops) st σ (D := D') (D' := D) k (fun j hj' => he j (by omega))]
    · have ih := ih (by omega) (fun j h1 h2 => hj j h1 (by omega))
      simp only [fold, he k hk]
      cases hD : D k with
      | false => simpa using ih
      | true =>
        simp only [if_true, ih]
        obtain ⟨h1, h2⟩ := hj k (by omega) (by omega) hD
        simp only [app, Prod.mk.injEq]
        constructor
        · funext t
          simp only [tput]
          by_cases ha : (ops.getD k default).dst = some t
          · rw [if_pos ha, if_neg (fun hb => h1.elim (fun h => by rw [h] at ha; cases ha) (fun h => h (ha.trans hb.symm))), if_pos ha]
          · simp only [if_neg ha]
        · funext id
          simp only [hupd]
          cases ha : hl (st k).ch id with
          | none => rfl
          | some c =>
            have : hl (st i).ch id = none := hl_none.2 fun hb => h2 id hb (hl_some ha)
            rw [this]
end

end Go.Bw
