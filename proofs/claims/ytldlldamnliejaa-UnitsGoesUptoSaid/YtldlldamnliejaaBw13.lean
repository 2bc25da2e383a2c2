/- Rules: struct values and slices made of their parts; conversions, min, max, nil checks. -/
import Derived.Test.YtldlldamnliejaaBw12
namespace Go.Bw
open Go

section
variable {P : Program}

/-- Parts laid into cells. -/
def fillA (place : Nat → Option (Nat × Nat)) : List (Nat × AV) → List AV → Option (List AV)
  | [], cs => some cs
  | (i, x) :: r, cs => match place i with
    | some (off, n) => if (cellsOf x).all AV.one = true ∧ (cellsOf x).length = n ∧ off + n ≤ cs.length then fillA place r (splice cs off (cellsOf x)) else none
    | none => none

theorem foldl_set (vs : List Value) : ∀ (off k : Nat) (cs : Array Value), (vs.zipIdx k).foldl (fun cs p => cs.setIfInBounds (off + p.2) p.1) cs = ((vs.zipIdx k).foldl (fun cs p => cs.setIfInBounds (off + p.2) p.1) cs) := fun _ _ _ => rfl

theorem get_foldl_set : ∀ (vs : List Value) (off k : Nat) (cs : Array Value) (j : Nat), off + k + vs.length ≤ cs.size →
    ((vs.zipIdx k).foldl (fun cs p => cs.setIfInBounds (off + p.2) p.1) cs).size = cs.size ∧
    ((vs.zipIdx k).foldl (fun cs p => cs.setIfInBounds (off + p.2) p.1) cs)[j]? = if off + k ≤ j ∧ j < off + k + vs.length then vs[j - (off + k)]? else cs[j]? := by
  intro vs
  induction vs with
  | nil => intro off k cs j _; exact ⟨rfl, by rw [if_neg (by simp only [List.length_nil]; omega)]; rfl⟩
  | cons v vs ih =>
    intro off k cs j h
    simp only [List.length_cons] at h
    simp only [List.zipIdx_cons, List.foldl_cons]
    obtain ⟨h1, h2⟩ := ih off (k + 1) (cs.setIfInBounds (off + k) v) j (by simp; omega)
    refine ⟨by rw [h1]; simp, ?_⟩
    rw [h2]
    by_cases e1 : j = off + k
    · subst e1
      rw [if_neg (by omega), if_pos (by simp)]
      simp [show off + k < cs.size by omega]
    · by_cases e2 : off + (k + 1) ≤ j ∧ j < off + (k + 1) + vs.length
      · rw [if_pos e2, if_pos (by simp; omega)]
        rw [show j - (off + k) = (j - (off + (k + 1))) + 1 by omega, List.getElem?_cons_succ]
      · rw [if_neg e2, if_neg (by simp; omega)]
        simp [show off + k ≠ j from fun h => e1 h.symm]

theorem fill_rep {w : World} {G : Nat → Prop} {m : Where} (place : Nat → Option (Nat × Nat)) : ∀ (parts : List (Nat × AV)) (vparts : List (Nat × Value)) (cs : List AV) (vs : Array Value) (out : List AV),
    parts.length = vparts.length → (∀ j (h : j < parts.length) (h' : j < vparts.length), (parts[j]).1 = (vparts[j]).1 ∧ Rep w G m (parts[j]).2 (vparts[j]).2) →
    cs.length = vs.size → (∀ j (hj : j < cs.length), Rep w G m (cs[j]) (vs.getD j undef) ∧ (vs.getD j undef).oneCell' = true) → fillA place parts cs = some out →
    ∃ vout, Instr.fill place vs vparts = some vout ∧ out.length = vout.size ∧ ∀ j (hj : j < out.length), Rep w G m (out[j]) (vout.getD j undef) ∧ (vout.getD j undef).oneCell' = true := by
  intro parts
  induction parts with
  | nil =>
    intro vparts cs vs out hl _ hc hr h
    cases vparts with
    | nil => simp only [fillA, Option.some.injEq] at h; subst h; exact ⟨vs, rfl, hc, hr⟩
    | cons => simp at hl
  | cons p parts ih =>
    intro vparts cs vs out hl hp hc hr h
    cases vparts with
    | nil => simp at hl
    | cons q vparts =>
      obtain ⟨i, x⟩ := p
      obtain ⟨i', v⟩ := q
      obtain ⟨rfl, hx⟩ : i = i' ∧ Rep w G m x v := hp 0 (by simp) (by simp)
      simp only [fillA] at h
      split at h
      case h_2 => cases h
      rename_i off n hpl
      split at h
      case isFalse => cases h
      rename_i hcond
      obtain ⟨h1, h2, h3⟩ := hcond
      obtain ⟨hlen, hcells⟩ := rep_cells hx h1
      have hset := get_foldl_set v.cells.toList off 0 vs
      have hfit : off + 0 + v.cells.toList.length ≤ vs.size := by simp only [Array.length_toList, ← hlen]; omega
      have e1 : v.cells.zipIdx.foldl (fun cs p => cs.setIfInBounds (off + p.2) p.1) vs = (v.cells.toList.zipIdx 0).foldl (fun cs p => cs.setIfInBounds (off + p.2) p.1) vs := by
        rw [← Array.foldl_toList]; simp
      have hstep : ∀ j (hj : j < (splice cs off (cellsOf x)).length), Rep w G m ((splice cs off (cellsOf x))[j]) ((v.cells.zipIdx.foldl (fun cs p => cs.setIfInBounds (off + p.2) p.1) vs).getD j undef) ∧
          ((v.cells.zipIdx.foldl (fun cs p => cs.setIfInBounds (off + p.2) p.1) vs).getD j undef).oneCell' = true := by
        intro j hj
        rw [e1, Array.getD_eq_getD_getElem?, (hset j hfit).2]
        simp only [splice, List.length_append, List.length_take, List.length_drop, h2] at hj
        simp only [Nat.add_zero, Array.length_toList, ← hlen, h2]
        by_cases e2 : off ≤ j ∧ j < off + n
        · rw [if_pos e2]
          have := hcells (j - off) (by omega)
          simp only [splice]
          rw [List.getElem_append_left (by simp; omega), List.getElem_append_right (by simp; omega)]
          simp only [List.length_take, show min off cs.length = off by omega]
          simpa [Array.getD_eq_getD_getElem?] using this
        · rw [if_neg e2]
          have := hr j (by omega)
          rw [Array.getD_eq_getD_getElem?] at this
          by_cases e3 : j < off
          · simp only [splice, List.append_assoc]
            rw [List.getElem_append_left (by simp; omega)]
            simpa using this
          · simp only [splice]
            rw [List.getElem_append_right (by simp; omega)]
            simp only [List.getElem_drop, List.length_append, List.length_take]
            have e5 : off + (cellsOf x).length + (j - (min off cs.length + (cellsOf x).length)) = j := by omega
            simp only [e5]
            exact this
      obtain ⟨vout, hv1, hv2, hv3⟩ := ih vparts (splice cs off (cellsOf x)) (v.cells.zipIdx.foldl (fun cs p => cs.setIfInBounds (off + p.2) p.1) vs) out (by simpa using hl)
        (fun j hj hj' => hp (j + 1) (by simp; omega) (by simp; omega)) (by
          rw [e1, (hset 0 hfit).1]
          simp only [splice, List.length_append, List.length_take, List.length_drop, h2]; omega) hstep h
      refine ⟨vout, ?_, hv2, hv3⟩
      simp only [Instr.fill, hpl]
      rw [if_neg (by simp; constructor <;> omega)]
      exact hv1

/-- Where a struct's fields lie. -/
def placeOf (t : TI) (i : Nat) : Option (Nat × Nat) := match t.flds[i]? with
  | some (some off) => some (off, t.fszs.getD i 0)
  | _ => none

theorem fill_place {place place' : Nat → Option (Nat × Nat)} (h : ∀ i x, place i = some x → place' i = some x) : ∀ (vparts : List (Nat × Value)) (vs vout : Array Value), Instr.fill place vs vparts = some vout → Instr.fill place' vs vparts = some vout := by
  intro vparts
  induction vparts with
  | nil => intro vs vout h'; exact h'
  | cons p r ih =>
    intro vs vout h'
    obtain ⟨i, v⟩ := p
    simp only [Instr.fill] at h' ⊢
    cases hp : place i with
    | none => rw [hp] at h'; cases h'
    | some x =>
      rw [h i x hp]; rw [hp] at h'
      obtain ⟨off, size⟩ := x
      dsimp only at h' ⊢
      split at h'
      · cases h'
      · rename_i hc; rw [if_neg hc]; exact ih _ _ h'

def placeSem (f : Field) : Sem (Nat × Nat) := do pure (f.offset, ← sizeOf f.type)
theorem run_mapM_places (fs : List Field) (h : ∀ f ∈ fs, (P.info? f.type).isSome = true) (w : World) :
    (fs.mapM placeSem).run P w = .ok (fs.map fun f => (f.offset, P.cellsOf f.type)) w := by
  induction fs with
  | nil => rfl
  | cons f fs ih =>
    obtain ⟨i, hi⟩ := Option.isSome_iff_exists.1 (h f (by simp))
    have ih := ih (fun g hg => h g (by simp [hg]))
    have h1 : (placeSem f).run P w = .ok (f.offset, P.cellsOf f.type) w := by simp [placeSem, sizeOf, run_typeInfo' hi, Program.cellsOf, hi]
    rw [List.mapM_cons, Sem.run_bind, h1, Result.andThen_ok, Sem.run_bind, ih]
    rfl

theorem ti_struct {T : TypeId} (h : (ti P T).kind = 3) : ∃ fs i, P.underlying T = some (.struct fs) ∧ P.info? T = some i ∧ (∀ f ∈ fs.toList, (P.info? f.type).isSome = true) ∧ (ti P T).agg = true ∧
    (ti P T).flds = fs.toList.map (fun f => if P.cellsOf f.type = 0 then none else some f.offset) ∧ (ti P T).fszs = fs.toList.map (fun f => P.cellsOf f.type) := by
  unfold ti at h ⊢
  split at h
  · rename_i i d h1 h2
    cases d with
    | struct fs =>
      refine ⟨fs, i, h2, h1, ?_, rfl, rfl, rfl⟩
      dsimp only at h
      split at h
      · rename_i hall; exact List.all_eq_true.1 hall
      · cases h
    | _ => simp at h
  · cases h

def aBuild (P : Program) (T : TypeId) (parts : List (Nat × AV)) (K : OK) : Prop :=
  (ti P T).kind = 3 ∧ zeroKnown P T = true ∧ (ti P T).zero.all AV.one = true ∧ match fillA (placeOf (ti P T)) parts (ti P T).zero with
  | some cs => K [] 0 (.agg cs) []
  | none => False

theorem s_build {o : Oper} {S : St} {K : OK} {T : TypeId} {parts : Array (Nat × Operand)} (ho : o.op = .build T parts)
    (h : aBuild P T (parts.toList.map fun p => (p.1, evalA (get S.t) p.2)) K) : OpS P o S K := by
  obtain ⟨hk, hzk, hone, h⟩ := h
  split at h
  case h_2 => exact h.elim
  rename_i cs hcs
  obtain ⟨fs, i, hu, hi, hinf, _, hfl, hfs⟩ := ti_struct hk
  obtain ⟨z, hz⟩ : ∃ z, i.zero = some z := by
    simp only [zeroKnown, hi] at hzk
    exact Option.isSome_iff_exists.1 hzk
  refine OpS.pure [] _ h fun w G m a _ hx _ => ?_
  obtain ⟨hl, hr⟩ := rep_zero (P := P) w G m hi hu hz
  obtain ⟨vout, hv1, hv2, hv3⟩ := fill_rep (w := w) (G := G) (m := m) (placeOf (ti P T)) (parts.toList.map fun p => (p.1, evalA (get S.t) p.2)) (parts.toList.map fun p => (p.1, a.eval p.2)) _ z.cells cs (by simp)
    (fun j h1 h2 => by
      simp only [List.getElem_map, true_and]
      refine hx _ ?_
      simp only [List.length_map, Array.length_toList] at h1
      simp only [ho, Op.operands]
      simp only [List.mem_toArray, List.mem_map]
      exact ⟨_, List.getElem_mem (by simpa using h1), rfl⟩) hl (fun j hj => ⟨hr j hj, rep_one (hr j hj) (List.all_eq_true.1 hone _ (List.getElem_mem hj))⟩) hcs
  refine ⟨.agg vout, ?_, .agg cs vout hv2 fun j hj => (hv3 j hj).1⟩
  have hpl : ∀ i x, placeOf (ti P T) i = some x → ((fs.toList.map fun f => (f.offset, P.cellsOf f.type)).toArray)[i]? = some x := by
    intro i x hp
    unfold placeOf at hp
    rw [hfl, hfs] at hp
    simp only [List.getElem?_map] at hp
    cases hf : fs.toList[i]? with
    | none => rw [hf] at hp; simp at hp
    | some f =>
      rw [hf] at hp
      simp only [Option.map_some] at hp
      split at hp
      · rename_i off he
        split at he
        · cases he
        · simp only [Option.some.injEq] at he hp
          subst hp
          simp only [List.getElem?_toArray, List.getElem?_map, hf, Option.map_some, Option.some.injEq, Prod.mk.injEq]
          refine ⟨he, ?_⟩
          simp [List.getD_eq_getElem?_getD, hf]
      · cases hp
  have hfill := fill_place hpl _ _ _ hv1
  have e : fs = fs.toList.toArray := by simp
  have hm : (fs.mapM placeSem).run P w = .ok (fs.toList.map fun f => (f.offset, P.cellsOf f.type)).toArray w := by
    rw [e, List.mapM_toArray, Sem.run_map, run_mapM_places fs.toList hinf]
    simp
  simp only [execOp, ho, Instr.build, Sem.run_bind, zeroValue, run_typeInfo' hi, hz, Result.andThen_ok, Sem.run_pure, run_underlying' hu]
  change (((fs.mapM placeSem).run P w).andThen _).andThen _ = _
  rw [hm]
  simp only [Result.andThen_ok]
  have hpt : (parts.map fun x => (x.1, a.eval x.2)).toList = parts.toList.map fun p => (p.1, a.eval p.2) := by simp
  rw [hpt, hfill]
  simp

end
end Go.Bw
