/- Rules for operations, one by one: what is read, what comes out. -/
import Derived.Test.YtldlldamnliejaaBw9
namespace Go.Bw
open Go

/-- What is known of a type. -/
structure TI where
  known : Bool
  agg : Bool
  sz : Nat
  bytes : Nat
  elem : Nat
  kind : Nat
  flds : List (Option Nat)
  fszs : List Nat
  zero : List AV
  ik : IntKind := .i64

def ti (P : Program) (T : TypeId) : TI :=
  match P.info? T, P.underlying T with
  | some i, some d =>
    { known := true, sz := i.size, bytes := i.bytes
      agg := match d with | .struct _ | .array _ _ => true | _ => false
      elem := match d with | .slice e => e | .array _ e => e | .pointer e => e | _ => 0
      kind := match d with | .slice _ => 1 | .string => 2 | .struct fs => if fs.toList.all (fun f => (P.info? f.type).isSome) then 3 else 0 | .array _ _ => 4 | .pointer _ => 5 | .map _ _ => 6 | .func _ _ _ => 7 | .int _ => 8 | .bool => 9 | .interface _ => 10 | _ => 0
      flds := match d with | .struct fs => fs.toList.map (fun f => if P.cellsOf f.type = 0 then none else some f.offset) | _ => []
      fszs := match d with | .struct fs => fs.toList.map (fun f => P.cellsOf f.type) | _ => []
      zero := match i.zero with | some v => v.cells.toList.map ofConst | none => []
      ik := match d with | .int k => k | _ => .i64 }
  | _, _ => ⟨false, false, 0, 0, 0, 0, [], [], [], .i64⟩

theorem ti_known {P : Program} {T : TypeId} (h : (ti P T).known = true) : ∃ i d, P.info? T = some i ∧ P.underlying T = some d := by
  unfold ti at h
  split at h
  · rename_i i d h1 h2; exact ⟨i, d, h1, h2⟩
  · cases h

section
variable {P : Program}

theorem run_typeInfo' {T : TypeId} {i : TypeInfo} (h : P.info? T = some i) (w : World) : (typeInfo T).run P w = .ok i w := by
  simp [typeInfo, h]
theorem run_underlying' {T : TypeId} {d : TypeDesc} (h : P.underlying T = some d) (w : World) : (underlying T).run P w = .ok d w := by
  simp [underlying, h]
theorem run_sizeOf' {T : TypeId} (h : (ti P T).known = true) (w : World) : (sizeOf T).run P w = .ok (ti P T).sz w := by
  obtain ⟨i, d, h1, h2⟩ := ti_known h
  simp [sizeOf, run_typeInfo' h1, ti, h1, h2]
theorem run_isAgg' {T : TypeId} (h : (ti P T).known = true) (w : World) : (isAgg T).run P w = .ok (ti P T).agg w := by
  obtain ⟨i, d, h1, h2⟩ := ti_known h
  simp only [isAgg, Sem.run_bind, run_underlying' h2, Result.andThen_ok, ti, h1, h2]
  cases d <;> rfl
theorem cellsOf_ti {T : TypeId} (h : (ti P T).known = true) : P.cellsOf T = (ti P T).sz := by
  obtain ⟨i, d, h1, h2⟩ := ti_known h
  simp [Program.cellsOf, ti, h1, h2]

theorem OpT.of_run {o : Oper} {ρ : Operand → AV} {H : Nat → Option Ob} {rd fr : List Nat} {out : AV} {ch : Heap}
    (hk : ∀ id ∈ keys ch, id ∈ fr ∨ (id ∈ rd ∧ ∃ p, H id = some p ∧ p.live = true)) (hf : ∀ id ∈ fr, id ∈ keys ch)
    (h : ∀ (w : World) (G : Nat → Prop) (m : Where) (a : Act), (∀ b, G b → b < w.heap.size) → (∀ x ∈ o.op.operands, Rep w G m (ρ x) (a.eval x)) → HeapOk w G m (restr rd H) →
      (∀ id ∈ fr, m id = none) → ∃ v w' G' m', (((execOp a.eval o).run P w = .ok (.value v) w') ∨ ((execOp a.eval o).run P w = .ok .skip w' ∧ v = undef)) ∧ OpRes w G m fr out ch v w' G' m') :
    OpT P o ρ H rd fr out ch :=
  ⟨hk, hf, fun hdf ro n w G m a hg hx hH hfr next Q hn => by
    obtain ⟨v, w', G', m', hrun, hres⟩ := h w G m a hg hx hH hfr
    refine ⟨fun _ _ => trivial, ?_⟩
    rw [Oper.semAt_eq _ _ _ hdf]
    rcases hrun with hrun | ⟨hrun, rfl⟩
    · rw [hrun]; exact hn v w' G' m' hres
    · rw [hrun]; exact hn undef w' G' m' hres⟩

/-- An operation that turns nothing. -/
theorem OpT.pure {o : Oper} {ρ : Operand → AV} {H : Nat → Option Ob} {rd : List Nat} {out : AV}
    (h : ∀ (w : World) (G : Nat → Prop) (m : Where) (a : Act), (∀ b, G b → b < w.heap.size) → (∀ x ∈ o.op.operands, Rep w G m (ρ x) (a.eval x)) → HeapOk w G m (restr rd H) →
      ∃ v, (execOp a.eval o).run P w = .ok (.value v) w ∧ Rep w G m out v) : OpT P o ρ H rd [] out [] :=
  OpT.of_run (by simp [keys]) (by simp) fun w G m a hg hx hH _ => by
    obtain ⟨v, hrun, hr⟩ := h w G m a hg hx hH
    exact ⟨v, w, G, m, .inl hrun, Ev.refl _ _ _ _, hr, by simp [hl], by simp [hl], by simp [hl], fun _ _ => rfl⟩

theorem OpS.pure {o : Oper} {S : St} {K : OK} (rd : List Nat) (out : AV) (hK : K rd 0 out [])
    (h : ∀ (w : World) (G : Nat → Prop) (m : Where) (a : Act), (∀ b, G b → b < w.heap.size) → (∀ x ∈ o.op.operands, Rep w G m (evalA (get S.t) x) (a.eval x)) → HeapOk w G m (restr rd (hget S.h)) →
      ∃ v, (execOp a.eval o).run P w = .ok (.value v) w ∧ Rep w G m out v) : OpS P o S K :=
  ⟨rd, 0, out, [], OpT.pure h, hK⟩

/-! ### cells -/
def AV.one : AV → Bool
  | .val v => v.oneCell'
  | .agg _ | .tup _ | .any => false
  | _ => true

theorem rep_one {w : World} {G : Nat → Prop} {m : Where} {x : AV} {v : Value} (h : Rep w G m x v) (h1 : x.one = true) : v.oneCell' = true := by
  cases h <;> first | exact h1 | rfl | (simp [AV.one] at h1)

def cellsOf : AV → List AV
  | .agg cs => cs
  | v => [v]

theorem rep_cells {w : World} {G : Nat → Prop} {m : Where} {x : AV} {v : Value} (h : Rep w G m x v) (h1 : (cellsOf x).all AV.one = true) :
    (cellsOf x).length = v.cells.size ∧ ∀ j (hj : j < (cellsOf x).length), Rep w G m ((cellsOf x)[j]) (v.cells.getD j undef) ∧ (v.cells.getD j undef).oneCell' = true := by
  rw [List.all_eq_true] at h1
  by_cases hx : ∃ cs, x = .agg cs
  · obtain ⟨cs, rfl⟩ := hx
    cases h with
    | agg _ vs hl hr => exact ⟨hl, fun j hj => ⟨hr j hj, rep_one (hr j hj) (h1 _ (List.getElem_mem hj))⟩⟩
  · have hc : cellsOf x = [x] := by cases x <;> first | rfl | exact absurd ⟨_, rfl⟩ hx
    have ho : x.one = true := h1 x (by simp [hc])
    have hv : v.cells = #[v] := by
      have := rep_one h ho
      cases v <;> first | rfl | (simp [Value.oneCell'] at this)
    rw [hc, hv]
    refine ⟨rfl, fun j hj => ?_⟩
    have : j = 0 := by simp at hj; omega
    subst this
    exact ⟨h, rep_one h ho⟩

def pack (agg : Bool) (cs : List AV) : Option AV := if agg then some (.agg cs) else match cs with | [x] => some x | _ => none

theorem run_loadVar' {T : TypeId} (h : (ti P T).known = true) {w : World} {G : Nat → Prop} {m : Where} {b q : Nat} {cs : List AV} {out : AV} (hl : cs.length = (ti P T).sz)
    (hp : pack (ti P T).agg cs = some out) (hc : ∀ j (hj : j < cs.length), ∃ v, w.cell? ⟨b, q + j, none⟩ = some v ∧ Rep w G m (cs[j]) v) :
    ∃ v, (loadVar T ⟨b, q, none⟩).run P w = .ok v w ∧ Rep w G m out v := by
  have hadd : ∀ j, (Addr.add ⟨b, q, none⟩ j) = ⟨b, q + j, none⟩ := fun j => by unfold Addr.add; split <;> simp_all
  unfold pack at hp
  cases hagg : (ti P T).agg with
  | true =>
    rw [hagg] at hp
    simp only [if_true, Option.some.injEq] at hp
    subst hp
    have hex : ∃ f : Nat → Value, ∀ j (hj : j < cs.length), w.cell? ⟨b, q + j, none⟩ = some (f j) ∧ Rep w G m (cs[j]) (f j) := by
      refine ⟨fun j => if hj : j < cs.length then (hc j hj).choose else undef, fun j hj => ?_⟩
      simp only [hj, dif_pos]
      exact (hc j hj).choose_spec
    obtain ⟨f, hf⟩ := hex
    refine ⟨.agg ((List.range (ti P T).sz).map f).toArray, ?_, .agg cs _ (by simp [hl]) fun j hj => ?_⟩
    · have := run_loadCells (P := P) w ⟨b, q, none⟩ (ti P T).sz f (fun j hj => by rw [hadd]; exact (hf j (by omega)).1)
      simp [loadVar, run_isAgg' h, hagg, run_sizeOf' h, this]
    · have hj' : j < (ti P T).sz := by omega
      simp [Array.getD, hj', (hf j hj).2]
  | false =>
    rw [hagg] at hp
    simp only [Bool.false_eq_true, if_false] at hp
    split at hp
    · rename_i x
      cases hp
      obtain ⟨v, h1, h2⟩ := hc 0 (by simp)
      refine ⟨v, ?_, by simpa using h2⟩
      simp only [Nat.add_zero] at h1
      simp [loadVar, run_isAgg' h, hagg, h1]
    · cases hp

/-! ### move, assign, pick, extract, makeFunc -/
theorem s_move {o : Oper} {S : St} {K : OK} {x : Operand} (ho : o.op = .move x ∨ o.op = .assign x) (hK : K [] 0 (evalA (get S.t) x) []) : OpS P o S K :=
  OpS.pure [] _ hK fun w G m a _ hx _ => by
    rcases ho with ho | ho <;> exact ⟨a.eval x, by simp [execOp, ho], hx x (by simp [ho, Op.operands])⟩

def aPick (c a b : AV) (K : OK) : Prop := match c with
  | .val (.bool c) => K [] 0 (if c then a else b) []
  | _ => False
theorem s_pick {o : Oper} {S : St} {K : OK} {x y z : Operand} (ho : o.op = .pick x y z) (h : aPick (evalA (get S.t) x) (evalA (get S.t) y) (evalA (get S.t) z) K) : OpS P o S K := by
  unfold aPick at h
  split at h
  · rename_i c hc
    refine OpS.pure [] _ h fun w G m a _ hx _ => ?_
    have h1 := hx x (by simp [ho, Op.operands]); rw [hc] at h1
    have h2 := hx y (by simp [ho, Op.operands])
    have h3 := hx z (by simp [ho, Op.operands])
    generalize hev : a.eval x = ex at h1
    cases h1
    cases c
    · exact ⟨a.eval z, by simp [execOp, ho, hev, asBool], h3⟩
    · exact ⟨a.eval y, by simp [execOp, ho, hev, asBool], h2⟩
  · exact h.elim

def aExtract (x : AV) (i : Nat) (K : OK) : Prop := match x with
  | .tup vs => match vs[i]? with | some y => K [] 0 y [] | none => False
  | _ => False
theorem s_extract {o : Oper} {S : St} {K : OK} {x : Operand} {i : Nat} (ho : o.op = .extract x i) (h : aExtract (evalA (get S.t) x) i K) : OpS P o S K := by
  unfold aExtract at h
  split at h
  · rename_i vs hv
    split at h
    · rename_i y hy
      refine OpS.pure [] _ h fun w G m a _ hx _ => ?_
      have h1 := hx x (by simp [ho, Op.operands]); rw [hv] at h1
      generalize hev : a.eval x = ex at h1
      cases h1 with
      | tup _ us hl hr =>
        have hi : i < vs.length := (List.getElem?_eq_some_iff.1 hy).1
        have hi' : i < us.size := by omega
        have := hr i hi
        rw [(List.getElem?_eq_some_iff.1 hy).2] at this
        exact ⟨us.getD i undef, by simp [execOp, ho, hev, Instr.extract, hi'], this⟩
    · exact h.elim
  · exact h.elim

theorem s_makeFunc {o : Oper} {S : St} {K : OK} {fn : Fn} {xs ys : Array Operand} (ho : o.op = .makeFunc fn xs ys)
    (hK : K [] 0 (.clo fn (xs.toList.map (evalA (get S.t))) (ys.toList.map (evalA (get S.t)))) []) : OpS P o S K :=
  OpS.pure [] _ hK fun w G m a _ hx _ => by
    refine ⟨.func fn (xs.map a.eval) (ys.map a.eval), by simp [execOp, ho, Instr.makeFunc], .clo fn _ _ _ _ (by simp) (by simp) (fun j hj => ?_) (fun j hj => ?_)⟩
    · have hj' : j < xs.size := by simpa using hj
      have := hx xs[j] (by simp [ho, Op.operands])
      simpa [Array.getD, hj'] using this
    · have hj' : j < ys.size := by simpa using hj
      have := hx ys[j] (by simp [ho, Op.operands])
      simpa [Array.getD, hj'] using this

/-! ### addresses -/
def aField (fl : Option (Option Nat)) (x : AV) (K : OK) : Prop := match fl, x with
  | some (some d), .ref id i off => K [] 0 (.ref id i (off + d)) []
  | some (some d), .fptr cs => K [] 0 (.fptr (cs.drop d)) []
  | _, _ => False

theorem run_fieldAt {T f d : Nat} (h : (ti P T).flds[f]? = some (some d)) (w : World) (b q : Nat) :
    (Instr.fieldAt T (.pointer (some ⟨b, q, none⟩)) f).run P w = .ok (.pointer (some ⟨b, q + d, none⟩)) w := by
  unfold ti at h
  split at h
  · rename_i i dd h1 h2
    cases dd with
    | struct fs =>
      simp only [List.getElem?_map, Option.map_eq_some_iff] at h
      obtain ⟨fl, hfl, hz⟩ := h
      have hfl' : fs[f]? = some fl := by simpa using hfl
      split at hz
      · cases hz
      · rename_i hne
        cases hz
        have hinfo : ∃ j, P.info? fl.type = some j ∧ j.size ≠ 0 := by
          unfold Program.cellsOf at hne
          cases hj : P.info? fl.type with
          | none => simp [hj] at hne
          | some j => exact ⟨j, rfl, by simpa [hj] using hne⟩
        obtain ⟨j, hj, hjs⟩ := hinfo
        have hadd : (Addr.add ⟨b, q, none⟩ fl.offset) = ⟨b, q + fl.offset, none⟩ := by unfold Addr.add; split <;> simp_all
        simp [Instr.fieldAt, run_underlying' h2, hfl', Instr.sureAddr, fieldPlace, sizeOf, run_typeInfo' hj, hjs, hadd]
    | _ => simp at h
  · simp at h

theorem s_fieldAddr {o : Oper} {S : St} {K : OK} {T : TypeId} {x : Operand} {f : Nat} (ho : o.op = .fieldAddr T x f) (h : aField ((ti P T).flds[f]?) (evalA (get S.t) x) K) : OpS P o S K := by
  unfold aField at h
  split at h
  · rename_i d id i off hd hx'
    refine OpS.pure [] _ h fun w G m a _ hx _ => ?_
    have h1 := hx x (by simp [ho, Op.operands]); rw [hx'] at h1
    generalize hev : a.eval x = ex at h1
    cases h1 with
    | ref _ _ _ b q k hm =>
      refine ⟨.pointer (some ⟨b, q + i * k + off + d, none⟩), by simp [execOp, ho, hev, run_fieldAt hd], ?_⟩
      rw [Nat.add_assoc]
      exact .ref id i (off + d) b q k hm
  · rename_i d cs hd hx'
    refine OpS.pure [] _ h fun w G m a _ hx _ => ?_
    have h1 := hx x (by simp [ho, Op.operands]); rw [hx'] at h1
    generalize hev : a.eval x = ex at h1
    cases h1 with
    | fptr _ b q vs hG hc h1 hr =>
      refine ⟨.pointer (some ⟨b, q + d, none⟩), by simp [execOp, ho, hev, run_fieldAt hd], .fptr _ b (q + d) (fun j => vs (d + j)) hG (fun j hj => ?_) (fun j hj => h1 (d + j) (by simp at hj; omega)) (fun j hj => ?_)⟩
      · have := hc (d + j) (by simp at hj; omega)
        rwa [← Nat.add_assoc] at this
      · simp only [List.getElem_drop]
        exact hr (d + j) (by simp at hj; omega)
  · exact h.elim

/-- The cells of an object at a place. -/
def obAt (x : Option Ob) (i off n : Nat) : Option (List AV) := match x with
  | some (.cells _ es) => match es[i]? with
    | some cs => if off + n ≤ cs.length then some ((cs.drop off).take n) else none
    | none => none
  | _ => none

def aLoad (t : TI) (x : AV) (H : Heap) (K : OK) : Prop := match x with
  | .ref id i off => match obAt (hget H id) i off t.sz with
    | some cs => match pack t.agg cs with | some y => t.known = true ∧ K [id] 0 y [] | none => False
    | none => False
  | .fptr cs => if t.sz ≤ cs.length then match pack t.agg (cs.take t.sz) with | some y => t.known = true ∧ K [] 0 y [] | none => False else False
  | _ => False

theorem obAt_cells {w : World} {G : Nat → Prop} {m : Where} {H : Nat → Option Ob} {id i off n : Nat} {cs : List AV} (hH : HeapOk w G m H) (h : obAt (H id) i off n = some cs)
    {b q k : Nat} (hm : m id = some (b, q, k)) : cs.length = n ∧ ∀ j (hj : j < cs.length), ∃ v, w.cell? ⟨b, q + i * k + off + j, none⟩ = some v ∧ Rep w G m (cs[j]) v := by
  unfold obAt at h
  split at h
  · rename_i f es hes
    split at h
    · rename_i c hc
      split at h
      · rename_i hle
        cases h
        obtain ⟨hi, hci⟩ := List.getElem?_eq_some_iff.1 hc
        obtain ⟨_, hm'⟩ | ⟨_, b', q', k', hm', _, _, _, hcells⟩ := (hH.obj id _ hes)
        · rw [hm] at hm'; cases hm'
        rw [hm] at hm'; cases hm'
        refine ⟨by simp; omega, fun j hj => ?_⟩
        simp only [List.length_take, List.length_drop] at hj
        obtain ⟨v, h1, _, h2⟩ := hcells i hi (off + j) (by rw [hci]; omega)
        refine ⟨v, by rw [Nat.add_assoc]; exact h1, ?_⟩
        simp only [List.getElem_take, List.getElem_drop]
        simpa [hci] using h2
      · cases h
    · cases h
  · cases h

theorem s_load {o : Oper} {S : St} {K : OK} {T : TypeId} {x : Operand} (ho : o.op = .load T x) (h : aLoad (ti P T) (evalA (get S.t) x) S.h K) : OpS P o S K := by
  unfold aLoad at h
  split at h
  · rename_i id i off hx'
    split at h
    · rename_i cs hcs
      split at h
      · rename_i y hy
        obtain ⟨hkn, h⟩ := h
        refine OpS.pure [id] _ h fun w G m a _ hx hH => ?_
        have h1 := hx x (by simp [ho, Op.operands]); rw [hx'] at h1
        generalize hev : a.eval x = ex at h1
        cases h1 with
        | ref _ _ _ b q k hm =>
          obtain ⟨hlen, hc⟩ := obAt_cells (id := id) (cs := cs) hH (by simpa [restr] using hcs) hm
          obtain ⟨v, hv, hr⟩ := run_loadVar' hkn hlen hy hc
          exact ⟨v, by simp [execOp, ho, hev, Instr.loadAt, Instr.sureAddr, hv], hr⟩
      · exact h.elim
    · exact h.elim
  · rename_i cs hx'
    split at h
    · rename_i hle
      split at h
      · rename_i y hy
        obtain ⟨hkn, h⟩ := h
        refine OpS.pure [] _ h fun w G m a _ hx hH => ?_
        have h1 := hx x (by simp [ho, Op.operands]); rw [hx'] at h1
        generalize hev : a.eval x = ex at h1
        cases h1 with
        | fptr _ b q vs hG hc h1 hr =>
          obtain ⟨v, hv, hr⟩ := run_loadVar' (P := P) (w := w) (G := G) (m := m) (b := b) (q := q) hkn (cs := cs.take (ti P T).sz) (by simp; omega) hy (fun j hj => by
            simp only [List.length_take] at hj
            exact ⟨vs j, hc j (by omega), by simpa using hr j (by omega)⟩)
          exact ⟨v, by simp [execOp, ho, hev, Instr.loadAt, Instr.sureAddr, hv], hr⟩
      · exact h.elim
    · exact h.elim
  · exact h.elim

end
end Go.Bw
