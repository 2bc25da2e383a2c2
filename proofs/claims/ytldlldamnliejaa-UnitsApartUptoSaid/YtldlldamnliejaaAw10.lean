/- Functions: what a call comes to (FnH), out of the walk of its body; calls. -/
import Derived.Test.YtldlldamnliejaaAw9
namespace Go.Aw
open Go

/-- A call of f with these arguments, in a memory in which the objects H lie: it returns 'out', and turns objects as 'ch' says. -/
structure FnH (P : Program) (f : FuncId) (args : List AV) (H : Nat → Option Ob) (rd fr : List Nat) (out : AV) (ch : Heap) : Prop where
  enters : ∀ (args : Array Value) (w : World), (callFunc f args).run P w = .ok (.enter f args) w
  ks : ∀ id ∈ keys ch, id ∈ fr ∨ (id ∈ rd ∧ ∃ es, H id = some (false, es))
  fk : ∀ id ∈ fr, id ∈ keys ch
  run : ∀ (w : World) (G : Nat → Prop) (m : Where) (vs : Array Value), (∀ b, G b → b < w.heap.size) → args.length = vs.size → (∀ j (hj : j < args.length), Rep w G m (args[j]) (vs.getD j undef)) →
    HeapOk w G m (restr rd H) → (∀ id ∈ fr, m id = none) → Calls P f vs w fun e w' => ∃ v G' m', e = .returned v ∧ OpRes w G m fr out ch v w' G' m'

/-- A call that turns nothing and whose answer stands by itself. -/
def Fn (P : Program) (f : FuncId) (args : List AV) (out : AV) : Prop := FnH P f args (fun _ => none) [] [] out []

theorem enters_of' {P : Program} {f : FuncId} {fn : Func} {c : Code} (hf : P.funcs[f]? = some fn) (hname : (fn.name == "runtime.NumGoroutine") = false) (hb : fn.body = some c) (args : Array Value) (w : World) :
    (callFunc f args).run P w = .ok (.enter f args) w := by
  have h1 : fn.name ≠ "runtime.NumGoroutine" := by simpa using hname
  simp [callFunc, hf, h1, hb]

/-- A variable of a result, read at the end. -/
def resAV (P : Program) (S : St) : ResultVar → Option AV
  | .tmp t => some (get S.t t)
  | .cell a T => match get S.t a with
    | .ref id i off => if (ti P T).known then (obAt (hget S.h id) i off (ti P T).sz).bind (pack (ti P T).agg) else none
    | _ => none
def retAV (P : Program) (S : St) (rs : List ResultVar) (out : AV) : Prop := match rs with
  | [] => out = .tup []
  | [r] => resAV P S r = some out
  | [r, s] => ∃ x y, resAV P S r = some x ∧ resAV P S s = some y ∧ out = .tup [x, y]
  | [r, s, t] => ∃ x y z, resAV P S r = some x ∧ resAV P S s = some y ∧ resAV P S t = some z ∧ out = .tup [x, y, z]
  | _ => False

section
variable {P : Program}

def rvSem (tmps : Array Value) : ResultVar → Sem Value
  | .tmp t => pure (tmps.getD t undef)
  | .cell a t => do loadVar t (← asAddr (tmps.getD a undef))

theorem results_eq (fn : Func) (tmps : Array Value) : results fn tmps = (do let vs ← fn.results.mapM (rvSem tmps); pure (if h : vs.size = 1 then vs[0] else .tuple vs)) := by
  unfold results
  congr 2

theorem resAV_run {S : St} {N : Nat} {w0 : World} {G0 : Nat → Prop} {m0 : Where} {mu0 U : Nat → Prop} {a : Act} {w : World} {G : Nat → Prop} {m : Where}
    (h : Inv N w0 G0 m0 mu0 U (get S.t) (hget S.h) a w G m) {r : ResultVar} {x : AV} (hr : resAV P S r = some x) :
    ∃ v, (rvSem a.tmps r).run P w = .ok v w ∧ Rep w G m x v := by
  cases r with
  | tmp t => simp only [resAV, Option.some.injEq] at hr; exact ⟨_, rfl, hr ▸ h.rep t⟩
  | cell c T =>
    simp only [resAV] at hr
    split at hr
    · rename_i id i off hx
      split at hr
      · rename_i hk
        obtain ⟨cs, hcs, hp⟩ := Option.bind_eq_some_iff.1 hr
        have h1 := h.rep c; rw [hx] at h1
        generalize hex : a.tmps.getD c undef = ex at h1
        cases h1 with
        | ref _ _ _ b q k hm =>
          obtain ⟨hlen, hc⟩ := obAt_cells h.heap hcs hm
          obtain ⟨v, hv, hrep⟩ := run_loadVar' hk hlen hp hc
          exact ⟨v, by simp only [rvSem, hex, asAddr, Sem.run_bind, Sem.run_pure, Result.andThen_ok, hv], hrep⟩
      · cases hr
    · cases hr

theorem results_run {S : St} {N : Nat} {w0 : World} {G0 : Nat → Prop} {m0 : Where} {mu0 U : Nat → Prop} {a : Act} {w : World} {G : Nat → Prop} {m : Where} {fn : Func} {rs : List ResultVar}
    (h : Inv N w0 G0 m0 mu0 U (get S.t) (hget S.h) a w G m) (hrs : fn.results.toList = rs) {out : AV} (hr : retAV P S rs out) : ∃ v, (results fn a.tmps).run P w = .ok v w ∧ Rep w G m out v := by
  have hfr : fn.results = rs.toArray := by rw [← hrs]
  rw [results_eq, hfr]
  rcases rs with _ | ⟨r, _ | ⟨s, _ | ⟨t, _ | ⟨u, rs⟩⟩⟩⟩
  · simp only [retAV] at hr
    subst hr
    refine ⟨.tuple #[], by simp, .tup [] #[] rfl (fun j hj => by simp at hj)⟩
  · simp only [retAV] at hr
    obtain ⟨v, hv, hrep⟩ := resAV_run h hr
    refine ⟨v, ?_, hrep⟩
    simp [hv]
  · simp only [retAV] at hr
    obtain ⟨x, y, hx, hy, rfl⟩ := hr
    obtain ⟨v1, hv1, hr1⟩ := resAV_run h hx
    obtain ⟨v2, hv2, hr2⟩ := resAV_run h hy
    refine ⟨.tuple #[v1, v2], ?_, .tup _ _ rfl (fun j hj => ?_)⟩
    · simp [hv1, hv2]
    · have : j = 0 ∨ j = 1 := by simp at hj; omega
      rcases this with rfl | rfl
      · exact hr1
      · exact hr2
  · simp only [retAV] at hr
    obtain ⟨x, y, z, hx, hy, hz, rfl⟩ := hr
    obtain ⟨v1, hv1, hr1⟩ := resAV_run h hx
    obtain ⟨v2, hv2, hr2⟩ := resAV_run h hy
    obtain ⟨v3, hv3, hr3⟩ := resAV_run h hz
    refine ⟨.tuple #[v1, v2, v3], ?_, .tup _ _ rfl (fun j hj => ?_)⟩
    · simp [hv1, hv2, hv3]
    · have : j = 0 ∨ j = 1 ∨ j = 2 := by simp at hj; omega
      rcases this with rfl | rfl | rfl
      · exact hr1
      · exact hr2
      · exact hr3
  · exact hr.elim

/-- The state in which a body begins. -/
def enter (args : List AV) : List (Nat × AV) := args.zipIdx.map fun p => (p.2, p.1)

theorem get_enter : ∀ (args : List AV) (k j : Nat), get ((args.zipIdx k).map fun p => (p.2, p.1)) j = if k ≤ j then args.getD (j - k) .any else .any := by
  intro args
  induction args with
  | nil => intro k j; simp [get]
  | cons a args ih =>
    intro k j
    simp only [List.zipIdx_cons, List.map_cons, get]
    by_cases h : j = k
    · simp [h]
    · rw [if_neg h, ih]
      by_cases h2 : k ≤ j
      · rw [if_pos h2, if_pos (by omega), show j - k = (j - (k + 1)) + 1 by omega, List.getD_cons_succ]
      · rw [if_neg h2, if_neg (by omega)]

/-- A value that holds nothing of the caller's objects. -/
def Free (x : AV) : Prop := ∀ (w : World) (G : Nat → Prop) (m : Where) (v : Value), Rep w G m x v → Rep w G (fun _ => none) x v

def retOk (P : Program) (fn : Func) (out : AV) (e : Exit) (S : St) : Prop := (e = .ret ∨ e = .normal) ∧ ∃ S', Le 0 S S' ∧ retAV P S' fn.results.toList out ∧ Free out

/-- A body's walk gives what a call comes to. -/
theorem Fn.of_awp {A : Rules} (hA : Sound P A) {f : FuncId} {fn : Func} {c : Code} {args : List AV} {out : AV} {keep : List Nat} (hf : P.funcs[f]? = some fn) (hname : (fn.name == "runtime.NumGoroutine") = false)
    (hb : fn.body = some c) (hd : dstOk fn.ntmps c = true) (hn : args.length ≤ fn.ntmps) (hfree : ∀ x ∈ args, Free x)
    (h : awp P A 0 keep c (retOk P fn out) ⟨enter args, [], 0⟩) : Fn P f args out := by
  refine ⟨enters_of' hf hname hb, by simp [keys], by simp, fun w G m vs hg hlen hreps _ _ => calls_of_wp hf hb ?_⟩
  have hI : Inv fn.ntmps w G (fun _ => none) (fun _ => False) (· < 0) (get (enter args)) (hget []) { tmps := vs ++ Array.replicate (fn.ntmps - vs.size) undef, defers := [] } w G (fun _ => none) := by
    refine ⟨by simp; omega, rfl, hg, fun t => ?_, ⟨fun id x hx => by simp [hget] at hx, fun i j es es' x y hi => by simp [hget] at hi⟩, Ev.refl _ _ _ _, fun id es x hx => by simp [hget] at hx, fun id x hx => by cases hx⟩
    have e : get (enter args) t = args.getD t .any := by
      have := get_enter args 0 t
      simpa [enter] using this
    rw [e]
    by_cases ht : t < args.length
    · have h1 := hfree _ (List.getElem_mem ht) w G m _ (hreps t ht)
      have e2 : (vs ++ Array.replicate (fn.ntmps - vs.size) undef).getD t undef = vs.getD t undef := by
        simp [Array.getD_eq_getD_getElem?, Array.getElem?_append, show t < vs.size by omega]
      rw [e2]
      simpa [List.getD_eq_getElem?_getD, ht] using h1
    · rw [List.getD_eq_getElem?_getD, List.getElem?_eq_none (by omega)]
      exact .any _
  refine wp_mono (awp_sound hA (m0 := fun _ => none) (mu0 := fun _ => False) (by simp) c _ _ _ w G _ h hd hI) ?_
  rintro e a' w' ⟨S1, G1, m1, hI1, hex, S2, hle, hret, hfo⟩
  obtain ⟨G2, m2, hI2⟩ := hle _ _ _ _ _ a' w' G1 m1 (by simp) hI1
  obtain ⟨v, hv, hrep⟩ := results_run hI2 rfl hret
  have hres : ∃ v' G' m', Ending.returned v = .returned v' ∧ OpRes w G m [] out [] v' w' G' m' := by
    have ev := hI2.ev
    refine ⟨v, G2, m, rfl, ⟨⟨ev.os, ev.tape, ev.output, ev.size, fun b hb _ => ev.blk b hb (fun h => h), ev.shp, ev.sub, fun b hb => (ev.new b hb).imp id (fun h => .inl (h.resolve_right fun h => h)), ev.lt, fun _ _ h => h⟩,
      (hfo w' G2 m2 v hrep).mapM (by simp), by simp [hl], by simp [hl], by simp [hl], fun _ _ => rfl⟩⟩
  rcases hex with rfl | rfl
  · exact ⟨hI2.dfr, v, hv, hres⟩
  · exact ⟨hI2.dfr, v, hv, hres⟩

/-! ### calls -/
def aCall (P : Program) (f : AV) (args : List AV) (S : St) (K : OK) : Prop := match f with
  | .clo (.func f) fs cs => ∃ rd n out ch, FnH P f (fs ++ args ++ cs) (hget S.h) rd (frs S.nx n) out ch ∧ K rd n out ch
  | _ => False

theorem aCall_fn {f : FuncId} {fs args cs : List AV} {S : St} {K : OK} {out : AV} (h : Fn P f (fs ++ args ++ cs) out) (hK : K [] 0 out []) : aCall P (.clo (.func f) fs cs) args S K := by
  refine ⟨[], 0, out, [], ⟨h.enters, by simp [keys], by simp [frs], fun w G m vs hg hl hr _ _ => ?_⟩, hK⟩
  have := h.run w G m vs hg hl hr ⟨fun id x hx => by simp [restr] at hx, fun i j es es' x y hi => by simp [restr] at hi⟩ (by simp)
  simpa [frs] using this

theorem s_call {o : Oper} {S : St} {K : OK} {x : Operand} {xs : Array Operand} {ts : Array TypeId} (ho : o.op = .call { callee := .value x, args := xs, argTypes := ts })
    (h : aCall P (evalA (get S.t) x) (xs.toList.map (evalA (get S.t))) S K) : OpS P o S K := by
  unfold aCall at h
  split at h
  case h_2 => exact h.elim
  rename_i f fs cs hx'
  obtain ⟨rd, n, out, ch, hF, hK⟩ := h
  refine ⟨rd, n, out, ch, ⟨hF.ks, hF.fk, fun w G m a hg hx hH hfr next Q hn => ?_⟩, hK⟩
  have h1 := hx x (by simp [ho, Op.operands, Call.operands]); rw [hx'] at h1
  generalize hev : a.eval x = ex at h1
  cases h1 with
  | clo _ _ _ vf vc hfl hcl hrf hrc =>
    have hrun : (execOp a.eval o).run P w = .ok (.enter f (vf ++ xs.map a.eval ++ vc)) w := by
      simp only [execOp, ho, resolve, hev, Deferred.ofValue, Sem.run_bind, Sem.run_pure, Result.andThen_ok, invoke]
      exact hF.enters _ w
    have hx2 : ∀ j, j < xs.size → Rep w G m (evalA (get S.t) (xs.getD j (.global 0))) (a.eval (xs.getD j (.global 0))) := fun j hj => by
      refine hx _ ?_
      simp only [ho, Op.operands, Call.operands, Array.mem_append]
      right
      simp [Array.getD, hj]
    have := hF.run w G m (vf ++ xs.map a.eval ++ vc) hg (by simp [hfl, hcl]) (fun j hj => ?_) hH hfr
    · unfold Oper.wp
      rw [hrun, Oper.upon_enter]
      refine Calls.mono this ?_
      rintro e w' ⟨v, G', m', rfl, hres⟩
      exact hn v w' G' m' hres
    · simp only [List.length_append, List.length_map, Array.length_toList] at hj
      by_cases h1 : j < fs.length
      · have e : (vf ++ xs.map a.eval ++ vc).getD j undef = vf.getD j undef := by
          simp [Array.getD_eq_getD_getElem?, Array.getElem?_append, show j < vf.size by omega]
        rw [e]
        have := hrf j h1
        simpa [List.getElem_append, h1, show j < fs.length + xs.size by omega] using this
      · by_cases h2 : j < fs.length + xs.size
        · have hj' : j - vf.size < xs.size := by omega
          have e : (vf ++ xs.map a.eval ++ vc).getD j undef = a.eval (xs.getD (j - vf.size) (.global 0)) := by
            simp [Array.getD_eq_getD_getElem?, Array.getElem?_append, show ¬ j < vf.size by omega, hj']
          rw [e]
          have := hx2 (j - vf.size) hj'
          rw [← hfl] at this ⊢
          simpa [List.getElem_append, h1, h2, Array.getD, show j - fs.length < xs.size by omega] using this
        · have e : (vf ++ xs.map a.eval ++ vc).getD j undef = vc.getD (j - (fs.length + xs.size)) undef := by
            rw [Array.getD_eq_getD_getElem?, Array.getD_eq_getD_getElem?, Array.getElem?_append_right (by simp; omega)]
            simp [hfl]
          rw [e]
          have := hrc (j - (fs.length + xs.size)) (by omega)
          simpa [List.getElem_append, h1, show ¬ j - fs.length < xs.size by omega, Nat.sub_sub] using this

end
end Go.Aw
