/- Functions: what a call comes to (FnH), out of the walk of its body; calls. -/
import Derived.Test.YtldlldamnliejaaBw17
import Derived.RangeFuncLeaves
namespace Go.Bw
open Go

/-- A call of f with these arguments, in a memory in which the objects H lie: it returns 'out', and turns objects as 'ch' says. -/
structure FnH (P : Program) (f : FuncId) (args : List AV) (H : Nat → Option Ob) (rd fr : List Nat) (out : AV) (ch : Heap) : Prop where
  enters : ∀ (args : Array Value) (w : World), (callFunc f args).run P w = .ok (.enter f args) w
  ks : ∀ id ∈ keys ch, id ∈ fr ∨ (id ∈ rd ∧ ∃ p, H id = some p ∧ p.live = true)
  fk : ∀ id ∈ fr, id ∈ keys ch
  run : ∀ (w : World) (G : Nat → Prop) (m : Where) (vs : Array Value), (∀ b, G b → b < w.heap.size) → args.length = vs.size → (∀ j (hj : j < args.length), Rep w G m (args[j]) (vs.getD j undef)) →
    HeapOk w G m (restr rd H) → (∀ id ∈ fr, m id = none) → Calls P f vs w fun e w' => ∃ v G' m', e = .returned v ∧ OpRes w G m fr out ch v w' G' m'

/-- A call that turns nothing and whose answer stands by itself. -/
def Fn (P : Program) (f : FuncId) (args : List AV) (out : AV) : Prop := FnH P f args (fun _ => none) [] [] out []

theorem enters_of' {P : Program} {f : FuncId} {fn : Func} {c : Code} (hf : P.funcs[f]? = some fn) (hname : (fn.name == "runtime.NumGoroutine") = false) (hb : fn.body = some c) (args : Array Value) (w : World) :
    (callFunc f args).run P w = .ok (.enter f args) w := by
  have h1 : fn.name ≠ "runtime.NumGoroutine" := by simpa using hname
  simp [callFunc, hf, h1, hb]

/-- A variable of a result, read at the end. -/
def resAV (P : Program) (S : St) : ResultVar → Option AV
  | .tmp t => some (get S.t t)
  | .cell a T => match get S.t a with
    | .ref id i off => if (ti P T).known then (obAt (hget S.h id) i off (ti P T).sz).bind (pack (ti P T).agg) else none
    | _ => none
def retAV (P : Program) (S : St) (rs : List ResultVar) (out : AV) : Prop := match rs with
  | [] => out = .tup []
  | [r] => resAV P S r = some out
  | [r, s] => ∃ x y, resAV P S r = some x ∧ resAV P S s = some y ∧ out = .tup [x, y]
  | [r, s, t] => ∃ x y z, resAV P S r = some x ∧ resAV P S s = some y ∧ resAV P S t = some z ∧ out = .tup [x, y, z]
  | _ => False

section
variable {P : Program}

def rvSem (tmps : Array Value) : ResultVar → Sem Value
  | .tmp t => pure (tmps.getD t undef)
  | .cell a t => do loadVar t (← asAddr (tmps.getD a undef))

theorem results_eq (fn : Func) (tmps : Array Value) : results fn tmps = (do let vs ← fn.results.mapM (rvSem tmps); pure (if h : vs.size = 1 then vs[0] else .tuple vs)) := by
  unfold results
  congr 2

theorem resAV_run {S : St} {c : Cx} {r : Rs} {U : Nat → Prop} {a : Act} {w : World} {G : Nat → Prop} {m : Where}
    (h : Inv c r U (get S.t) (hget S.h) a w G m) {q : ResultVar} {x : AV} (hr : resAV P S q = some x) :
    ∃ v, (rvSem a.tmps q).run P w = .ok v w ∧ Rep w G m x v := by
  cases q with
  | tmp t => simp only [resAV, Option.some.injEq] at hr; exact ⟨_, rfl, hr ▸ h.rep t⟩
  | cell c T =>
    simp only [resAV] at hr
    split at hr
    · rename_i id i off hx
      split at hr
      · rename_i hk
        obtain ⟨cs, hcs, hp⟩ := Option.bind_eq_some_iff.1 hr
        have h1 := h.rep c; rw [hx] at h1
        generalize hex : a.tmps.getD c undef = ex at h1
        cases h1 with
        | ref _ _ _ b q k hm =>
          obtain ⟨hlen, hc⟩ := obAt_cells h.heap hcs hm
          obtain ⟨v, hv, hrep⟩ := run_loadVar' hk hlen hp hc
          exact ⟨v, by simp only [rvSem, hex, asAddr, Sem.run_bind, Sem.run_pure, Result.andThen_ok, hv], hrep⟩
      · cases hr
    · cases hr

theorem results_run {S : St} {c : Cx} {r : Rs} {U : Nat → Prop} {a : Act} {w : World} {G : Nat → Prop} {m : Where} {fn : Func} {rs : List ResultVar}
    (h : Inv c r U (get S.t) (hget S.h) a w G m) (hrs : fn.results.toList = rs) {out : AV} (hr : retAV P S rs out) : ∃ v, (results fn a.tmps).run P w = .ok v w ∧ Rep w G m out v := by
  have hfr : fn.results = rs.toArray := by rw [← hrs]
  rw [results_eq, hfr]
  rcases rs with _ | ⟨r, _ | ⟨s, _ | ⟨t, _ | ⟨u, rs⟩⟩⟩⟩
  · simp only [retAV] at hr
    subst hr
    refine ⟨.tuple #[], by simp, .tup [] #[] rfl (fun j hj => by simp at hj)⟩
  · simp only [retAV] at hr
    obtain ⟨v, hv, hrep⟩ := resAV_run h hr
    refine ⟨v, ?_, hrep⟩
    simp [hv]
  · simp only [retAV] at hr
    obtain ⟨x, y, hx, hy, rfl⟩ := hr
    obtain ⟨v1, hv1, hr1⟩ := resAV_run h hx
    obtain ⟨v2, hv2, hr2⟩ := resAV_run h hy
    refine ⟨.tuple #[v1, v2], ?_, .tup _ _ rfl (fun j hj => ?_)⟩
    · simp [hv1, hv2]
    · have : j = 0 ∨ j = 1 := by simp at hj; omega
      rcases this with rfl | rfl
      · exact hr1
      · exact hr2
  · simp only [retAV] at hr
    obtain ⟨x, y, z, hx, hy, hz, rfl⟩ := hr
    obtain ⟨v1, hv1, hr1⟩ := resAV_run h hx
    obtain ⟨v2, hv2, hr2⟩ := resAV_run h hy
    obtain ⟨v3, hv3, hr3⟩ := resAV_run h hz
    refine ⟨.tuple #[v1, v2, v3], ?_, .tup _ _ rfl (fun j hj => ?_)⟩
    · simp [hv1, hv2, hv3]
    · have : j = 0 ∨ j = 1 ∨ j = 2 := by simp at hj; omega
      rcases this with rfl | rfl | rfl
      · exact hr1
      · exact hr2
      · exact hr3
  · exact hr.elim

/-- The state in which a body begins. -/
def enter (args : List AV) : List (Nat × AV) := args.zipIdx.map fun p => (p.2, p.1)

theorem get_enter : ∀ (args : List AV) (k j : Nat), get ((args.zipIdx k).map fun p => (p.2, p.1)) j = if k ≤ j then args.getD (j - k) .any else .any := by
  intro args
  induction args with
  | nil => intro k j; simp [get]
  | cons a args ih =>
    intro k j
    simp only [List.zipIdx_cons, List.map_cons, get]
    by_cases h : j = k
    · simp [h]
    · rw [if_neg h, ih]
      by_cases h2 : k ≤ j
      · rw [if_pos h2, if_pos (by omega), show j - k = (j - (k + 1)) + 1 by omega, List.getD_cons_succ]
      · rw [if_neg h2, if_neg (by omega)]

/-- A value that holds nothing of the caller's objects. -/
def Free (x : AV) : Prop := ∀ (w : World) (G : Nat → Prop) (m : Where) (v : Value), Rep w G m x v → Rep w G (fun _ => none) x v

def retOk (P : Program) (fn : Func) (out : AV) (e : Exit) (S : St) : Prop := (e = .ret ∨ e = .normal) ∧ ∃ S', Le S S' ∧ retAV P S' fn.results.toList out ∧ Free out

/-- The block of the deferred calls is shut. -/
theorem Inv.shut {c : Cx} {rs : List (Nat × Obj)} {b : Nat} {ds : List Nat} {U : Nat → Prop} {τ : Nat → AV} {H : Nat → Option Ob} {a : Act} {w : World} {G : Nat → Prop} {m : Where} (h : Inv c ⟨rs, b :: ds⟩ U τ H a w G m) (hro : c.ro = none) :
    Inv c ⟨rs.filter (fun p => p.1 != b), ds⟩ U τ H { a with defers := ds.map mark } (w.putObj b (.deferred none)) G m := by
  obtain ⟨hm, hle⟩ := h.dsr b (by simp)
  obtain ⟨hw, hG⟩ := h.res _ hm
  have hev : Ev (fun x => x = b) w G m (w.putObj b (.deferred none)) G m := putObj_ev w G m b _ rfl (shape_deferred hw)
  have hmu : ∀ x, x = b → ¬ G x := fun x e => e ▸ hG
  have hnd := List.nodup_cons.1 h.dsn
  have hmem : ∀ p, p ∈ rs.filter (fun p => p.1 != b) → p ∈ rs ∧ p.1 ≠ b := fun p hp => by simpa using List.mem_filter.1 hp
  refine ⟨h.tmps, rfl, fun d hd => ⟨List.mem_filter.2 ⟨(h.dsr d (by simp [hd])).1, ?_⟩, (h.dsr d (by simp [hd])).2⟩, hnd.2, fun p hp => ?_, fun p hp => h.resA p (hmem p hp).1, (fun l L hl => by rw [hro] at hl; cases hl), fun x hx => hev.lt h.g x hx, fun t => (h.rep t).mono hev hmu h.g,
    ⟨fun id p hp => (h.heap.obj id p hp).mono hev hmu h.g (fun hlv x hx => h.resA _ hm id p x hp hlv hx) rfl, h.heap.apart⟩, h.ev.trans hev (fun x e => .inr (e ▸ hle)), h.own, h.ids, h.idh, h.old, h.unx, h.new⟩
  · have : d ≠ b := fun e => hnd.1 (e ▸ hd)
    simpa using this
  · exact ⟨(World.putObj_heap_other (hmem p hp).2).trans (h.res p (hmem p hp).1).1, (h.res p (hmem p hp).1).2⟩

theorem leaves_of {F : Fence} {n : Nat} {P : Program} {fn : Func} {R : Ending → World → Prop} {c : Cx} {U : Nat → Prop} {τ : Nat → AV} {H : Nat → Option Ob} {G : Nat → Prop} {m : Where} {T : Array Value} (hro : c.ro = none)
    (hend : ∀ rs a w, Inv c ⟨rs, []⟩ U τ H a w G m → a.tmps = T → ∃ v, (results fn T).run P w = .ok v w ∧ R (.returned v) w) :
    ∀ (ds : List Nat) (rs : List (Nat × Obj)) (a : Act) (w : World), Inv c ⟨rs, ds⟩ U τ H a w G m → a.tmps = T → LeavesInM F n P fn T R (ds.map mark) .returning w := by
  intro ds
  induction ds with
  | nil => intro rs a w h hT; exact hend rs a w h hT
  | cons b ds ih =>
    intro rs a w h hT
    refine ⟨by simp, .inl ⟨b, _, rfl, run_takeDeferred (h.res _ (h.dsr b (by simp)).1).1, ?_⟩⟩
    exact ih _ _ _ (h.shut hro) hT

/-- A body's walk gives what a call comes to. -/
theorem calls_of_inv {A : Rules} {B : SRules} (hA : Sound P A) (hB : SSound P B) {f : FuncId} {fn : Func} {code : Code} {keep : List Nat} (hf : P.funcs[f]? = some fn) (hb : fn.body = some code) {c : Cx} (hN : c.N = fn.ntmps) (hro : c.ro = none) (hd : dstOk fn.ntmps code = true)
    {vs : Array Value} {w : World} {G : Nat → Prop} {m : Where} {S : St} {Q : Exit → St → Prop} {R : Ending → World → Prop}
    (hI : Inv c ⟨[], []⟩ (· < S.nx) (get S.t) (hget S.h) { tmps := vs ++ Array.replicate (fn.ntmps - vs.size) undef, defers := [] } w G m) (hW : awp P A B keep code Q S)
    (hQ : ∀ e S1, Q e S1 → (e = .ret ∨ e = .normal) ∧ ∃ S2 out, Le S1 S2 ∧ retAV P S2 fn.results.toList out ∧ ∀ rs a' w' G' m' v, Inv c ⟨rs, []⟩ (· < S2.nx) (get S2.t) (hget S2.h) a' w' G' m' → Rep w' G' m' out v → R (.returned v) w') : Calls P f vs w R := by
  have hW' := awp_sound (n := 0) hA hB code Q S ⟨[], []⟩ _ w G m hW (hN ▸ hd) hI
  rw [hro] at hW'
  refine (callsIn_wide (n := 0)).1 (callsIn_of_wp_marks hf hb trivial (wpIn_mono hW' ?_))
  rintro e a' w' ⟨S1, r1, G1, m1, hI1, hq⟩
  obtain ⟨he, S2, out, hle, hret, hR⟩ := hQ e S1 hq
  obtain ⟨G2, m2, hI2⟩ := hle _ _ a' w' G1 m1 hI1
  have hl : LeavesInM Fence.wide 0 P fn a'.tmps R a'.defers .returning w' := by
    rw [hI2.dfr]
    refine leaves_of (c := c) hro (fun rs a w h hT => ?_) r1.ds r1.rs a' w' hI2 rfl
    obtain ⟨v, hv, hrep⟩ := results_run h rfl hret
    rw [hT] at hv
    exact ⟨v, hv, hR rs a w G2 m2 v h hrep⟩
  rcases he with rfl | rfl
  · exact hl
  · exact hl

theorem enter_rep {args : List AV} {vs : Array Value} {w : World} {G : Nat → Prop} {m : Where} {N : Nat} (hlen : args.length = vs.size) (_hn : args.length ≤ N) (hreps : ∀ j (hj : j < args.length), Rep w G m (args[j]) (vs.getD j undef)) (t : Nat) :
    Rep w G m (get (enter args) t) ((vs ++ Array.replicate (N - vs.size) undef).getD t undef) := by
  have e : get (enter args) t = args.getD t .any := by
    have := get_enter args 0 t
    simpa [enter] using this
  rw [e]
  by_cases ht : t < args.length
  · have e2 : (vs ++ Array.replicate (N - vs.size) undef).getD t undef = vs.getD t undef := by
      simp [Array.getD_eq_getD_getElem?, Array.getElem?_append, show t < vs.size by omega]
    rw [e2]
    simpa [List.getD_eq_getElem?_getD, ht] using hreps t ht
  · rw [List.getD_eq_getElem?_getD, List.getElem?_eq_none (by omega)]
    exact .any _

theorem reps_append {w : World} {G : Nat → Prop} {m : Where} {xs ys : List AV} {vx vy : Array Value} (hx : xs.length = vx.size) (h1 : ∀ j (hj : j < xs.length), Rep w G m xs[j] (vx.getD j undef)) (h2 : ∀ j (hj : j < ys.length), Rep w G m ys[j] (vy.getD j undef)) :
    ∀ j (hj : j < (xs ++ ys).length), Rep w G m (xs ++ ys)[j] ((vx ++ vy).getD j undef) := by
  intro j hj
  rw [List.length_append] at hj
  by_cases h : j < xs.length
  · rw [List.getElem_append_left h]
    have e : (vx ++ vy).getD j undef = vx.getD j undef := by
      simp [Array.getD_eq_getD_getElem?, Array.getElem?_append, show j < vx.size by omega]
    rw [e]; exact h1 j h
  · rw [List.getElem_append_right (by omega)]
    have e : (vx ++ vy).getD j undef = vy.getD (j - xs.length) undef := by
      simp [Array.getD_eq_getD_getElem?, Array.getElem?_append, show ¬ j < vx.size by omega, hx]
    rw [e]; exact h2 _ (by omega)

theorem Fn.of_awp {A : Rules} {B : SRules} (hA : Sound P A) (hB : SSound P B) {f : FuncId} {fn : Func} {c : Code} {args : List AV} {out : AV} {keep : List Nat} (hf : P.funcs[f]? = some fn) (hname : (fn.name == "runtime.NumGoroutine") = false)
    (hb : fn.body = some c) (hd : dstOk fn.ntmps c = true) (hn : args.length ≤ fn.ntmps) (hfree : ∀ x ∈ args, Free x)
    (h : awp P A B keep c (retOk P fn out) ⟨enter args, [], 0⟩) : Fn P f args out := by
  refine ⟨enters_of' hf hname hb, by simp [keys], by simp, fun w G m vs hg hlen hreps _ _ => ?_⟩
  refine calls_of_inv hA hB hf hb (c := ⟨fn.ntmps, w, G, fun _ => none, 0, fun _ => False, fun _ => False, none⟩) rfl rfl hd (S := ⟨enter args, [], 0⟩) (G := G) (m := fun _ => none) ?_ h ?_
  · exact ⟨by simp; omega, rfl, (fun _ h => by cases h), List.nodup_nil, (fun _ h => by cases h), (fun _ h => by cases h), (fun _ _ h => by cases h), hg, fun t => enter_rep hlen hn (fun j hj => hfree _ (List.getElem_mem hj) w G m _ (hreps j hj)) t,
      ⟨(fun id x hx => by simp [hget] at hx), (fun i j p q x y hi => by simp [hget] at hi)⟩, Ev.refl _ _ _ _, (fun id es x hx => by simp [hget] at hx), (fun id x hx => by cases hx), (fun id p hp => by simp [hget] at hp), fun _ _ => rfl, fun _ h => h, (fun id p hp => by simp [hget] at hp)⟩
  · rintro e S1 ⟨he, S2, hle, hret, hfo⟩
    refine ⟨he, S2, out, hle, hret, fun rs a' w' G2 m2 v hI2 hrep => ?_⟩
    have ev := hI2.ev
    exact ⟨v, G2, m, rfl, ⟨⟨ev.os, ev.tape, ev.output, ev.size, fun b hb _ => ev.blk b hb (fun h => h), ev.shp, ev.sub, fun b hb => (ev.new b hb).imp id (fun h => .inl (h.resolve_right fun h => h)), ev.lt, fun _ _ h => h⟩,
      (hfo w' G2 m2 v hrep).mapM (by simp), by simp [hl], by simp [hl], by simp [hl], fun _ _ => rfl⟩⟩

/-- How a body ends that is called by its value. -/
def retV (P : Program) (fn : Func) (Post : AV → Heap → Nat → Prop) (e : Exit) (S : St) : Prop := (e = .ret ∨ e = .normal) ∧ ∃ S' out, Le S S' ∧ retAV P S' fn.results.toList out ∧ Post out S'.h S'.nx

theorem CallV.of_awp {A : Rules} {B : SRules} (hA : Sound P A) (hB : SSound P B) {f : FuncId} {fn : Func} {code : Code} {fs cs args : List AV} {keep : List Nat} {h : Heap} {nx : Nat} {Post : AV → Heap → Nat → Prop} (hf : P.funcs[f]? = some fn) (hname : (fn.name == "runtime.NumGoroutine") = false)
    (hb : fn.body = some code) (hd : dstOk fn.ntmps code = true) (hn : (fs ++ args ++ cs).length ≤ fn.ntmps)
    (hW : awp P A B keep code (retV P fn Post) ⟨enter (fs ++ args ++ cs), h, nx⟩) : CallV P (.clo (.func f) fs cs) args h nx Post := by
  intro w G m fv vs hg hF hl ha hh hi hi2
  cases hF with
  | clo _ _ _ vf vc hfl hcl hrf hrc =>
    refine .inl ⟨f, vf, vc, rfl, enters_of' hf hname hb, ?_⟩
    refine calls_of_inv hA hB hf hb (c := ⟨fn.ntmps, w, G, m, nx, fun id => ∃ p, hget h id = some p, lives (hget h) m, none⟩) rfl rfl hd (S := ⟨enter (fs ++ args ++ cs), h, nx⟩) (G := G) (m := m) ?_ hW ?_
    · refine ⟨by simp at hn ⊢; omega, rfl, (fun _ h => by cases h), List.nodup_nil, (fun _ h => by cases h), (fun _ h => by cases h), (fun _ _ h => by cases h), hg, fun t => enter_rep (by simp; omega) hn (fun j hj => ?_) t,
        hh, Ev.refl _ _ _ _, fun id p x hp hlv hx => .inl ⟨id, p, x, hp, hlv, hx, rfl⟩, hi, hi2, fun _ _ => rfl, fun _ h => h, fun id p hp _ => ⟨p, hp⟩⟩
      exact reps_append (by simp; omega) (reps_append hfl hrf ha) hrc j hj
    · rintro e S1 ⟨he, S2, out, hle, hret, hP⟩
      refine ⟨he, S2, out, hle, hret, fun rs a' w' G2 m2 v hI2 hrep => ?_⟩
      exact ⟨v, rfl, out, S2.h, S2.nx, G2, m2, hP, hI2.turned rfl (fun _ h => h), hrep⟩

/-! ### calls -/
def aCall (P : Program) (f : AV) (args : List AV) (S : St) (K : OK) : Prop := match f with
  | .clo (.func f) fs cs => ∃ rd n out ch, FnH P f (fs ++ args ++ cs) (hget S.h) rd (frs S.nx n) out ch ∧ K rd n out ch
  | _ => False

theorem aCall_fn {f : FuncId} {fs args cs : List AV} {S : St} {K : OK} {out : AV} (h : Fn P f (fs ++ args ++ cs) out) (hK : K [] 0 out []) : aCall P (.clo (.func f) fs cs) args S K := by
  refine ⟨[], 0, out, [], ⟨h.enters, by simp [keys], by simp [frs], fun w G m vs hg hl hr _ _ => ?_⟩, hK⟩
  have := h.run w G m vs hg hl hr ⟨fun id x hx => by simp [restr] at hx, fun i j p q x y hi => by simp [restr] at hi⟩ (by simp)
  simpa [frs] using this

theorem s_call {o : Oper} {S : St} {K : OK} {x : Operand} {xs : Array Operand} {ts : Array TypeId} (ho : o.op = .call { callee := .value x, args := xs, argTypes := ts })
    (h : aCall P (evalA (get S.t) x) (xs.toList.map (evalA (get S.t))) S K) : OpS P o S K := by
  unfold aCall at h
  split at h
  case h_2 => exact h.elim
  rename_i f fs cs hx'
  obtain ⟨rd, n, out, ch, hF, hK⟩ := h
  refine ⟨rd, n, out, ch, ⟨hF.ks, hF.fk, fun _ ro n w G m a hg hx hH hfr next Q hn => ?_⟩, hK⟩
  have h1 := hx x (by simp [ho, Op.operands, Call.operands]); rw [hx'] at h1
  generalize hev : a.eval x = ex at h1
  cases h1 with
  | clo _ _ _ vf vc hfl hcl hrf hrc =>
    have hrun : (execOp a.eval o).run P w = .ok (.enter f (vf ++ xs.map a.eval ++ vc)) w := by
      simp only [execOp, ho, resolve, hev, Deferred.ofValue, Sem.run_bind, Sem.run_pure, Result.andThen_ok, invoke]
      exact hF.enters _ w
    have hx2 : ∀ j, j < xs.size → Rep w G m (evalA (get S.t) (xs.getD j (.global 0))) (a.eval (xs.getD j (.global 0))) := fun j hj => by
      refine hx _ ?_
      simp only [ho, Op.operands, Call.operands, Array.mem_append]
      right
      simp [Array.getD, hj]
    have := hF.run w G m (vf ++ xs.map a.eval ++ vc) hg (by simp [hfl, hcl]) (fun j hj => ?_) hH hfr
    · refine ⟨fun _ _ => trivial, ?_⟩
      rw [Oper.semAt_eq _ _ _ (by rw [ho]; intro c h; cases h), hrun, Oper.uponIn_enter]
      refine ⟨fw_depth _ _, callsIn_fw _ _ (Calls.mono this ?_)⟩
      rintro e w' ⟨v, G', m', rfl, hres⟩
      exact hn v w' G' m' hres
    · simp only [List.length_append, List.length_map, Array.length_toList] at hj
      by_cases h1 : j < fs.length
      · have e : (vf ++ xs.map a.eval ++ vc).getD j undef = vf.getD j undef := by
          simp [Array.getD_eq_getD_getElem?, Array.getElem?_append, show j < vf.size by omega]
        rw [e]
        have := hrf j h1
        simpa [List.getElem_append, h1, show j < fs.length + xs.size by omega] using this
      · by_cases h2 : j < fs.length + xs.size
        · have hj' : j - vf.size < xs.size := by omega
          have e : (vf ++ xs.map a.eval ++ vc).getD j undef = a.eval (xs.getD (j - vf.size) (.global 0)) := by
            simp [Array.getD_eq_getD_getElem?, Array.getElem?_append, show ¬ j < vf.size by omega, hj']
          rw [e]
          have := hx2 (j - vf.size) hj'
          rw [← hfl] at this ⊢
          simpa [List.getElem_append, h1, h2, Array.getD, show j - fs.length < xs.size by omega] using this
        · have e : (vf ++ xs.map a.eval ++ vc).getD j undef = vc.getD (j - (fs.length + xs.size)) undef := by
            rw [Array.getD_eq_getD_getElem?, Array.getD_eq_getD_getElem?, Array.getElem?_append_right (by simp; omega)]
            simp [hfl]
          rw [e]
          have := hrc (j - (fs.length + xs.size)) (by omega)
          simpa [List.getElem_append, h1, show ¬ j - fs.length < xs.size by omega, Nat.sub_sub] using this

end
end Go.Bw
