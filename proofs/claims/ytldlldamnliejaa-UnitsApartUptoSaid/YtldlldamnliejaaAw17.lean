/- Functions that work upon the caller's objects, or make new ones for it. -/
import Derived.Test.YtldlldamnliejaaAw16
namespace Go.Aw
open Go

/-- A value that speaks of no other objects than these. -/
def Only (ids : List Nat) (x : AV) : Prop := ∀ (w : World) (G : Nat → Prop) (m : Where) (v : Value), Rep w G m x v → Rep w G (fun id => if id ∈ ids then m id else none) x v
theorem only_free {ids : List Nat} {x : AV} (h : Free x) : Only ids x := fun w G m v hr => (h w G m v hr).mapM (by simp)
theorem only_ref {ids : List Nat} {id i off : Nat} (h : id ∈ ids) : Only ids (.ref id i off) := fun w G m v hr => by
  cases hr with
  | ref _ _ _ b o k hm => exact .ref id i off b o k (by simp [h, hm])
theorem only_rsl {ids : List Nat} {id i n : Nat} (h : id ∈ ids) : Only ids (.rsl id i n) := fun w G m v hr => by
  cases hr with
  | rslz => exact .rslz _ _ _
  | rsl _ _ _ cap b o k e sz hm hlen hsh hin => exact .rsl id i n cap b o k e sz (by simp [h, hm]) hlen hsh hin
theorem only_agg {ids : List Nat} {cs : List AV} (h : ∀ c ∈ cs, Only ids c) : Only ids (.agg cs) := fun w G m v hr => by
  cases hr with
  | agg _ vs hl hr => exact .agg _ vs hl fun j hj => h _ (List.getElem_mem hj) w G m _ (hr j hj)
theorem only_tup {ids : List Nat} {cs : List AV} (h : ∀ c ∈ cs, Only ids c) : Only ids (.tup cs) := fun w G m v hr => by
  cases hr with
  | tup _ vs hl hr => exact .tup _ vs hl fun j hj => h _ (List.getElem_mem hj) w G m _ (hr j hj)

/-- How a body ends that turns the objects as 'ch' says. -/
def retOkH (P : Program) (fn : Func) (n0 : Nat) (out : AV) (ch : Heap) (e : Exit) (S : St) : Prop :=
  (e = .ret ∨ e = .normal) ∧ ∃ S', Le n0 S S' ∧ retAV P S' fn.results.toList out ∧ Only (keys ch) out ∧
    ∀ id c, hl ch id = some (some c) → hget S'.h id = some c ∧ ∀ x ∈ c.2, ∀ y ∈ x, Only (keys ch) y

theorem FnH.of_awp {P : Program} {A : Rules} (hA : Sound P A) {f : FuncId} {fn : Func} {c : Code} {args : List AV} {out : AV} {keep : List Nat} {H : Nat → Option Ob} {H0 ch : Heap} {n0 k : Nat}
    (hf : P.funcs[f]? = some fn) (hname : (fn.name == "runtime.NumGoroutine") = false)
    (hb : fn.body = some c) (hd : dstOk fn.ntmps c = true) (hn : args.length ≤ fn.ntmps) (hargs : ∀ x ∈ args, Only (keys H0) x)
    (hH : ∀ id ∈ keys H0, H id = hget H0 id ∧ id < n0 ∧ ∃ es, hget H0 id = some (false, es) ∧ es ≠ [] ∧ ∀ x ∈ es, ∀ y ∈ x, Only (keys H0) y)
    (hk1 : ∀ id ∈ keys H0, id ∈ keys ch) (hk2 : ∀ id ∈ frs n0 k, id ∈ keys ch) (hk3 : ∀ id ∈ keys ch, id ∈ keys H0 ∨ id ∈ frs n0 k)
    (h : awp P A n0 keep c (retOkH P fn n0 out ch) ⟨enter args, H0, n0⟩) : FnH P f args H (keys H0) (frs n0 k) out ch := by
  refine ⟨enters_of' hf hname hb, fun id hid => (hk3 id hid).elim (fun h => .inr ⟨h, ?_⟩) .inl, hk2, fun w G m vs hg hlen hreps hHp hfr => calls_of_wp hf hb ?_⟩
  · obtain ⟨e, _, es, e2, _⟩ := hH id h; exact ⟨es, e.trans e2⟩
  have hnone : ∀ id x, hget H0 id = some x → id ∈ keys H0 := fun id x hx => by
    have : hupd (fun _ => none) H0 id = some x := by rw [← hx]; have := hget_append H0 []; simp only [List.append_nil] at this; rw [this]; rfl
    unfold hupd at this
    split at this
    · rename_i c hc; exact hl_some hc
    · cases this
  have hrestr : ∀ id x, hget H0 id = some x → restr (keys H0) H id = some x := fun id x hx => by simp only [restr, if_pos (hnone id x hx), (hH id (hnone id x hx)).1, hx]
  have hb0 : ∀ id x, (fun id => if id ∈ keys H0 then m id else none) id = some x → id < n0 := fun id x hx => by
    by_cases hid : id ∈ keys H0
    · exact (hH id hid).2.1
    · simp [hid] at hx
  have hI : Inv fn.ntmps w G (fun id => if id ∈ keys H0 then m id else none) (fun b => ∃ id ∈ keys H0, ∃ x, m id = some x ∧ x.1 = b) (· < n0) (get (enter args)) (hget H0) { tmps := vs ++ Array.replicate (fn.ntmps - vs.size) undef, defers := [] } w G (fun id => if id ∈ keys H0 then m id else none) := by
    refine ⟨by simp; omega, rfl, hg, fun t => ?_, ⟨fun id x hx => ?_, fun i j es es' x y hi hj hne hx hy => ?_⟩, Ev.refl _ _ _ _, fun id es x he hx => .inl ⟨id, hnone _ _ he, x, by simpa [hnone _ _ he] using hx, rfl⟩, fun id x hx => ?_⟩
    · have e : get (enter args) t = args.getD t .any := by
        have := get_enter args 0 t
        simpa [enter] using this
      rw [e]
      by_cases ht : t < args.length
      · have h1 := hargs _ (List.getElem_mem ht) w G m _ (hreps t ht)
        have e2 : (vs ++ Array.replicate (fn.ntmps - vs.size) undef).getD t undef = vs.getD t undef := by
          simp [Array.getD_eq_getD_getElem?, Array.getElem?_append, show t < vs.size by omega]
        rw [e2]
        simpa [List.getD_eq_getElem?_getD, ht] using h1
      · rw [List.getD_eq_getElem?_getD, List.getElem?_eq_none (by omega)]
        exact .any _
    · obtain ⟨_, _, es, e2, hne, ho⟩ := hH id (hnone _ _ hx)
      rw [e2] at hx; cases hx
      have hob := hHp.obj id _ (hrestr id _ e2)
      obtain ⟨e1, _⟩ | ⟨_, b, o, k, hm, h1, h2, hk, hc⟩ := hob.out
      · exact absurd e1 hne
      refine ⟨.inr ⟨hne, b, o, k, by simp [hnone _ _ e2, hm], h1, h2, hk, fun i hi j hj => ?_⟩⟩
      obtain ⟨v, a1, a2, a3⟩ := hc i hi j hj
      exact ⟨v, a1, a2, ho _ (List.getElem_mem hi) _ (List.getElem_mem hj) w G m v a3⟩
    · exact hHp.apart i j es es' x y (hrestr _ _ hi) (hrestr _ _ hj) hne (by simpa [hnone _ _ hi] using hx) (by simpa [hnone _ _ hj] using hy)
    · exact hb0 id x hx
  refine wp_mono (awp_sound hA (m0 := fun id => if id ∈ keys H0 then m id else none) (mu0 := fun b => ∃ id ∈ keys H0, ∃ x, m id = some x ∧ x.1 = b) (n0 := n0)
    hb0 c _ _ _ w G _ h hd hI) ?_
  rintro e a' w' ⟨S1, G1, m1, hI1, hex, S2, hle, hret, hout, hobs⟩
  obtain ⟨G2, m2, hI2⟩ := hle _ _ _ _ _ a' w' G1 m1 hb0 hI1
  obtain ⟨v, hv, hrep⟩ := results_run hI2 rfl hret
  have hfr' : ∀ id ∈ frs n0 k, id ∉ keys H0 := fun id hid h1 => by
    have := (hH id h1).2.1
    simp only [frs, List.mem_map, List.mem_range] at hid
    obtain ⟨j, _, rfl⟩ := hid
    omega
  have hm2 : ∀ id ∈ keys H0, ∃ x, m id = some x ∧ m2 id = some x := fun id hid => by
    obtain ⟨_, _, es, e2, hne, ho⟩ := hH id hid
    obtain ⟨e1, _⟩ | ⟨_, b, o, k, hm, _⟩ := (hHp.obj id _ (hrestr id _ e2)).out
    · exact absurd e1 hne
    · exact ⟨_, hm, hI2.ev.ext id _ (by simp [hid, hm])⟩
  have hmm : ∀ id ∈ keys ch, (if id ∈ frs n0 k then m2 id else m id) = m2 id := fun id hid => by
    split
    · rfl
    · rename_i hn
      obtain ⟨x, e1, e2⟩ := hm2 id ((hk3 id hid).resolve_right hn)
      rw [e1, e2]
  have hup : ∀ {x : AV} {v : Value}, Only (keys ch) x → Rep w' G2 m2 x v → Rep w' G2 (fun id => if id ∈ frs n0 k then m2 id else m id) x v := fun {x v} ho hr => by
    refine (ho w' G2 m2 v hr).mapM fun id y hy => ?_
    split at hy
    · rename_i hid; rw [hmm id hid]; exact hy
    · cases hy
  have hres : ∃ v' G' m', Ending.returned v = .returned v' ∧ OpRes w G m (frs n0 k) out ch v' w' G' m' := by
    have ev := hI2.ev
    refine ⟨v, G2, fun id => if id ∈ frs n0 k then m2 id else m id, rfl, ⟨⟨ev.os, ev.tape, ev.output, ev.size, fun b hb hmu => ev.blk b hb fun ⟨id, hid, h⟩ => hmu ⟨id, hk1 id hid, h⟩, ev.shp, ev.sub,
      fun b hb => (ev.new b hb).imp id (fun h => h.imp id fun ⟨id, hid, h⟩ => ⟨id, hk1 id hid, h⟩), ev.lt, fun id x hx => ?_⟩, hup hout hrep, fun id x hx => ?_, fun id es x hc hx => ?_, fun i j es es' x y hi hj hne hx hy => ?_, fun id hid => by simp [hid]⟩⟩
    · rw [if_neg (fun hf => by rw [hfr id hf] at hx; cases hx)]; exact hx
    · obtain ⟨h1, h2⟩ := hobs id x hx
      have hid := hl_some hx
      obtain ⟨e1, e2⟩ | ⟨hne, b, o, k, hm, g1, g2, hk, hc⟩ := (hI2.heap.obj id x h1).out
      · exact ⟨.inl ⟨e1, (hmm id hid).trans e2⟩⟩
      refine ⟨.inr ⟨hne, b, o, k, (hmm id hid).trans hm, g1, g2, hk, fun i hi j hj => ?_⟩⟩
      obtain ⟨v, a1, a2, a3⟩ := hc i hi j hj
      exact ⟨v, a1, a2, hup (h2 _ (List.getElem_mem hi) _ (List.getElem_mem hj)) a3⟩
    · rw [hmm id (hl_some hc)] at hx
      rcases hI2.own id es x (hobs id _ hc).1 hx with ⟨id', hid', y, hy, e⟩ | h
      · exact .inr ⟨id', hk1 id' hid', y, hy, e⟩
      · exact .inl h
    · rw [hmm i (hl_some hi)] at hx; rw [hmm j (hl_some hj)] at hy
      exact hI2.heap.apart i j es es' x y (hobs i _ hi).1 (hobs j _ hj).1 hne hx hy
  rcases hex with rfl | rfl
  · exact ⟨hI2.dfr, v, hv, hres⟩
  · exact ⟨hI2.dfr, v, hv, hres⟩

theorem aCall_H {P : Program} {f : FuncId} {fs args cs : List AV} {S : St} {K : OK} {out : AV} {ch : Heap} {rd : List Nat} {n : Nat} (h : FnH P f (fs ++ args ++ cs) (hget S.h) rd (frs S.nx n) out ch) (hK : K rd n out ch) : aCall P (.clo (.func f) fs cs) args S K :=
  ⟨rd, n, out, ch, h, hK⟩

/-! ### calls to which objects are given up -/
theorem aCall_give {P : Program} {f : FuncId} {fs args cs vs : List AV} {S : St} {K : OK} {out : AV} (ch : Heap) (h : Fn P f vs out)
    (hch : ∀ id ∈ keys ch, ∃ es, hget S.h id = some (false, es) ∧ ∀ c, hl ch id = some c → c = some (true, es))
    (hl' : (fs ++ args ++ cs).length = vs.length) (hv : ∀ j (h1 : j < (fs ++ args ++ cs).length) (h2 : j < vs.length), Vw (fun _ => True) (restr (keys ch) (hget S.h)) (fs ++ args ++ cs)[j] vs[j])
    (hK : K (keys ch) 0 out ch) : aCall P (.clo (.func f) fs cs) args S K := by
  refine ⟨keys ch, 0, out, ch, ⟨h.enters, fun id hid => ?_, by simp [frs], fun w G m us hg hlen hr hH _ => ?_⟩, hK⟩
  · obtain ⟨es, h1, _⟩ := hch id hid; exact .inr ⟨hid, es, h1⟩
  have hlt : ∀ b, G b ∨ blkOf (fun _ => True) m (restr (keys ch) (hget S.h)) b → b < w.heap.size := by
    rintro b (hb | ⟨id, es, x, _, h1, h2, rfl⟩)
    · exact hg b hb
    · exact (hH.obj id _ h1).lt h2
  have := h.run w (fun b => G b ∨ blkOf (fun _ => True) m (restr (keys ch) (hget S.h)) b) m us hlt (by rw [← hl']; exact hlen) (fun j hj => hv j (hl' ▸ hj) hj w G m _ hH (hr j (hl' ▸ hj)))
    ⟨fun id x hx => by simp [restr] at hx, fun i j es es' x y hi => by simp [restr] at hi⟩ (by simp)
  refine Calls.mono this ?_
  rintro e w' ⟨v, G', m', rfl, hres⟩
  have ev := hres.ev
  have hm : m' = m := funext fun id => hres.ids id (by simp)
  subst hm
  have evF : Ev (fun _ => False) w (fun b => G b ∨ blkOf (fun _ => True) m' (restr (keys ch) (hget S.h)) b) m' w' G' m' := ev.weaken fun b ⟨id, hid, _⟩ => by simp [keys] at hid
  refine ⟨v, G', m', rfl, ⟨⟨ev.os, ev.tape, ev.output, ev.size, fun b hb _ => evF.blk b hb (fun h => h), ev.shp, fun b hb => ev.sub b (.inl hb), fun b hb => ?_, fun hl b hb => ev.lt hlt b hb, ev.ext⟩,
    hres.rep, fun id x hx => ?_, fun id es x hx => ?_, fun i j es es' x y hx => ?_, fun _ _ => rfl⟩⟩
  · rcases evF.new b hb with (hb | ⟨id, es, x, _, h1, h2, rfl⟩) | h | h
    · exact .inl hb
    · refine .inr (.inr ⟨id, ?_, x, h2, rfl⟩)
      unfold restr at h1; split at h1
      · assumption
      · cases h1
    · exact .inr (.inl h)
    · exact h.elim
  · obtain ⟨es, h1, h2⟩ := hch id (hl_some hx)
    cases h2 _ hx
    have hob := hH.obj id (false, es) (by simp [restr, hl_some hx, h1])
    have : ObjOk w (fun b => G b ∨ blkOf (fun _ => True) m' (restr (keys ch) (hget S.h)) b) m' id (true, es) := by
      obtain ⟨e1, e2⟩ | ⟨hne, b, o, k, hm, _, _, hk, hc⟩ := hob.out
      · exact ⟨.inl ⟨e1, e2⟩⟩
      refine ⟨.inr ⟨hne, b, o, k, hm, fun _ => .inr ⟨id, es, _, trivial, by simp [restr, hl_some hx, h1], hm, rfl⟩, (fun h => by cases h), hk, fun i hi j hj => ?_⟩⟩
      obtain ⟨v, a1, a2, a3⟩ := hc i hi j hj
      exact ⟨v, a1, a2, a3.monoG fun _ hb => .inl hb⟩
    exact this.mono evF (fun _ h => h.elim) hlt (fun h => by cases h) rfl
  · obtain ⟨es', h1, h2⟩ := hch id (hl_some hx); cases h2 _ hx
  · obtain ⟨es', h1, h2⟩ := hch i (hl_some hx); cases h2 _ hx

end Go.Aw
