/- The soundness of the walk of code. -/
import Derived.Test.YtldlldamnliejaaBw7
namespace Go.Bw
open Go

def mset (m : Where) (id : Nat) (x : Nat × Nat × Nat) : Where := fun j => if j = id then some x else m j

section
variable {c : Cx} {r : Rs} {τ : Nat → AV} {H : Nat → Option Ob} {a : Act} {w : World} {G : Nat → Prop} {m : Where}

theorem Inv.ltR {U : Nat → Prop} (h : Inv c r U τ H a w G m) : ∀ p ∈ r.rs, p.1 < w.heap.size := fun p hp => (Array.getElem?_eq_some_iff.1 (h.res p hp).1).1

/-- Memory grows; places may be added for what is no object yet. -/
theorem Inv.grow {U U' : Nat → Prop} (h : Inv c r U τ H a w G m) {w1 : World} {m1 : Where} (hev : Ev (fun _ => False) w G m w1 G m1) (hid : ∀ id p, H id = some p → m1 id = m id)
    (hU : ∀ id x, m1 id = some x → U' id) (hUU : ∀ id, U id → U' id) (hold : ∀ id, U id → m1 id = m id) : Inv c r U' τ H a w1 G m1 where
  tmps := h.tmps
  dfr := h.dfr
  dsr := h.dsr
  dsn := h.dsn
  res p hp := ⟨(hev.blk p.1 (h.ltR p hp) (fun h => h.elim)).trans (h.res p hp).1, (h.res p hp).2⟩
  resA p hp id q x hq hl hx := h.resA p hp id q x hq hl (by rw [hid id q hq] at hx; exact hx)
  inR := h.inR
  g b hb := hev.lt h.g b hb
  rep t := (h.rep t).mono hev (fun _ h => h.elim) h.g
  heap := ⟨fun id p hp => (h.heap.obj id p hp).mono hev (fun _ h => h.elim) h.g (fun _ _ _ h => h) (hid id p hp),
    fun i j p q x y hi hj hp hq hne hx hy => h.heap.apart i j p q x y hi hj hp hq hne (by rw [hid i p hi] at hx; exact hx) (by rw [hid j q hj] at hy; exact hy)⟩
  ev := h.ev.trans hev (fun _ h => h.elim)
  own id p x hp hl hx := h.own id p x hp hl (by rw [hid id p hp] at hx; exact hx)
  ids := hU
  idh id p hp := hUU id (h.idh id p hp)
  old id hid := (hold id (h.unx id hid)).trans (h.old id hid)
  unx id hid := hUU id (h.unx id hid)
  new := h.new

/-- A turn of memory by a call. -/
theorem Inv.turn {nx nx' : Nat} {H' : Nat → Option Ob} {w' : World} {G' : Nat → Prop} {m' : Where} (h : Inv c r (· < nx) τ H a w G m) (ht : Turn H nx w G m H' nx' w' G' m') : Inv c r (· < nx') τ H' a w' G' m' where
  tmps := h.tmps
  dfr := h.dfr
  dsr := h.dsr
  dsn := h.dsn
  res p hp := by
    have hn : ¬ lives H m p.1 := fun ⟨id, q, x, h1, h2, h3, h4⟩ => h.resA p hp id q x h1 h2 h3 h4
    refine ⟨(ht.ev.blk p.1 (h.ltR p hp) hn).trans (h.res p hp).1, fun hG => ?_⟩
    rcases ht.ev.new p.1 hG with h' | h' | h'
    · exact (h.res p hp).2 h'
    · have := h.ltR p hp; omega
    · exact hn h'
  resA p hp id q x hq hl hx := by
    rcases ht.own id q x hq hl hx with ⟨id', q', x', h1, h2, h3, h4⟩ | h1
    · exact fun e => h.resA p hp id' q' x' h1 h2 h3 (h4.trans e)
    · have := h.ltR p hp; omega
  inR := h.inR
  g b hb := ht.ev.lt h.g b hb
  rep t := (h.rep t).mono ht.ev (lives_notG h.heap) h.g
  heap := ht.heap
  ev := h.ev.trans ht.ev (fun b ⟨id, q, x, h1, h2, h3, h4⟩ => h4 ▸ h.own id q x h1 h2 h3)
  own id q x hq hl hx := by
    rcases ht.own id q x hq hl hx with ⟨id', q', x', h1, h2, h3, h4⟩ | h1
    · exact h4 ▸ h.own id' q' x' h1 h2 h3
    · exact .inr (Nat.le_trans h.ev.size h1)
  ids id x hx := by
    rcases ht.ids id x hx with h1 | h1
    · exact Nat.lt_of_lt_of_le (h.ids id x h1) ht.le
    · exact h1.2
  idh id p hp := by
    rcases ht.idh id p hp with ⟨q, h1⟩ | h1
    · exact Nat.lt_of_lt_of_le (h.idh id q h1) ht.le
    · exact h1.2
  old id hid := by
    have hlt : id < nx := h.unx id hid
    rw [← h.old id hid]
    cases hm : m' id with
    | none => cases hm2 : m id with
      | none => rfl
      | some x => rw [ht.ev.ext id x hm2] at hm; cases hm
    | some x =>
      rcases ht.ids id x hm with h1 | h1
      · exact h1.symm
      · omega
  unx id hid := Nat.lt_of_lt_of_le (h.unx id hid) ht.le
  new id p hp hlt := by
    rcases ht.idh id p hp with ⟨q, h1⟩ | h1
    · exact h.new id q h1 hlt
    · have : id < nx := h.unx id hlt
      omega

/-- An object more, in a block that nobody knows. -/
theorem Inv.newOb {U : Nat → Prop} (h : Inv c r U τ H a w G m) {id : Nat} {p : Ob} {x : Nat × Nat × Nat} (hx : m id = some x) (ho : ObjOk w G m id p) (_hlp : p.live = true)
    (h1 : ∀ i q y, H i = some q → q.live = true → i ≠ id → m i = some y → x.1 ≠ y.1) (h2 : ∀ q ∈ r.rs, x.1 ≠ q.1) (h3 : c.w0.heap.size ≤ x.1) (h4 : c.nx0 ≤ id) : Inv c r U τ (hupd H [(id, some p)]) a w G m := by
  have hg' : ∀ i q, hupd H [(id, some p)] i = some q → (i = id ∧ q = p) ∨ (i ≠ id ∧ H i = some q) := fun i q hq => by
    by_cases e : i = id
    · simp only [hupd, hl, if_pos e] at hq; cases hq; exact .inl ⟨e, rfl⟩
    · simp only [hupd, hl, if_neg e] at hq; exact .inr ⟨e, hq⟩
  refine ⟨h.tmps, h.dfr, h.dsr, h.dsn, h.res, fun q hq i s y hs hls hy => ?_, h.inR, h.g, h.rep, ⟨fun i q hq => ?_, fun i j q s y z hi hj hq hs hne hy hz => ?_⟩, h.ev, fun i q y hq hlq hy => ?_, h.ids, fun i q hq => ?_, h.old, h.unx, fun i q hq hlt => ?_⟩
  · rcases hg' i s hs with ⟨e1, e2⟩ | ⟨_, hs2⟩
    · rw [e1, hx] at hy; cases hy; exact h2 q hq
    · exact h.resA q hq i s y hs2 hls hy
  · rcases hg' i q hq with ⟨e1, e2⟩ | ⟨_, hq2⟩
    · rw [e1, e2]; exact ho
    · exact h.heap.obj i q hq2
  · rcases hg' i q hi with ⟨e1, e2⟩ | ⟨hn, hi2⟩
    · rcases hg' j s hj with ⟨e3, _⟩ | ⟨hn2, hj2⟩
      · exact absurd (e1.trans e3.symm) hne
      · rw [e1, hx] at hy; cases hy
        exact h1 j s z hj2 hs hn2 hz
    · rcases hg' j s hj with ⟨e3, _⟩ | ⟨_, hj2⟩
      · rw [e3, hx] at hz; cases hz
        exact fun e => h1 i q y hi2 hq hn hy e.symm
      · exact h.heap.apart i j q s y z hi2 hj2 hq hs hne hy hz
  · rcases hg' i q hq with ⟨e1, _⟩ | ⟨_, hq2⟩
    · rw [e1, hx] at hy; cases hy; exact .inr h3
    · exact h.own i q y hq2 hlq hy
  · rcases hg' i q hq with ⟨e1, _⟩ | ⟨_, hq2⟩
    · rw [e1]; exact h.ids _ _ hx
    · exact h.idh i q hq2
  · rcases hg' i q hq with ⟨e1, _⟩ | ⟨_, hq2⟩
    · omega
    · exact h.new i q hq2 hlt

/-- What is laid aside may be more. -/
theorem Inv.reserve {U : Nat → Prop} (h : Inv c r U τ H a w G m) {b : Nat} (hb : w.heap[b]? = some (.deferred (some []))) (hG : ¬ G b) (h1 : ∀ id q x, H id = some q → q.live = true → m id = some x → x.1 ≠ b)
    (h2 : c.w0.heap.size ≤ b) (h3 : ∀ p ∈ r.rs, p.1 ≠ b) : Inv c ⟨(b, .deferred (some [])) :: r.rs, b :: r.ds⟩ U τ H { a with defers := [mark b] ++ a.defers } w G m where
  tmps := h.tmps
  dfr := by simp [h.dfr]
  dsr d hd := by
    rcases List.mem_cons.1 hd with rfl | hd
    · exact ⟨by simp, h2⟩
    · exact ⟨List.mem_cons_of_mem _ (h.dsr d hd).1, (h.dsr d hd).2⟩
  dsn := List.nodup_cons.2 ⟨fun hd => h3 _ (h.dsr b hd).1 rfl, h.dsn⟩
  res p hp := by
    rcases List.mem_cons.1 hp with rfl | hp
    · exact ⟨hb, hG⟩
    · exact h.res p hp
  resA p hp id q x hq hl hx := by
    rcases List.mem_cons.1 hp with rfl | hp
    · exact h1 id q x hq hl hx
    · exact h.resA p hp id q x hq hl hx
  inR l L hl := List.mem_cons_of_mem _ (h.inR l L hl)
  g := h.g
  rep := h.rep
  heap := h.heap
  ev := h.ev
  own := h.own
  ids := h.ids
  idh := h.idh
  old := h.old
  unx := h.unx
  new := h.new

/-- An object is given up; its block, that holds no cells, turns. -/
theorem Inv.dead {U : Nat → Prop} (h : Inv c r U τ H a w G m) {id l : Nat} {p : Ob} (hp : H id = some p) (hl : p.live = true) (hm : m id = some (l, 0, 0)) (hsh : w.shape? l = none) (o : Obj) {H0 : Nat → Option Ob}
    (h0 : ∀ i q, H0 i = some q → i ≠ id ∧ H i = some q) : Inv c r U τ H0 a (w.putObj l o) G m := by
  have hnG : ¬ G l := (h.heap.obj id p hp).notG hl hm
  have hev : Ev (fun b => b = l) w G m (w.putObj l o) G m := putObj_ev w G m l o rfl hsh
  have hmu : ∀ b, b = l → ¬ G b := fun b e => e ▸ hnG
  have hrs : ∀ q ∈ r.rs, q.1 ≠ l := fun q hq e => h.resA q hq id p _ hp hl hm e.symm
  refine ⟨h.tmps, h.dfr, h.dsr, h.dsn, fun q hq => ⟨(hev.blk q.1 (h.ltR q hq) (hrs q hq)).trans (h.res q hq).1, (h.res q hq).2⟩, fun q hq i s x hs hls hx => h.resA q hq i s x (h0 i s hs).2 hls hx, h.inR, fun b hb => hev.lt h.g b hb,
    fun t => (h.rep t).mono hev hmu h.g, ⟨fun i q hq => ?_, fun i j q s x y hi hj => h.heap.apart i j q s x y (h0 i q hi).2 (h0 j s hj).2⟩, h.ev.trans hev (fun b e => ?_), fun i q x hq => h.own i q x (h0 i q hq).2, h.ids, fun i q hq => h.idh i q (h0 i q hq).2, h.old, h.unx, fun i q hq => h.new i q (h0 i q hq).2⟩
  · exact (h.heap.obj i q (h0 i q hq).2).mono hev hmu h.g (fun hlq x hx e => h.heap.apart i id q p x _ (h0 i q hq).2 hp hlq hl (h0 i q hq).1 hx hm e) rfl
  · subst e; exact h.own id p _ hp hl hm
end

section
variable {P : Program} {A : Rules} {B : SRules} {keep : List Nat}

/-- A loop over a function, entered. -/
theorem enter_loop {c : Cx} {r : Rs} {S : St} {a : Act} {w : World} {G : Nat → Prop} {m : Where} (hI : Inv c r (· < S.nx) (get S.t) (hget S.h) a w G m) (fn : FuncId) (ps : Array Tmp) (asg body : Code) :
    ∃ (l : Nat) (mk : List Deferred) (w1 : World) (r1 : Rs), (Instr.enterLoop fn a.tmps ps asg body (c.ro.map (·.1))).run P w = .ok (l, mk) w1 ∧
      Inv c r1 (· < S.nx + 1) (get S.t) (hget ((S.nx, some (.loop .ready none ps asg body c.N S.t)) :: S.h)) { a with defers := mk ++ a.defers } w1 G (mset m S.nx (l, 0, 0)) := by
  have hfr : ∀ id p, hget S.h id = some p → id ≠ S.nx := fun id p hp e => by have := hI.idh id p hp; omega
  have hmid : ∀ id x, m id = some x → id ≠ S.nx := fun id x hx e => by have := hI.ids id x hx; omega
  have hext : ∀ l, ∀ id x, m id = some x → mset m S.nx (l, 0, 0) id = some x := fun l id x hx => by unfold mset; rw [if_neg (hmid id x hx)]; exact hx
  have hid : ∀ l, ∀ id p, hget S.h id = some p → mset m S.nx (l, 0, 0) id = m id := fun l id p hp => by unfold mset; rw [if_neg (hfr id p hp)]
  have hids : ∀ l, ∀ id x, mset m S.nx (l, 0, 0) id = some x → id < S.nx + 1 := fun l id x hx => by
    unfold mset at hx
    split at hx
    · omega
    · have := hI.ids id x hx; omega
  have hnx : c.nx0 ≤ S.nx := Decidable.byContradiction fun hn => by have := hI.unx S.nx (by omega); simp at this
  have hcons : ∀ p, hget ((S.nx, some p) :: S.h) = hupd (hget S.h) [(S.nx, some p)] := fun p => hget_append [(S.nx, some p)] S.h
  cases hro : c.ro with
  | none =>
    refine ⟨w.heap.size + 1, [mark w.heap.size], _, ⟨(w.heap.size, .deferred (some [])) :: r.rs, w.heap.size :: r.ds⟩, run_enterLoop_outer fn a.tmps ps asg body, ?_⟩
    have e1 : Ev (fun _ => False) w G m ((w.alloc (.deferred (some []))).alloc (.loop { state := .ready, pending := none, fn, tmps := a.tmps, params := ps, assign := asg, body, defers := w.heap.size })) G (mset m S.nx (w.heap.size + 1, 0, 0)) :=
      (alloc_ev (m' := m) w G m _ (fun _ _ h => h)).trans (mu2 := fun _ => False) (alloc_ev _ G m _ (hext _)) (fun _ h => h.elim)
    have hsz : (w.alloc (.deferred (some []))).heap.size = w.heap.size + 1 := World.size_alloc _ _
    have hl1 : ((w.alloc (.deferred (some []))).alloc (.loop { state := .ready, pending := none, fn, tmps := a.tmps, params := ps, assign := asg, body, defers := w.heap.size })).heap[w.heap.size + 1]? = some (.loop { state := .ready, pending := none, fn, tmps := a.tmps, params := ps, assign := asg, body, defers := w.heap.size }) := by
      have := World.alloc_heap_new (w.alloc (.deferred (some []))) (.loop { state := .ready, pending := none, fn, tmps := a.tmps, params := ps, assign := asg, body, defers := w.heap.size })
      rw [hsz] at this; exact this
    have hl0 : ((w.alloc (.deferred (some []))).alloc (.loop { state := .ready, pending := none, fn, tmps := a.tmps, params := ps, assign := asg, body, defers := w.heap.size })).heap[w.heap.size]? = some (.deferred (some [])) := by
      have h1 := World.alloc_heap_new w (.deferred (some []))
      have h2 : w.heap.size < (w.alloc (.deferred (some []))).heap.size := by omega
      simp only [World.alloc] at h1 h2 ⊢
      rw [Array.getElem?_push_lt h2]
      rw [Array.getElem?_eq_getElem h2] at h1
      exact h1
    have hI1 := hI.grow (U' := (· < S.nx + 1)) e1 (hid _) (hids _) (fun id h => by omega) (fun id h => by unfold mset; rw [if_neg (by omega)])
    have hI2 := hI1.reserve (b := w.heap.size) hl0 (fun hG => by have := hI.g _ hG; omega) (fun id q x hq hl hx => by
        rw [hid _ id q hq] at hx
        have := (hI.heap.obj id q hq).lt hl hx
        omega) hI.ev.size (fun p hp => by have := hI.ltR p hp; omega)
    rw [hcons]
    refine hI2.newOb (x := (w.heap.size + 1, 0, 0)) (by simp [mset]) ⟨_, _, by simp [mset], fun hG => by have := hI.g _ hG; omega, hl1, rfl, rfl, rfl, rfl, rfl, hI.tmps, fun i => hI1.rep i⟩ rfl (fun i q y hq hl hne hy => ?_) (fun q hq => ?_) (by have := hI.ev.size; simp only; omega) hnx
    · rw [hid _ i q hq] at hy
      have := (hI.heap.obj i q hq).lt hl hy
      simp only; omega
    · rcases List.mem_cons.1 hq with rfl | hq
      · simp
      · have := hI.ltR q hq; simp only; omega
  | some p =>
    obtain ⟨l0, L0⟩ := p
    have h0 := (hI.res _ (hI.inR l0 L0 hro)).1
    refine ⟨w.heap.size, [], _, r, run_enterLoop_inner h0 fn a.tmps ps asg body, ?_⟩
    have e1 : Ev (fun _ => False) w G m (w.alloc (.loop { state := .ready, pending := none, fn, tmps := a.tmps, params := ps, assign := asg, body, defers := L0.defers })) G (mset m S.nx (w.heap.size, 0, 0)) :=
      alloc_ev w G m _ (hext _)
    have hl1 := World.alloc_heap_new w (.loop { state := .ready, pending := none, fn, tmps := a.tmps, params := ps, assign := asg, body, defers := L0.defers })
    have hI1 := hI.grow (U' := (· < S.nx + 1)) e1 (hid _) (hids _) (fun id h => by omega) (fun id h => by unfold mset; rw [if_neg (by omega)])
    rw [hcons]
    refine hI1.newOb (x := (w.heap.size, 0, 0)) (by simp [mset]) ⟨_, _, by simp [mset], fun hG => by have := hI.g _ hG; omega, hl1, rfl, rfl, rfl, rfl, rfl, hI.tmps, fun i => hI1.rep i⟩ rfl (fun i q y hq hl hne hy => ?_) (fun q hq => ?_) hI.ev.size hnx
    · rw [hid _ i q hq] at hy
      have := (hI.heap.obj i q hq).lt hl hy
      simp only; omega
    · have := hI.ltR q hq; simp only; omega

theorem fw_depth (ro : Option Nat) (n : Nat) : (Fw ro).depth.isSome = true → 1 ≤ n := fun h => by simp [Fw, Fence.wide] at h

theorem rangeFunc_wp {c : Cx} {n : Nat} {f : Operand} {ps : Array Tmp} {asg body : Code} {Q : Exit → St → Prop} {S : St} {r : Rs} {a : Act} {w : World} {G : Nat → Prop} {m : Where} {g : FuncId} {fs cs : List AV} {Post : AV → Heap → Nat → Prop}
    (hf : evalA (get S.t) f = .clo (.func g) fs cs) (henter : ∀ args w, (callFunc g args).run P w = .ok (.enter g args) w)
    (hC : CallV P (.clo (.func g) fs cs) [.yld S.nx] ((S.nx, some (.loop .ready none ps asg body c.N S.t)) :: S.h) (S.nx + 1) Post) (hP : ∀ out h nx, Post out h nx → afterR S.nx S.t ps asg body c.N Q h nx)
    (hI : Inv c r (· < S.nx) (get S.t) (hget S.h) a w G m) :
    (Code.rangeFunc f ps asg body).wpIn (Fw (c.ro.map (·.1))) n P (fun e a' w' => ∃ S' r' G' m', Inv c r' (· < S'.nx) (get S'.t) (hget S'.h) a' w' G' m' ∧ Q e S') a w := by
  refine wpIn_rangeFunc fun fn _ => ?_
  obtain ⟨l, mk, w1, r1, hrun, hI1⟩ := enter_loop (P := P) hI fn ps asg body
  have hev1 := hI1.eval f
  have hae : ({ a with defers := mk ++ a.defers } : Act).eval f = a.eval f := by cases f <;> rfl
  rw [hf, hae] at hev1
  obtain ⟨vf, vc, hfv⟩ : ∃ vf vc, a.eval f = .func (.func g) vf vc := by
    generalize a.eval f = u at hev1
    cases hev1 with
    | clo _ _ _ vf vc => exact ⟨vf, vc, rfl⟩
  rw [hfv] at hev1
  have hR := hC w1 G (mset m S.nx (l, 0, 0)) (.func (.func g) vf vc) #[.func (.yield l) #[] #[]] hI1.g hev1 rfl (fun j hj => by
    obtain rfl : j = 0 := by simpa using hj
    exact .yld S.nx l (by simp [mset])) hI1.heap hI1.ids hI1.idh
  have hcall : Calls P g (vf ++ #[.func (.yield l) #[] #[]] ++ vc) w1 fun e w' => ∃ v, e = .returned v ∧ ∃ out h' nx' G' m', Post out h' nx' ∧ Turn (hget ((S.nx, some (.loop .ready none ps asg body c.N S.t)) :: S.h)) (S.nx + 1) w1 G (mset m S.nx (l, 0, 0)) (hget h') nx' w' G' m' ∧ Rep w' G' m' out v := by
    rcases hR with ⟨f', vf', vc', e, _, hc⟩ | ⟨f', vf', vc', e, v, w', hc, _⟩ | ⟨l', L', e, _⟩
    · cases e; exact hc
    · cases e; rw [henter] at hc; cases hc
    · cases e
  have hres : (resolve a.eval (rangeCall f l) 0).run P w1 = .ok { target := .fn (.func g) vc, args := vf ++ #[.func (.yield l) #[] #[]] } w1 := by
    have e : (#[Operand.const (Value.func (Fn.yield l) #[] #[])].map a.eval) = #[Value.func (Fn.yield l) #[] #[]] := by simp [Act.eval]
    simp only [resolve, hfv, e, Deferred.ofValue]
    rfl
  have hinv : (invoke (.fn (.func g) vc) (vf ++ #[.func (.yield l) #[] #[]])).run P w1 = .ok (.enter g (vf ++ #[.func (.yield l) #[] #[]] ++ vc)) w1 := by
    simp only [invoke]; exact henter _ _
  have hfin : Calls P g (vf ++ #[.func (.yield l) #[] #[]] ++ vc) w1 (rangePost (Fw (c.ro.map (·.1))) n P l (fun e a' w' => ∃ S' r' G' m', Inv c r' (· < S'.nx) (get S'.t) (hget S'.h) a' w' G' m' ∧ Q e S') { a with defers := mk ++ a.defers }) := by
    refine Calls.mono hcall ?_
    rintro e w3 ⟨v, rfl, out, h', nx', G', m', hPost, ht, _⟩
    · obtain ⟨h0, st, pd, t', hlid, hst, hsub, hq⟩ := hP out h' nx' hPost
      have hI3 := hI1.turn ht
      obtain ⟨b, o, hm', hG', hb, hsp⟩ := ht.heap.obj S.nx _ hlid
      have hml : m' S.nx = some (l, 0, 0) := ht.ev.ext _ _ (by simp [mset])
      rw [hml] at hm'; cases hm'
      cases o with
      | loop L =>
        obtain ⟨h1, h2, _⟩ := hsp
        have hend := run_endLoop (P := P) hb (by rw [h1]; exact hst)
        have hI4 := hI3.dead hlid rfl hml (shape_loop hb) (.loop { L with state := .exhausted }) hsub
        show rangePost (Fw (c.ro.map (·.1))) n P l _ _ (.returned v) w3
        refine ⟨L.pending, _, hend, ?_⟩
        rw [h2] at hI4 ⊢
        cases pd with
        | none => exact ⟨⟨S.t, h0, nx'⟩, r1, G', m', hI4, hq⟩
        | some j =>
          cases j with
          | ret => exact wpIn_ret ⟨⟨S.t, h0, nx'⟩, r1, G', m', hI4, hq⟩
          | exit id => exact wpIn_exit ⟨⟨S.t, h0, nx'⟩, r1, G', m', hI4, hq⟩
          | _ => exact hq.elim
      | _ => exact hsp.elim
  exact ⟨l, mk, w1, _, w1, g, _, w1, hrun, hres, fun _ _ => trivial, hinv, fw_depth _ _, callsIn_fw _ _ hfin⟩

theorem awp_sound (hA : Sound P A) (hB : SSound P B) {c : Cx} {n : Nat} :
    ∀ (code : Code) (Q : Exit → St → Prop) (S : St) (r : Rs) (a : Act) (w : World) (G : Nat → Prop) (m : Where), awp P A B keep code Q S → dstOk c.N code = true →
    Inv c r (· < S.nx) (get S.t) (hget S.h) a w G m →
    code.wpIn (Fw (c.ro.map (·.1))) n P (fun e a' w' => ∃ S' r' G' m', Inv c r' (· < S'.nx) (get S'.t) (hget S'.h) a' w' G' m' ∧ Q e S') a w := by
  intro code
  induction code with
  | skip => intro Q S r a w G m h _ hI; exact wpIn_skip ⟨S, r, G, m, hI, h⟩
  | region i ops dr =>
    intro Q S r a w G m h hd hI
    have hdd : ∀ o ∈ ops.toList, (∀ x, o.dst = some x → x < c.N) ∧ ∀ c, o.op ≠ .defer c := fun o ho => by
      simp only [dstOk, List.all_eq_true, Bool.and_eq_true] at hd
      have := hd o ho
      refine ⟨fun x hx => ?_, fun c hc => ?_⟩
      · have := this.2; rw [hx] at this; simpa using this
      · have := this.1; unfold noDefer at this; rw [hc] at this; cases this
    have hI' := hI.weakT (get_gc keep S.t)
    cases dr with
    | true => exact region_wp (c := c) (r := r) hA h hdd (fun fs S' hk => hk.1) (S := ⟨gc keep S.t, S.h, S.nx⟩) hI' (fun fs S' a' w' G' m' hk hI' => ⟨S', r, G', m', hI', hk.2⟩)
    | false => exact sregion_wp (c := c) (r := r) hB h hdd (S := ⟨gc keep S.t, S.h, S.nx⟩) hI' (fun S' a' w' G' m' hk hI' => ⟨S', r, G', m', hI', hk⟩)
  | seq x y ihx ihy =>
    intro Q S r a w G m h hd hI
    simp only [dstOk, Bool.and_eq_true] at hd
    refine wpIn_seq (wpIn_mono (ihx _ S r a w G m h hd.1 hI) fun e a' w' hq => ?_)
    obtain ⟨S', r', G', m', hI', hq⟩ := hq
    cases e <;> first | exact ihy Q S' r' a' w' G' m' hq hd.2 hI' | exact ⟨S', r', G', m', hI', hq⟩
  | cond cnd x y ihx ihy =>
    intro Q S r a w G m h hd hI
    simp only [dstOk, Bool.and_eq_true] at hd
    have hc := hI.eval cnd
    unfold awp at h
    split at h
    · rename_i b hb
      rw [hb] at hc
      cases hc' : a.eval cnd with
      | bool b' =>
        rw [hc'] at hc
        cases hc
        refine wpIn_cond hc' ?_
        cases b
        · exact ihy Q S r a w G m (by simpa using h) hd.2 hI
        · exact ihx Q S r a w G m (by simpa using h) hd.1 hI
      | _ => rw [hc'] at hc; cases hc
    · exact h.elim
  | block id x ih =>
    intro Q S r a w G m h hd hI
    refine wpIn_block (wpIn_mono (ih _ S r a w G m h hd hI) fun e a' w' hq => ?_)
    obtain ⟨S', r', G', m', hI', hq⟩ := hq
    cases e with
    | exit j =>
      dsimp only at hq
      simp only [Exit.inBlock]
      split
      · rename_i e; rw [if_pos e] at hq; exact ⟨S', r', G', m', hI', hq⟩
      · rename_i e; rw [if_neg e] at hq; exact ⟨S', r', G', m', hI', hq⟩
    | _ => exact ⟨S', r', G', m', hI', hq⟩
  | loop x ih =>
    intro Q S r a w G m h hd hI
    obtain ⟨I, ⟨n, S', hle, hS'⟩, hstep⟩ := h
    obtain ⟨G', m', hI'⟩ := hle c r a w G m hI
    refine wpIn_loop_ghost (fun n a w => ∃ S r G m, I n S ∧ Inv c r (· < S.nx) (get S.t) (hget S.h) a w G m) n ⟨S', r, G', m', hS', hI'⟩ ?_
    rintro n a w ⟨S, r, G, m, hS, hI⟩
    refine wpIn_mono (ih _ S r a w G m (hstep n S hS) hd hI) fun e a' w' hq => ?_
    obtain ⟨S1, r1, G1, m1, hI1, hq⟩ := hq
    cases e with
    | normal =>
      obtain ⟨n', S2, hlt, hle, h2⟩ := hq
      obtain ⟨G2, m2, hI2⟩ := hle c r1 a' w' G1 m1 hI1
      exact ⟨n', hlt, S2, r1, G2, m2, h2, hI2⟩
    | _ => exact ⟨S1, r1, G1, m1, hI1, hq⟩
  | rangeFunc f ps asg body _ _ =>
    intro Q S r a w G m h hd hI
    obtain ⟨S0, hle, g, fs, cs, hf, henter, hN⟩ := h
    obtain ⟨G, m, hI⟩ := hle c r a w G m hI
    have hnone : hget S0.h S0.nx = none := by
      cases hx : hget S0.h S0.nx with
      | none => rfl
      | some p => exact absurd (hI.idh _ p hx) (Nat.lt_irrefl _)
    obtain ⟨Post, hC, hP⟩ := hN hnone c.N hd
    exact rangeFunc_wp hf henter hC hP hI
  | exit id => intro Q S r a w G m h _ hI; exact wpIn_exit ⟨S, r, G, m, hI, h⟩
  | scope => intro Q S r a w G m h; exact h.elim
  | label => intro Q S r a w G m h; exact h.elim
  | goto => intro Q S r a w G m h; exact h.elim
  | ret => intro Q S r a w G m h _ hI; exact wpIn_ret ⟨S, r, G, m, hI, h⟩
  | refuse => intro Q S r a w G m h; exact h.elim
end
end Go.Bw
