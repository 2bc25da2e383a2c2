/- Function values called: by what they promise (CallV); the operations of a region in the order of the text, where an operation may come out in more than one way. -/
import Derived.Test.YtldlldamnliejaaBw5
namespace Go.Bw
open Go

def tt : AV := .val (.bool true)
def ff : AV := .val (.bool false)

/-- A function value is called with these values: it returns v. -/
def Runs (P : Program) (fv : Value) (vs : Array Value) (w : World) (R : Value → World → Prop) : Prop :=
  (∃ f vf vc, fv = .func (.func f) vf vc ∧ (∀ args w, (callFunc f args).run P w = .ok (.enter f args) w) ∧ Calls P f (vf ++ vs ++ vc) w fun e w' => ∃ v, e = .returned v ∧ R v w') ∨
  (∃ f vf vc, fv = .func (.func f) vf vc ∧ ∃ v w', (callFunc f (vf ++ vs ++ vc)).run P w = .ok (.value v) w' ∧ R v w') ∨
  (∃ l L, fv = .func (.yield l) #[] #[] ∧ w.heap[l]? = some (.loop L) ∧ vs.size = L.params.size ∧
    RoundIn (Fw none) 0 P l L.fn ((L.params.zip vs).foldl (fun tmps (t, a) => tmps.setIfInBounds t a) L.tmps) L.assign L.body w fun e w' => ∃ v, e = .returned v ∧ R v w')

theorem callsIn_fw {P : Program} {f : FuncId} {args : Array Value} {w : World} {R : Ending → World → Prop} (ro : Option Nat) (n : Nat) (h : Calls P f args w R) : CallsIn (Fw ro) n P f args w R := callsIn_wide.2 h

theorem roundIn_fw {P : Program} {l : Nat} {f : FuncId} {tmps : Array Value} {a b : Code} {w : World} {R : Ending → World → Prop} (ro : Option Nat) (n : Nat) (h : RoundIn (Fw none) 0 P l f tmps a b w R) : RoundIn (Fw ro) n P l f tmps a b w R :=
  ⟨trivial, fun c cs _ => h.2 c cs (fun _ h => by cases h)⟩

theorem Runs.mono {P : Program} {fv : Value} {vs : Array Value} {w : World} {R R' : Value → World → Prop} (h : Runs P fv vs w R) (hR : ∀ v w', R v w' → R' v w') : Runs P fv vs w R' := by
  rcases h with ⟨f, vf, vc, h1, h2, h3⟩ | ⟨f, vf, vc, h1, v, w', h2, h3⟩ | ⟨l, L, h1, h2, h3, h4⟩
  · exact .inl ⟨f, vf, vc, h1, h2, Calls.mono h3 fun e w' ⟨v, he, hv⟩ => ⟨v, he, hR _ _ hv⟩⟩
  · exact .inr (.inl ⟨f, vf, vc, h1, v, w', h2, hR _ _ h3⟩)
  · exact .inr (.inr ⟨l, L, h1, h2, h3, h4.mono fun e w' ⟨v, he, hv⟩ => ⟨v, he, hR _ _ hv⟩⟩)

/-- The blocks of objects that may be written. -/
def lives (H : Nat → Option Ob) (m : Where) (b : Nat) : Prop := ∃ id p x, H id = some p ∧ p.live = true ∧ m id = some x ∧ x.1 = b

theorem lives_notG {w : World} {G : Nat → Prop} {m : Where} {H : Nat → Option Ob} (h : HeapOk w G m H) : ∀ b, lives H m b → ¬ G b := by
  rintro b ⟨id, p, x, hp, hl, hx, rfl⟩; exact (h.obj id p hp).notG hl hx

/-- What becomes of a memory in which the objects h lie. -/
structure Turn (h : Nat → Option Ob) (nx : Nat) (w : World) (G : Nat → Prop) (m : Where) (h' : Nat → Option Ob) (nx' : Nat) (w' : World) (G' : Nat → Prop) (m' : Where) : Prop where
  le : nx ≤ nx'
  ev : Ev (lives h m) w G m w' G' m'
  heap : HeapOk w' G' m' h'
  own : ∀ id p x, h' id = some p → p.live = true → m' id = some x → lives h m x.1 ∨ w.heap.size ≤ x.1
  ids : ∀ id x, m' id = some x → m id = some x ∨ (nx ≤ id ∧ id < nx')
  idh : ∀ id p, h' id = some p → (∃ q, h id = some q) ∨ (nx ≤ id ∧ id < nx')

/-- What a function value promises, called with these arguments where the objects h lie. -/
def CallV (P : Program) (F : AV) (args : List AV) (h : Heap) (nx : Nat) (Post : AV → Heap → Nat → Prop) : Prop :=
  ∀ (w : World) (G : Nat → Prop) (m : Where) (fv : Value) (vs : Array Value), (∀ b, G b → b < w.heap.size) → Rep w G m F fv → args.length = vs.size →
    (∀ j (hj : j < args.length), Rep w G m args[j] (vs.getD j undef)) → HeapOk w G m (hget h) → (∀ id x, m id = some x → id < nx) → (∀ id p, hget h id = some p → id < nx) →
    Runs P fv vs w fun v w' => ∃ out h' nx' G' m', Post out h' nx' ∧ Turn (hget h) nx w G m (hget h') nx' w' G' m' ∧ Rep w' G' m' out v

theorem CallV.mono {P : Program} {F : AV} {args : List AV} {h : Heap} {nx : Nat} {Post Post' : AV → Heap → Nat → Prop} (hc : CallV P F args h nx Post) (hp : ∀ out h' nx', nx ≤ nx' → Post out h' nx' → Post' out h' nx') : CallV P F args h nx Post' :=
  fun w G m fv vs hg hf hl ha hh hi hi2 => (hc w G m fv vs hg hf hl ha hh hi hi2).mono fun _ _ ⟨out, h', nx', G', m', hP, ht, hr⟩ => ⟨out, h', nx', G', m', hp _ _ _ ht.le hP, ht, hr⟩

theorem CallV.mono' {P : Program} {F : AV} {args : List AV} {h : Heap} {nx : Nat} {Post Post' : AV → Heap → Nat → Prop} (hc : CallV P F args h nx Post)
    (hp : ∀ out h' nx', nx ≤ nx' → (∀ id, id < nx → hget h id = none → hget h' id = none) → Post out h' nx' → Post' out h' nx') : CallV P F args h nx Post' :=
  fun w G m fv vs hg hf hl ha hh hi hi2 => (hc w G m fv vs hg hf hl ha hh hi hi2).mono fun _ _ ⟨out, h', nx', G', m', hP, ht, hr⟩ => ⟨out, h', nx', G', m', hp _ _ _ ht.le (fun id hlt hn => by
    cases hx : hget h' id with
    | none => rfl
    | some p =>
      rcases ht.idh id p hx with ⟨q, hq⟩ | ⟨h1, _⟩
      · rw [hn] at hq; cases hq
      · omega) hP, ht, hr⟩

/-- The same objects, listed otherwise. -/
theorem CallV.heap {P : Program} {F : AV} {args : List AV} {h h2 : Heap} {nx : Nat} {Post : AV → Heap → Nat → Prop} (hc : CallV P F args h nx Post) (he : hget h2 = hget h) : CallV P F args h2 nx Post :=
  fun w G m fv vs hg hf hl ha hh hi hi2 => by rw [he] at hh hi2 ⊢; exact hc w G m fv vs hg hf hl ha hh hi hi2

/-- Other objects lie beside. -/
theorem Turn.frame {h r : Nat → Option Ob} {nx : Nat} {w : World} {G : Nat → Prop} {m : Where} {h' H H' : Nat → Option Ob} {nx' : Nat} {w' : World} {G' : Nat → Prop} {m' : Where} (ht : Turn h nx w G m h' nx' w' G' m')
    (hH : HeapOk w G m H) (hg : ∀ b, G b → b < w.heap.size) (hsub : ∀ id p, h id = some p → H id = some p) (hr : ∀ id p, r id = some p → H id = some p ∧ (∀ q, h id ≠ some q) ∧ id < nx)
    (hH' : ∀ id p, H' id = some p → r id = some p ∨ (r id = none ∧ h' id = some p)) : Turn H nx w G m H' nx' w' G' m' := by
  have hlv : ∀ b, lives h m b → lives H m b := fun b ⟨id, p, x, h1, h2, h3, h4⟩ => ⟨id, p, x, hsub _ _ h1, h2, h3, h4⟩
  have hnG := lives_notG (HeapOk.mk (fun id x hx => hH.obj id x (hsub id x hx)) (fun i j p q x y hi hj => hH.apart i j p q x y (hsub _ _ hi) (hsub _ _ hj)) : HeapOk w G m h)
  have hid : ∀ id p, r id = some p → m' id = m id := fun id p hp => by
    cases hm : m' id with
    | none => cases hm2 : m id with
      | none => rfl
      | some x => rw [ht.ev.ext id x hm2] at hm; cases hm
    | some x =>
      rcases ht.ids id x hm with h1 | h1
      · exact h1.symm
      · have := (hr id p hp).2.2; omega
  have hsep : ∀ id p x, r id = some p → p.live = true → m id = some x → ¬ lives h m x.1 := by
    rintro id p x hp hl hx ⟨id', q, y, hq, hlq, hy, e⟩
    obtain ⟨hpH, hno, _⟩ := hr id p hp
    exact hH.apart id' id q p y x (hsub _ _ hq) hpH hlq hl (fun e' => hno q (e' ▸ hq)) hy hx e
  refine ⟨ht.le, ht.ev.weaken (fun b hb => .inl (hlv b hb)), ⟨fun id p hp => ?_, ?_⟩, fun id p x hp hl hx => ?_, ht.ids, fun id p hp => ?_⟩
  · rcases hH' id p hp with h1 | ⟨_, h1⟩
    · exact (hH.obj id p (hr id p h1).1).mono ht.ev hnG hg (fun hl x hx => hsep id p x h1 hl hx) (hid id p h1)
    · exact ht.heap.obj id p h1
  · intro i j p q x y hi hj hp hq hne hx hy
    have key : ∀ i j p q x y, r i = some p → h' j = some q → p.live = true → q.live = true → m' i = some x → m' j = some y → x.1 ≠ y.1 := by
      intro i j p q x y hi hj hp hq hx hy
      rw [hid i p hi] at hx
      have hlt := (hH.obj i p (hr i p hi).1).lt hp hx
      rcases ht.own j q y hj hq hy with h1 | h1
      · intro e; exact hsep i p x hi hp hx (e ▸ h1)
      · omega
    rcases hH' i p hi with h1 | ⟨_, h1⟩
    · rcases hH' j q hj with h2 | ⟨_, h2⟩
      · rw [hid i p h1] at hx; rw [hid j q h2] at hy
        exact hH.apart i j p q x y (hr i p h1).1 (hr j q h2).1 hp hq hne hx hy
      · exact key i j p q x y h1 h2 hp hq hx hy
    · rcases hH' j q hj with h2 | ⟨_, h2⟩
      · exact fun e => key j i q p y x h2 h1 hq hp hy hx e.symm
      · exact ht.heap.apart i j p q x y h1 h2 hp hq hne hx hy
  · rcases hH' id p hp with h1 | ⟨_, h1⟩
    · rw [hid id p h1] at hx
      exact .inl ⟨id, p, x, (hr id p h1).1, hl, hx, rfl⟩
    · exact (ht.own id p x h1 hl hx).imp_left (hlv _)
  · rcases hH' id p hp with h1 | ⟨_, h1⟩
    · exact .inl ⟨p, (hr id p h1).1⟩
    · exact (ht.idh id p h1).imp_left fun ⟨q, hq⟩ => ⟨q, hsub _ _ hq⟩

theorem hget_app (r h : Heap) (id : Nat) : hget (r ++ h) id = match hl r id with | some c => c | none => hget h id := by
  rw [hget_append]; rfl
theorem hl_hget {r : Heap} {id : Nat} : hget r id = match hl r id with | some c => c | none => none := by
  have := hget_app r [] id
  simp only [List.append_nil, hget] at this
  exact this

theorem CallV.frame {P : Program} {F : AV} {args : List AV} {h r : Heap} {nx : Nat} {Post : AV → Heap → Nat → Prop} (hc : CallV P F args h nx Post) (hr : ∀ id ∈ keys r, hget h id = none) :
    CallV P F args (r ++ h) nx fun out h2 nx' => ∃ h', h2 = r ++ h' ∧ Post out h' nx' := by
  intro w G m fv vs hg hf hl ha hh hi hi2
  have hsub : ∀ id p, hget h id = some p → hget (r ++ h) id = some p := fun id p hp => by
    rw [hget_app]
    cases hlr : Bw.hl r id with
    | none => exact hp
    | some c => have := hr id (hl_some hlr); rw [this] at hp; cases hp
  have hh' : HeapOk w G m (hget h) := ⟨fun id x hx => hh.obj id x (hsub id x hx), fun i j p q x y hi hj => hh.apart i j p q x y (hsub _ _ hi) (hsub _ _ hj)⟩
  refine (hc w G m fv vs hg hf hl ha hh' hi (fun id p hp => hi2 id p (hsub id p hp))).mono ?_
  rintro v w' ⟨out, h', nx', G', m', hP, ht, hrep⟩
  refine ⟨out, r ++ h', nx', G', m', ⟨h', rfl, hP⟩, ht.frame (r := hget r) hh hg hsub (fun id p hp => ?_) (fun id p hp => ?_), hrep⟩
  · have hk : Bw.hl r id ≠ none := fun e => by rw [hl_hget, e] at hp; cases hp
    have hk' : id ∈ keys r := Decidable.byContradiction fun hn => hk (hl_none.2 hn)
    have e : hget (r ++ h) id = some p := by
      rw [hget_app]; rw [hl_hget] at hp
      cases hlr : Bw.hl r id with
      | none => exact absurd hlr hk
      | some c => rw [hlr] at hp; exact hp
    exact ⟨e, fun q hq => (by rw [hr id hk'] at hq; cases hq), hi2 id p e⟩
  · rw [hget_app] at hp
    rw [hl_hget]
    cases hlr : Bw.hl r id with
    | none => rw [hlr] at hp; exact .inr ⟨rfl, hp⟩
    | some c => rw [hlr] at hp; exact .inl hp

/-! ### operations in the order of the text -/
/-- Rules for operations that may come out in more than one way: what comes out, what lies in memory then. -/
abbrev SK := AV → Heap → Nat → Prop
abbrev SRules := Oper → St → SK → Prop
def SSound (P : Program) (B : SRules) : Prop := ∀ o S K, B o S K → (∀ c, o.op ≠ .defer c) → ∀ (c : Cx) (r : Rs) (n : Nat) (a : Act) (w : World) (G : Nat → Prop) (m : Where),
  Inv c r (· < S.nx) (get S.t) (hget S.h) a w G m → (∀ x, o.dst = some x → x < c.N) → ∀ (ro : Option Nat) (next : Act → World → Prop) (Q : Exit → Act → World → Prop),
  (∀ out h nx a' w' G' m', K out h nx → Inv c r (· < nx) (tput (get S.t) o.dst out) (hget h) a' w' G' m' → next a' w') → o.wpIn (Fw ro) n P a w next Q

def St.set (S : St) (d : Option Nat) (v : AV) (h : Heap) (nx : Nat) : St := ⟨match d with | some d => (d, v) :: S.t | none => S.t, h, nx⟩
theorem get_set (S : St) (d : Option Nat) (v : AV) (h : Heap) (nx : Nat) : get (S.set d v h nx).t = tput (get S.t) d v := by
  funext t
  cases d with
  | none => simp [St.set, tput]
  | some d =>
    simp only [St.set, get, tput, Option.some.injEq]
    by_cases e : t = d
    · subst e; simp
    · rw [if_neg e, if_neg (fun e' => e e'.symm)]

def sops (B : SRules) (ops : Array Oper) : List Oper → St → (St → Prop) → Prop
  | [], S, K => K S
  | o :: l, S, K =>
    match o.guard with
    | none => B o S fun out h nx => sops B ops l (S.set o.dst out h nx) K
    | some (j, want) =>
      match gAV (get S.t) ops j with
      | .val (.bool b) => if b = want then B o S fun out h nx => sops B ops l (S.set o.dst out h nx) K
        else sops B ops l (S.set o.dst (.val undef) S.h S.nx) K
      | .val (.tuple _) => sops B ops l (S.set o.dst (.val undef) S.h S.nx) K
      | _ => False

section
variable {P : Program} {ops : Array Oper} {Q : Exit → Act → World → Prop} {c : Cx} {r : Rs} {ro : Option Nat} {n : Nat}

theorem wanted_eq (P : Program) {o : Oper} {τ : Nat → AV} {wt : Bool} {j : Nat} {want : Bool} (hgd : o.guard = some (j, want)) (hw : wantA (gAV τ ops j) want = some wt)
    {w : World} {G : Nat → Prop} {m : Where} {a : Act} (hr : ∀ t, Rep w G m (τ t) (a.tmps.getD t undef)) : Region.wanted o (yielded ops a.tmps) = wt := by
  have hs : StpOk P ops { o with op := .move (.const undef) } τ (fun _ => none) 0 ⟨wt, [], [], 0, .val undef, []⟩ := by
    refine ⟨by simp only [hgd]; exact hw, fun _ => ⟨by simp [keys], by simp, fun _ ro n w G m a hg hx hH _ next Q hn => ⟨fun _ _ => trivial, ?_⟩⟩, fun _ => ⟨rfl, rfl, rfl⟩, fun id h => by cases h⟩
    have e : (Oper.semAt (Fw ro).round a.eval { o with op := Op.move (.const undef) }).run P w = .ok (.value undef) w := by
      rw [Oper.semAt_eq _ _ _ (by intro c h; cases h)]
      simp [execOp, Act.eval, Sem.run_pure]
    rw [e]
    exact hn undef w G m ⟨Ev.refl _ _ _ _, .val undef, by simp [hl], by simp [hl], by simp [hl], fun _ _ => rfl⟩
  have := wanted_of hs hr
  unfold Region.wanted at this ⊢
  exact this

theorem Inv.skip {U : Nat → Prop} {τ : Nat → AV} {H : Nat → Option Ob} {a : Act} {w : World} {G : Nat → Prop} {m : Where} (h : Inv c r U τ H a w G m) {d : Option Nat} (hd : ∀ x, d = some x → x < c.N) {v : AV} {u : Value}
    (hv : Rep w G m v u) : Inv c r U (tput τ d v) H (a.put d u) w G m := by
  have := h.step (rd := []) (fr := []) (ch := []) (out := v) (v := u) (U' := U) hd (by simp [keys]) (by simp) (by simp) (by simp) (fun _ h => h) (by simp) ⟨Ev.refl _ _ _ _, hv, by simp [hl], by simp [hl], by simp [hl], fun _ _ => rfl⟩
  exact this

theorem sops_sound {B : SRules} (hB : SSound P B) : ∀ (l : List Oper) (S : St) (K : St → Prop) (a : Act) (w : World) (G : Nat → Prop) (m : Where), sops B ops l S K → (∀ o ∈ l, (∀ x, o.dst = some x → x < c.N) ∧ ∀ c, o.op ≠ .defer c) →
    Inv c r (· < S.nx) (get S.t) (hget S.h) a w G m →
    (∀ S' a' w' G' m', K S' → Inv c r (· < S'.nx) (get S'.t) (hget S'.h) a' w' G' m' → Q .normal a' w') → wpListIn (Fw ro) n P ops Q l a w := by
  intro l
  induction l with
  | nil => intro S K a w G m h _ hI hQ; exact hQ S a w G m h hI
  | cons o l ih =>
    intro S K a w G m h hd hI hQ
    have hdo := hd o (by simp)
    have hdl := fun o' ho' => hd o' (List.mem_cons_of_mem o ho')
    have yes : Region.wanted o (yielded ops a.tmps) = true → (B o S fun out h nx => sops B ops l (S.set o.dst out h nx) K) → wpListIn (Fw ro) n P ops Q (o :: l) a w := by
      intro hw h
      unfold wpListIn
      rw [if_pos hw]
      refine hB o S _ h hdo.2 c r n a w G m hI hdo.1 ro _ Q fun out h nx a' w' G' m' hK hI' => ?_
      exact ih (S.set o.dst out h nx) K a' w' G' m' hK hdl (by rw [get_set]; exact hI') hQ
    have no : Region.wanted o (yielded ops a.tmps) = false → sops B ops l (S.set o.dst (.val undef) S.h S.nx) K → wpListIn (Fw ro) n P ops Q (o :: l) a w := by
      intro hw h
      unfold wpListIn
      rw [if_neg (by simp [hw])]
      exact ⟨fun _ _ => trivial, ih _ K _ w G m h hdl (by rw [get_set]; exact hI.skip hdo.1 (.val undef)) hQ⟩
    unfold sops at h
    cases hgd : o.guard with
    | none => rw [hgd] at h; exact yes (by simp [Region.wanted, hgd]) h
    | some p =>
      obtain ⟨j, want⟩ := p
      rw [hgd] at h
      dsimp only at h
      split at h
      · rename_i b hb
        split at h
        · rename_i e; exact yes (wanted_eq P hgd (by rw [hb]; simp [wantA, e]) hI.rep) h
        · rename_i e; exact no (wanted_eq P hgd (by rw [hb]; simp [wantA, e]) hI.rep) h
      · rename_i vs hb; exact no (wanted_eq P hgd (by rw [hb]; rfl) hI.rep) h
      · exact h.elim

theorem sregion_wp {B : SRules} (hB : SSound P B) {id : Nat} {S : St} {K : St → Prop} (h : sops B ops ops.toList S K)
    (hN : ∀ o ∈ ops.toList, (∀ x, o.dst = some x → x < c.N) ∧ ∀ c, o.op ≠ .defer c)
    {a : Act} {w : World} {G : Nat → Prop} {m : Where} (hI : Inv c r (· < S.nx) (get S.t) (hget S.h) a w G m)
    (hQ : ∀ S' a' w' G' m', K S' → Inv c r (· < S'.nx) (get S'.t) (hget S'.h) a' w' G' m' → Q .normal a' w') : (Code.region id ops false).wpIn (Fw ro) n P Q a w :=
  wpIn_region_list (sops_sound hB ops.toList S K a w G m h hN hI hQ)
end

end Go.Bw
