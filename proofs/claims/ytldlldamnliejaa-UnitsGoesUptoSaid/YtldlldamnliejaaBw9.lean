/- Function values: a round of a loop; a function; a loop over a sequence. -/
import Derived.Test.YtldlldamnliejaaBw8
namespace Go.Bw
open Go

section
variable {P : Program} {A : Rules} {B : SRules} {keep : List Nat}

theorem Inv.relabel {c : Cx} {r : Rs} {U : Nat → Prop} {τ : Nat → AV} {H : Nat → Option Ob} {a : Act} {w : World} {G : Nat → Prop} {m : Where} {b : Nat} {L L' : Loop} (h : Inv c r U τ H a w G m) (hro : c.ro = some (b, L)) (hmu : c.mu0 b) :
    Inv { c with ro := some (b, L') } ⟨r.rs.map fun p => if p.1 = b then (b, .loop L') else p, r.ds⟩ U τ H a (w.putObj b (.loop L')) G m := by
  have hb := h.inR b L hro
  obtain ⟨hw, hG⟩ := h.res _ hb
  have hev : Ev (fun x => x = b) w G m (w.putObj b (.loop L')) G m := putObj_ev w G m b _ rfl (shape_loop hw)
  have hm : ∀ x, x = b → ¬ G x := fun x e => e ▸ hG
  have hlt := h.ltR _ hb
  refine ⟨h.tmps, h.dfr, fun d hd => ⟨List.mem_map.2 ⟨_, (h.dsr d hd).1, ?_⟩, (h.dsr d hd).2⟩, h.dsn, fun p hp => ?_, fun p hp id q x hq hl hx => ?_, fun l L2 hl => ?_, fun x hx => hev.lt h.g x hx, fun t => (h.rep t).mono hev hm h.g,
    ⟨fun id p hp => (h.heap.obj id p hp).mono hev hm h.g (fun hl x hx => h.resA _ hb id p x hp hl hx) rfl, h.heap.apart⟩, h.ev.trans hev (fun x e => .inl (e ▸ hmu)), h.own, h.ids, h.idh, h.old, h.unx, h.new⟩
  · rw [if_neg]
    intro e; dsimp only at e; subst e
    have := (h.res _ (h.dsr d hd).1).1
    rw [hw] at this; cases this
  · obtain ⟨q, hq, rfl⟩ := List.mem_map.1 hp
    split
    · exact ⟨World.putObj_heap_same hlt, hG⟩
    · rename_i e; exact ⟨(World.putObj_heap_other e).trans (h.res q hq).1, (h.res q hq).2⟩
  · obtain ⟨p', hp', rfl⟩ := List.mem_map.1 hp
    split
    · exact h.resA _ hb id q x hq hl hx
    · exact h.resA p' hp' id q x hq hl hx
  · simp only [Option.some.injEq, Prod.mk.injEq] at hl
    obtain ⟨rfl, rfl⟩ := hl
    exact List.mem_map.2 ⟨_, hb, by simp⟩

/-- What a round leaves. -/
def roundQ (Post : AV → Heap → Nat → Prop) (lid : Nat) (ps : Array Tmp) (asg body : Code) (N : Nat) (t : List (Nat × AV)) (e : Exit) (S : St) : Prop := ∃ S', Le S S' ∧ (hget S'.h lid = none → lid < S'.nx → match e with
  | .normal => Post tt ((lid, some (.loop .ready none ps asg body N t)) :: S'.h) S'.nx
  | .ret => Post ff ((lid, some (.loop .done (some .ret) ps asg body N t)) :: S'.h) S'.nx
  | .exit id => Post ff ((lid, some (.loop .done (some (.exit id)) ps asg body N t)) :: S'.h) S'.nx
  | _ => False)

theorem round_tmps {w : World} {G : Nat → Prop} {m : Where} {n : Nat} : ∀ (l : List (Nat × AV)) (l' : List (Nat × Value)) (t : List (Nat × AV)) (T : Array Value), l.length = l'.length → (∀ j (h : j < l.length) (h' : j < l'.length), (l[j]).1 = (l'[j]).1 ∧ (l[j]).1 < n ∧ Rep w G m (l[j]).2 (l'[j]).2) →
    T.size = n → (∀ i, Rep w G m (get t i) (T.getD i undef)) →
    (l'.foldl (fun (tmps : Array Value) p => tmps.setIfInBounds p.1 p.2) T).size = n ∧ ∀ i, Rep w G m (get (l.reverse ++ t) i) ((l'.foldl (fun (tmps : Array Value) p => tmps.setIfInBounds p.1 p.2) T).getD i undef) := by
  intro l
  induction l with
  | nil => intro l' t T hl _ hT h
           cases l' with
           | nil => exact ⟨hT, h⟩
           | cons => simp at hl
  | cons p l ih =>
    intro l' t T hl hp hT h
    cases l' with
    | nil => simp at hl
    | cons p' l' =>
      obtain ⟨h1, h2, h3⟩ := hp 0 (by simp) (by simp)
      simp only [List.getElem_cons_zero] at h1 h2 h3
      have := ih l' (p :: t) (T.setIfInBounds p'.1 p'.2) (by simpa using hl) (fun j h h' => by
        have := hp (j + 1) (by simp; omega) (by simp; omega)
        simpa using this) (by simp [hT]) (fun i => by
        obtain ⟨k, v⟩ := p
        simp only [get]
        dsimp only at h1 h2 h3
        split
        · rename_i e; subst e
          rw [← h1, Array.getD_eq_getD_getElem?, Array.getElem?_setIfInBounds]
          simpa [hT, h2] using h3
        · rename_i e
          rw [← h1, Array.getD_eq_getD_getElem?, Array.getElem?_setIfInBounds]
          rw [if_neg (fun e' => e e'.symm), ← Array.getD_eq_getD_getElem?]
          exact h i)
      simpa using this

theorem foldl_zip (ps : Array Tmp) (vs : Array Value) (T : Array Value) : (ps.zip vs).foldl (fun tmps (t, a) => tmps.setIfInBounds t a) T = (ps.toList.zip vs.toList).foldl (fun (tmps : Array Value) p => tmps.setIfInBounds p.1 p.2) T := by
  rw [← Array.foldl_toList, Array.toList_zip]

/-- The turn that a walk has come to. -/
theorem Inv.turned {c : Cx} {r : Rs} {nx' : Nat} {τ : Nat → AV} {H H0 : Nat → Option Ob} {a : Act} {w : World} {G : Nat → Prop} {m : Where} (h : Inv c r (· < nx') τ H a w G m) (hmu : c.mu0 = lives H0 c.m0) (hI0 : ∀ id, c.I0 id → ∃ p, H0 id = some p) :
    Turn H0 c.nx0 c.w0 c.G0 c.m0 H nx' w G m where
  le := Decidable.byContradiction fun hn => by have := h.unx nx' (by omega); simp at this
  ev := hmu ▸ h.ev
  heap := h.heap
  own id p x hp hl hx := by
    have := h.own id p x hp hl hx
    rw [hmu] at this; exact this
  ids id x hx := by
    by_cases hlt : id < c.nx0
    · exact .inl ((h.old id hlt) ▸ hx)
    · exact .inr ⟨by omega, h.ids id x hx⟩
  idh id p hp := by
    by_cases hlt : id < c.nx0
    · exact .inl (hI0 id (h.new id p hp hlt))
    · exact .inr ⟨by omega, h.idh id p hp⟩

theorem hget_cons (i : Nat) (x : Option Ob) (r : Heap) (j : Nat) : hget ((i, x) :: r) j = if j = i then x else hget r j := rfl

theorem hget_keys {h : Heap} {id : Nat} {p : Ob} (hp : hget h id = some p) : id ∈ keys h := Decidable.byContradiction fun hn => by
  rw [hl_hget, hl_none.2 hn] at hp; cases hp

/-- A round of a loop over a function is what its yield promises. -/
theorem CallV.round (hA : Sound P A) (hB : SSound P B) {N lid nx : Nat} {ps : Array Tmp} {asg body : Code} {t : List (Nat × AV)} {args : List AV} {h : Heap} {Post : AV → Heap → Nat → Prop} (hargs : args.length = ps.size)
    (hps : ∀ d ∈ ps.toList, d < N) (hda : dstOk N asg = true) (hdb : dstOk N body = true) (hlid : hget h lid = none)
    (hW : awp P A B keep asg (fun e S1 => e = .normal ∧ awp P A B keep body (roundQ Post lid ps asg body N t) S1) ⟨roundT ps args t, h, nx⟩) :
    CallV P (.yld lid) args ((lid, some (.loop .ready none ps asg body N t)) :: h) nx Post := by
  intro w G m fv vs hg hF hl ha hh hi hi2
  have hL := hh.obj lid _ (by simp only [hget, if_pos]; rfl)
  obtain ⟨b, o, hmb, hGb, hb, hsp⟩ := hL
  have hloop : ∃ L, o = .loop L := by cases o <;> first | exact ⟨_, rfl⟩ | exact hsp.elim
  obtain ⟨L, rfl⟩ := hloop
  obtain ⟨hst, hpd, hpar, hasg, hbody, hn, hT⟩ := hsp
  have hfv : fv = .func (.yield b) #[] #[] := by
    cases hF with
    | yld _ b' hm' => rw [hmb] at hm'; cases hm'; rfl
  subst hfv
  have hsub : ∀ id p, hget h id = some p → id ≠ lid ∧ hget ((lid, some (.loop .ready none ps asg body N t)) :: h) id = some p := fun id p hp => by
    have hne : id ≠ lid := fun e => by rw [e, hlid] at hp; cases hp
    exact ⟨hne, by rw [hget_cons, if_neg hne]; exact hp⟩
  have hlive : hget ((lid, some (.loop .ready none ps asg body N t)) :: h) lid = some (.loop .ready none ps asg body N t) := by simp [hget]
  let c1 : Cx := { N := N, w0 := w, G0 := G, m0 := m, nx0 := nx, I0 := fun id => ∃ p, hget h id = some p, mu0 := lives (hget ((lid, some (.loop .ready none ps asg body N t)) :: h)) m, ro := some (b, L) }
  have htm := round_tmps (w := w) (G := G) (m := m) (n := N) (ps.toList.zip args) (ps.toList.zip vs.toList) t L.tmps (by simp; omega) (fun j h1 h2 => by
      simp only [List.length_zip] at h1 h2
      simp only [List.getElem_zip]
      refine ⟨trivial, hps _ (List.getElem_mem _), ?_⟩
      have := ha j (by omega)
      rw [Array.getD_eq_getD_getElem?, Array.getElem?_eq_getElem (by simp at h2; omega)] at this
      simpa using this) hn hT
  have hlvb : lives (hget ((lid, some (.loop .ready none ps asg body N t)) :: h)) m b := ⟨lid, _, _, hlive, rfl, hmb, rfl⟩
  refine .inr (.inr ⟨b, L, rfl, hb, by rw [hpar]; omega, ?_⟩)
  rw [foldl_zip, hpar, hasg, hbody]
  have hI : Inv c1 ⟨[(b, .loop L)], []⟩ (· < nx) (get (roundT ps args t)) (hget h) { tmps := (ps.toList.zip vs.toList).foldl (fun (tmps : Array Value) p => tmps.setIfInBounds p.1 p.2) L.tmps, defers := [] } w G m := by
    refine ⟨htm.1, rfl, (fun _ h => by cases h), List.nodup_nil, fun p hp => ?_, fun p hp id q x hq hlq hx => ?_, fun l L' hl' => ?_, hg, htm.2, ⟨fun id p hp => hh.obj id p (hsub id p hp).2, fun i j p q x y hi hj => hh.apart i j p q x y (hsub _ _ hi).2 (hsub _ _ hj).2⟩,
      Ev.refl _ _ _ _, fun id p x hp hl hx => .inl ⟨id, p, x, (hsub id p hp).2, hl, hx, rfl⟩, hi, fun id p hp => hi2 id p (hsub id p hp).2, fun _ _ => rfl, fun _ h => h, fun id p hp _ => ⟨p, hp⟩⟩
    · obtain rfl : p = (b, .loop L) := by simpa using hp
      exact ⟨hb, hGb⟩
    · obtain rfl : p = (b, .loop L) := by simpa using hp
      exact hh.apart id lid q _ x _ (hsub id q hq).2 hlive hlq rfl (hsub id q hq).1 hx hmb
    · simp only [c1, Option.some.injEq, Prod.mk.injEq] at hl'
      obtain ⟨rfl, rfl⟩ := hl'
      simp
  refine roundIn_of_wpIn trivial (wpIn_mono (awp_sound (c := c1) (n := 0) hA hB asg _ _ _ _ w G m hW hda hI) ?_)
  rintro e a1 w1 ⟨S1, r1, G1, m1, hI1, rfl, hW1⟩
  have hb1 := (hI1.res _ (hI1.inR b L rfl)).1
  refine ⟨_, run_beginRound hb1 hst, ?_⟩
  have hI2 := hI1.relabel (L' := { L with state := .busy }) rfl hlvb
  refine wpIn_mono (awp_sound (c := { c1 with ro := some (b, { L with state := .busy }) }) (n := 0) hA hB body _ _ _ _ _ G1 m1 hW1 hdb hI2) ?_
  rintro e a2 w2 ⟨S3, r2, G3, m3, hI3, S2, hle, hq⟩
  obtain ⟨G2, m2, hI3⟩ := hle _ _ a2 w2 G3 m3 hI3
  have hq := hq (by
    cases hx : hget S2.h lid with
    | none => rfl
    | some p =>
      obtain ⟨q, hq⟩ := hI3.new lid p hx (hi lid _ hmb)
      rw [hlid] at hq; cases hq) (hI3.unx lid (hi lid _ hmb))
  obtain ⟨hb3, hGb3⟩ := hI3.res _ (hI3.inR b { L with state := .busy } rfl)
  have hml : m2 lid = some (b, 0, 0) := (hI3.old lid (hi lid _ hmb)).trans hmb
  -- what is left, with the record turned
  have key : ∀ (st : LoopState) (pd : Option Code) (v : Bool), Post (.val (.bool v)) ((lid, some (.loop st pd ps asg body N t)) :: S2.h) S2.nx →
      ∃ out h' nx' G' m', Post out h' nx' ∧ Turn (hget ((lid, some (.loop .ready none ps asg body N t)) :: h)) nx w G m (hget h') nx' (w2.putObj b (.loop { L with state := st, pending := pd })) G' m' ∧
        Rep (w2.putObj b (.loop { L with state := st, pending := pd })) G' m' out (.bool v) := by
    intro st pd v hP
    have hI4 := hI3.relabel (L' := { L with state := st, pending := pd }) rfl hlvb
    have hlt : lid < nx := hi lid _ hmb
    have hrm : (b, Obj.loop { L with state := st, pending := pd }) ∈ (⟨r2.rs.map fun p => if p.1 = b then (b, .loop { L with state := st, pending := pd }) else p, r2.ds⟩ : Rs).rs := hI4.inR b _ rfl
    have hrb := hI4.res _ hrm
    have hTt : ∀ i, Rep (w2.putObj b (.loop { L with state := st, pending := pd })) G2 m2 (get t i) (L.tmps.getD i undef) := fun i => (hT i).mono hI4.ev (lives_notG hh) hg
    have hle : nx ≤ S2.nx := Decidable.byContradiction fun hn => by have := hI4.unx S2.nx (by show S2.nx < nx; omega); simp at this
    have hget2 : ∀ id p, hget ((lid, some (.loop st pd ps asg body N t)) :: S2.h) id = some p → (id = lid ∧ p = .loop st pd ps asg body N t) ∨ (id ≠ lid ∧ hget S2.h id = some p) := fun id p hp => by
      rw [hget_cons] at hp
      by_cases e : id = lid
      · rw [if_pos e] at hp; cases hp; exact .inl ⟨e, rfl⟩
      · rw [if_neg e] at hp; exact .inr ⟨e, hp⟩
    refine ⟨_, _, _, G2, m2, hP, ⟨hle, hI4.ev, ⟨fun id p hp => ?_, fun i j p q x y hi hj hlp hlq hne hx hy => ?_⟩, fun id p x hp hl hx => ?_, fun id x hx => ?_, fun id p hp => ?_⟩, .val _⟩
    · rcases hget2 id p hp with ⟨rfl, rfl⟩ | ⟨_, hp⟩
      · exact ⟨b, _, hml, hrb.2, hrb.1, rfl, rfl, hpar, hasg, hbody, hn, hTt⟩
      · exact hI4.heap.obj id p hp
    · rcases hget2 i p hi with ⟨e1, _⟩ | ⟨_, hi2⟩
      · rcases hget2 j q hj with ⟨e2, _⟩ | ⟨_, hj2⟩
        · exact absurd (e1.trans e2.symm) hne
        · rw [e1, hml] at hx; cases hx
          exact fun e => hI4.resA _ hrm j q y hj2 hlq hy e.symm
      · rcases hget2 j q hj with ⟨e2, _⟩ | ⟨_, hj2⟩
        · rw [e2, hml] at hy; cases hy
          exact hI4.resA _ hrm i p x hi2 hlp hx
        · exact hI4.heap.apart i j p q x y hi2 hj2 hlp hlq hne hx hy
    · rcases hget2 id p hp with ⟨rfl, rfl⟩ | ⟨_, hp⟩
      · rw [hml] at hx; cases hx; exact .inl hlvb
      · exact hI4.own id p x hp hl hx
    · by_cases hlt : id < nx
      · exact .inl ((hI4.old id hlt).symm.trans hx)
      · exact .inr ⟨by omega, hI4.ids id x hx⟩
    · by_cases hlt : id < nx
      · rcases hget2 id p hp with ⟨rfl, rfl⟩ | ⟨hne, hp⟩
        · exact .inl ⟨_, hlive⟩
        · obtain ⟨q, hq⟩ := hI4.new id p hp hlt
          exact .inl ⟨q, (hsub id q hq).2⟩
      · rcases hget2 id p hp with ⟨rfl, rfl⟩ | ⟨_, hp⟩
        · exact .inl ⟨_, hlive⟩
        · exact .inr ⟨by omega, hI4.idh id p hp⟩
  cases e with
  | normal => exact ⟨_, _, run_endRound (P := P) none hb3, _, rfl, key .ready none true hq⟩
  | ret => exact ⟨_, _, run_endRound (P := P) (some .ret) hb3, _, rfl, key .done (some .ret) false hq⟩
  | exit id => exact ⟨_, _, run_endRound (P := P) (some (.exit id)) hb3, _, rfl, key .done (some (.exit id)) false hq⟩
  | goto l => exact hq.elim
  | panic ch => exact hq.elim
  | outgrown => exact hq.elim
end
end Go.Bw
