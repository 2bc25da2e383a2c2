/- Rule: append, put together. -/
import Derived.Test.YtldlldamnliejaaBw15
namespace Go.Bw
open Go

theorem HeapOk.sub {w : World} {G : Nat → Prop} {m : Where} {rd rd' : List Nat} {H : Nat → Option Ob} (h : HeapOk w G m (restr rd H)) (hs : ∀ x ∈ rd', x ∈ rd) : HeapOk w G m (restr rd' H) := by
  have e : ∀ j x, restr rd' H j = some x → restr rd H j = some x := fun j x hx => by
    simp only [restr] at hx ⊢
    split at hx
    · rename_i hj; rw [if_pos (hs j hj)]; exact hx
    · cases hx
  exact ⟨fun j x hx => h.obj j x (e j x hx), fun i j es es' x y hi hj => h.apart i j es es' x y (e _ _ hi) (e _ _ hj)⟩

section
variable {P : Program}

def aAppendS (e : TI) (new : List (List AV)) (s : AV) (ids : List Nat) (H : Heap) (nx : Nat) (K : OK) : Prop := match s with
  | .sl true es [] => (∀ c ∈ es, c.length = e.sz) ∧ (new = [] → es = []) ∧ (es.length + new.length) * e.bytes ≤ 140737488355328 ∧ K ids 1 (.rsl nx 0 (es.length + new.length)) [(nx, some (.cells false (es ++ new)))]
  | .rsl id i n => match hget H id with
    | some (.cells false es) => i + n ≤ es.length ∧ (∀ c ∈ es, c.length = e.sz) ∧ (n + new.length = 0 → es = []) ∧ (n + new.length) * e.bytes ≤ 140737488355328 ∧
        K (id :: ids) 1 (.rsl nx 0 (n + new.length)) [(nx, some (.cells false ((es.drop i).take n ++ new))), (id, none)]
    | _ => False
  | _ => False
def aAppend (t u e : TI) (zk : Bool) (s x : AV) (H : Heap) (nx : Nat) (K : OK) : Prop :=
  (t.kind = 1 ∧ u.kind = 1 ∧ e.known = true ∧ zk = true ∧ e.zero.all AV.one = true ∧ e.zero.length = e.sz ∧ 0 < e.sz ∧ 0 < e.bytes) ∧ match slV (hget H) x with
  | some new => (∀ c ∈ new, c.length = e.sz) ∧ aAppendS e new s (slIds x) H nx K
  | none => False

theorem s_append {o : Oper} {S : St} {K : OK} {x y : Operand} {xs : Array Operand} {T U : TypeId} {ts : Array TypeId} (ho : o.op = .call { callee := .builtin .append, args := xs, argTypes := ts })
    (hxs : xs.toList = [x, y]) (hts : ts.toList = [T, U])
    (h : aAppend (ti P T) (ti P U) (ti P (ti P T).elem) (zeroKnown P (ti P T).elem) (evalA (get S.t) x) (evalA (get S.t) y) S.h S.nx K) : OpS P o S K := by
  obtain ⟨⟨hkT, hkU, hek, hzk, hone, hzl, hsz, hby⟩, h⟩ := h
  have hxs' : xs = #[x, y] := by rw [← Array.toArray_toList (xs := xs), hxs]
  have hts' : ts = #[T, U] := by rw [← Array.toArray_toList (xs := ts), hts]
  have hmx : x ∈ o.op.operands := by rw [ho, hxs']; simp [Op.operands, Call.operands]
  have hmy : y ∈ o.op.operands := by rw [ho, hxs']; simp [Op.operands, Call.operands]
  split at h
  case h_2 => exact h.elim
  rename_i new hnew
  obtain ⟨hnk, h⟩ := h
  have hT := ti_slice hkT
  have hU : ∃ e', P.underlying U = some (.slice e') := ⟨_, ti_slice hkU⟩
  have hexec : ∀ (a : Act) (w : World), (execOp a.eval o).run P w = ((Builtin.append_ ts o.type #[a.eval x, a.eval y]).run P w).andThen fun v w' => .ok (.value v) w' := by
    intro a w
    simp only [execOp, ho, hxs', resolve, Sem.run_bind, Sem.run_pure, Result.andThen_ok, invoke, builtin]
    simp
  have h63 : ∀ n, n * (ti P (ti P T).elem).bytes ≤ 140737488355328 → n ≤ 9223372036854775807 := fun n hn => by
    have := Nat.le_mul_of_pos_right n hby
    omega
  unfold aAppendS at h
  split at h
  · -- onto a slice without room
    rename_i es hx'
    obtain ⟨hek2, hnil, hbytes, hK⟩ := h
    refine ⟨slIds (evalA (get S.t) y), 1, _, _, OpT.of_run (fun id hid => .inl (by simpa [keys, frs] using hid)) (fun id hid => by simpa [keys, frs] using hid) fun w G m a hg hx hH hfr => ?_, hK⟩
    have hm : m S.nx = none := hfr S.nx (by simp [frs])
    have h1 := hx x hmx; rw [hx'] at h1
    obtain ⟨xb, xc, hyv, _, hyc⟩ := slV_rep hg hnew (hx y hmy) hH hnk hsz
    obtain ⟨news, hnl, hn1, hnc, hnr⟩ := cells_list hyc hsz
    have hsv : ∃ base, a.eval x = .slice base es.length es.length ∧ CellsAt w G m base (ti P (ti P T).elem).sz es := by
      generalize a.eval x = ex at h1
      cases h1 with
      | slnil => exact ⟨none, rfl, fun i hi => by simp at hi, fun h => absurd rfl h⟩
      | slnone _ ad cap hf => have := hf rfl; subst this; exact ⟨some ad, rfl, fun i hi => by simp at hi, fun h => absurd rfl h⟩
      | sl _ _ _ b q cap k vs hG hcap hf hk hc h1 hr =>
        have hcp := hf rfl
        simp only [List.length_nil, Nat.add_zero] at hcp
        subst hcp
        have := slV_rep (x := .sl true es []) (H := fun _ => none) (v := .slice (some ⟨b, q, none⟩) es.length es.length) (k := (ti P (ti P T).elem).sz) hg rfl (.sl true es [] b q es.length k vs hG hcap hf hk hc h1 hr)
          ⟨fun id x hx => by simp [restr, slIds] at hx, fun i j es es' x y hi => by simp [restr, slIds] at hi⟩ hek2 hsz
        obtain ⟨a', cap', e1, _, e2⟩ := this
        cases e1
        exact ⟨_, rfl, e2⟩
    obtain ⟨base, hsv, hoc⟩ := hsv
    by_cases hne : new = []
    · have hes := hnil hne
      subst hne; subst hes
      have hrun := run_append_room' (P := P) (T := T) (U := U) (ty := o.type) (w := w) (w' := w) hT hU hek base 0 0 0 xc xb [] (by simp) (by simp) (by simp) (by cases base <;> simp [storeCells])
      refine ⟨.slice base 0 0, w, G, m, .inl ?_, ⟨Ev.refl _ _ _ _, .rslz _ _ _, fun id x hx1 => ?_, fun id es x hx1 _ hx2 => ?_, fun i j es1 es2 x1 x2 e1 e2 _ _ hne => ?_, fun _ _ => rfl⟩⟩
      · rw [hexec, hsv, hyv, hts']
        simp only [List.length_nil] at hrun ⊢
        rw [hrun]; rfl
      · simp only [hl] at hx1; split at hx1
        · rename_i e; subst e; cases hx1; exact .inl ⟨rfl, hm⟩
        · cases hx1
      · simp only [hl] at hx1; split at hx1
        · rename_i e; subst e; rw [hm] at hx2; cases hx2
        · cases hx1
      · simp only [hl] at e1 e2; split at e1
        · rename_i e; split at e2
          · rename_i e'; exact absurd (e.trans e'.symm) hne
          · cases e2
        · cases e1
    · obtain ⟨olds, hol, _, hoc', hor⟩ := cells_list hoc hsz
      obtain ⟨b', q', hxb, _⟩ := hyc.2 hne
      have hnpos : 0 < new.length := List.length_pos_iff.2 hne
      obtain ⟨z, hz, hzl2, _⟩ := zero_rep hek hzk hone w.drew G m
      obtain ⟨cap', hcap', hrun⟩ := run_append_grow' (P := P) (T := T) (U := U) (ty := o.type) hT hU hek hz base es.length es.length olds hol hoc' ⟨b', q', none⟩ new.length xc news hnl
        (fun t v hv => by obtain ⟨ad, e1, e2⟩ := hnc t v hv; rw [hxb] at e1; cases e1; exact e2) (by omega) (h63 _ hbytes) hbytes
      have hres := grow_res hm hg (ti P T).elem es new olds news (Builtin.zeroCells z.cells (cap' - (es.length + new.length))) hol hnl hek2 hnk (by simp [hne]) hor hnr cap' hcap' (by rw [size_zeroCells]; rw [show z.cells.size = (ti P (ti P T).elem).sz by omega])
      exact ⟨_, _, _, _, .inl (by rw [hexec, hsv, hyv, hts', hxb, hrun]; rfl), by simpa [frs] using hres⟩
  · -- onto a slice of the call's own
    rename_i id i n hx'
    split at h
    case h_2 => exact h.elim
    rename_i es hes
    obtain ⟨hin, hek2, hnil, hbytes, hK⟩ := h
    refine ⟨id :: slIds (evalA (get S.t) y), 1, _, _, OpT.of_run (fun j hj => ?_) (fun j hj => by simp [keys, frs] at hj ⊢; exact .inl hj) fun w G m a hg hx hH hfr => ?_, hK⟩
    · simp only [keys, List.map_cons, List.map_nil, List.mem_cons, List.not_mem_nil, or_false] at hj
      rcases hj with rfl | rfl
      · exact .inl (by simp [frs])
      · exact .inr ⟨by simp, _, hes, rfl⟩
    have hm : m S.nx = none := hfr S.nx (by simp [frs])
    have h1 := hx x hmx; rw [hx'] at h1
    have hHy : HeapOk w G m (restr (slIds (evalA (get S.t) y)) (hget S.h)) := hH.sub (fun j hj => by simp [hj])
    have hHx : HeapOk w G m (restr (slIds (.rsl id i n)) (hget S.h)) := hH.sub (fun j hj => by simp only [slIds, List.mem_singleton] at hj; simp [hj])
    obtain ⟨xb, xc, hyv, _, hyc⟩ := slV_rep hg hnew (hx y hmy) hHy hnk hsz
    obtain ⟨news, hnl, hn1, hnc, hnr⟩ := cells_list hyc hsz
    have hold : ∀ c ∈ (es.drop i).take n, c.length = (ti P (ti P T).elem).sz := fun c hc => hek2 c (List.mem_of_mem_drop (List.mem_of_mem_take hc))
    have hlen : ((es.drop i).take n).length = n := by simp; omega
    obtain ⟨base, sCap, hsv, hcap, hoc⟩ := slV_rep (x := .rsl id i n) (es := (es.drop i).take n) hg (by simp [slV, hes, hin]) h1 hHx hold hsz
    obtain ⟨olds, hol, _, hoc', hor⟩ := cells_list hoc hsz
    rw [hlen] at hsv hcap
    have hob : ObjOk w G m id (.cells false es) := hHx.obj id _ (by simp [restr, slIds, hes])
    have hsev : a.eval x = .slice base n sCap := hsv
    by_cases hroom : n + new.length ≤ sCap
    · -- room
      by_cases hz0 : n + new.length = 0
      · -- nothing at all
        have hesn := hnil hz0
        have hn0 : n = 0 := by omega
        have hnw : new = [] := List.eq_nil_of_length_eq_zero (by omega)
        subst hnw
        have hcap0 : sCap = 0 := by
          rw [hsev] at h1
          cases h1 with
          | rslz => rfl
          | rsl _ _ _ _ b q k e nn hmm =>
            obtain ⟨_, hm'⟩ | ⟨hne, _⟩ := hob
            · rw [hmm] at hm'; cases hm'
            · exact absurd hesn hne
        have hrun := run_append_room' (P := P) (T := T) (U := U) (ty := o.type) (w := w) (w' := w) hT hU hek base n sCap 0 xc xb [] (by simp) (by simp) (by omega) (by cases base <;> simp [storeCells])
        refine ⟨.slice base 0 0, w, G, m, .inl ?_, ⟨Ev.refl _ _ _ _, by simpa [hn0] using Rep.rslz _ _ _, fun j x hx1 => ?_, fun j es1 x hx1 _ hx2 => ?_, fun i1 j1 es1 es2 x1 x2 e1 e2 _ _ hne => ?_, fun _ _ => rfl⟩⟩
        · rw [hexec, hsev, hyv, hts']
          simp only [List.length_nil] at hrun ⊢
          rw [hrun]
          subst hn0 hcap0
          rfl
        · simp only [hl] at hx1; split at hx1
          · rename_i e; subst e; cases hx1; exact .inl ⟨by simp [hesn], hm⟩
          · split at hx1 <;> cases hx1
        · simp only [hl] at hx1; split at hx1
          · rename_i e; subst e; rw [hm] at hx2; cases hx2
          · split at hx1 <;> cases hx1
        · simp only [hl] at e1 e2; split at e1
          · rename_i e; split at e2
            · rename_i e'; exact absurd (e.trans e'.symm) hne
            · split at e2 <;> cases e2
          · split at e1 <;> cases e1
      · -- in place
        rw [hsev] at h1
        cases h1 with
        | rslz => omega
        | rsl _ _ _ _ b q k e nn hmm hl2 hsh hin2 =>
          obtain ⟨_, hm'⟩ | ⟨hne0, b', q', k', hm', _, h2, hk, hcells⟩ := hob
          · rw [hmm] at hm'; cases hm'
          rw [hmm] at hm'; cases hm'
          obtain ⟨hnG, c, e2, hb⟩ := h2 rfl
          have hkk : k = (ti P (ti P T).elem).sz := by
            obtain ⟨c0, cs0, rfl⟩ := List.exists_cons_of_ne_nil hne0
            rw [← hk 0 (by simp)]
            exact hek2 _ (by simp)
          have hsz2 : c.size = nn := by
            simp only [World.shape?, hb, Option.some.injEq, Prod.mk.injEq] at hsh; exact hsh.2
          have hfit : q + i * k + n * k + 0 + news.length ≤ c.size := by
            rw [hsz2, hnl, ← hkk]
            have h3 : (i + (n + new.length)) * k ≤ (i + sCap) * k := Nat.mul_le_mul_right _ (by omega)
            rw [Nat.add_mul, Nat.add_mul] at h3
            omega
          obtain ⟨w', c', hr, hb', hs', hx'', g1, g2, g3, g4, g5⟩ := run_storeCells' (P := P) e2 b news 0 (q + i * k + n * k) w c hb hfit hn1
          have hrun := run_append_room' (P := P) (T := T) (U := U) (ty := o.type) (w := w) (w' := w') hT hU hek (some ⟨b, q + i * k, none⟩) n sCap new.length xc xb news hnl hnc hroom (by
            dsimp only
            rw [add_lit', ← hkk]
            exact hr)
          have hev' : Ev (fun b' => b' = b) w G m w' G (mset m S.nx (b, q + i * k, k)) := by
            refine ⟨g1, g2, g3, by omega, fun b1 _ hn => g5 b1 hn, fun b1 y' hy' => ?_, fun _ h => h, fun _ h => .inl h, fun h b1 hb1 => by have := h b1 hb1; omega, fun j y hy => ?_⟩
            · by_cases e1 : b1 = b
              · subst e1
                simp only [World.shape?, hb, hb'] at hy' ⊢
                rw [hs']; exact hy'
              · simp only [World.shape?, g5 b1 e1] at hy' ⊢; exact hy'
            · unfold mset; split
              · rename_i e; subst e; rw [hm] at hy; cases hy
              · exact hy
          have hmuG : ∀ b1, b1 = b → ¬ G b1 := fun b1 e1 => e1 ▸ hnG
          have hnid : id ≠ S.nx := fun e => by rw [e] at hmm; rw [hm] at hmm; cases hmm
          have hcell : ∀ x, w'.cell? ⟨b, x, none⟩ = c'[x]? := fun x => by simp [World.cell?, hb']
          refine ⟨.slice (some ⟨b, q + i * k, none⟩) (n + new.length) sCap, w', G, mset m S.nx (b, q + i * k, k), .inl ?_, hev'.weaken (fun b1 e1 => .inl ⟨id, by simp [keys], _, hmm, e1.symm⟩), ?_, fun j x hx1 => ?_, fun j es1 x hx1 _ hx2 => ?_, fun i1 j1 es1 es2 x1 x2 e1 e2' _ _ hne => ?_, fun j hj => ?_⟩
          · rw [hexec, hsev, hyv, hts', hrun]; rfl
          · have hsh' : w'.shape? b = some (e2, c.size) := by simp [World.shape?, hb', hs']
            have := Rep.rsl (w := w') (G := G) (m := mset m S.nx (b, q + i * k, k)) S.nx 0 (n + new.length) sCap b (q + i * k) k _ _ (by simp [mset]) hroom hsh' (by
              rw [hsz2, Nat.zero_add]
              rw [Nat.add_mul] at hin2
              omega)
            simpa using this
          · simp only [hl] at hx1
            split at hx1
            case isFalse => split at hx1 <;> cases hx1
            rename_i e1; subst e1; cases hx1
            refine .inr ⟨fun hnil => hz0 (by
                have := congrArg List.length hnil
                rw [List.length_append, hlen] at this
                simpa using this), b, q + i * k, k, by simp [mset], (fun h => by cases h), fun _ => ⟨hnG, c', e2, hb'⟩, fun t ht => ?_, fun t ht j hj => ?_⟩
            · have := List.getElem_mem ht
              rw [List.mem_append] at this
              rw [hkk]
              exact this.elim (hold _) (hnk _)
            · have hjk : j < k := by
                have := List.getElem_mem ht
                rw [List.mem_append] at this
                rw [hkk, ← this.elim (hold _) (hnk _)]
                exact hj
              rw [hcell, hx'' (q + i * k + t * k + j)]
              simp only [Nat.add_zero, hnl]
              by_cases h3 : t < n
              · have hlt : (t + 1) * k ≤ n * k := Nat.mul_le_mul_right _ h3
                rw [Nat.add_mul] at hlt
                rw [if_neg (by omega)]
                have hel : ((es.drop i).take n ++ new)[t] = es[i + t] := by
                  rw [List.getElem_append_left (by rw [hlen]; exact h3)]
                  simp
                obtain ⟨u, e3, e4, e5⟩ := hcells (i + t) (by omega) j (by rw [← hel]; exact hj)
                refine ⟨u, ?_, e4, ?_⟩
                · simp only [World.cell?, hb] at e3
                  rw [show q + i * k + t * k + j = q + (i + t) * k + j by rw [Nat.add_mul]; omega]
                  exact e3
                · have := e5.mono hev' hmuG hg
                  simpa [hel] using this
              · have h4 : t - n < new.length := by simp only [List.length_append, hlen] at ht; omega
                have hel : ((es.drop i).take n ++ new)[t] = new[t - n] := by
                  rw [List.getElem_append_right (by rw [hlen]; omega)]
                  simp only [hlen]
                obtain ⟨u, e3, e4, e5⟩ := hnr (t - n) h4 j (by rw [← hel]; exact hj)
                rw [← hkk] at e3
                have hmul : t * k = n * k + (t - n) * k := by rw [← Nat.add_mul]; congr 1; omega
                have hub : (t - n) * k + j < new.length * (ti P (ti P T).elem).sz := by
                  rw [← hnl]; exact (List.getElem?_eq_some_iff.1 e3).1
                rw [if_pos (by omega)]
                refine ⟨u, ?_, e4, ?_⟩
                · rw [show q + i * k + t * k + j - (q + i * k + n * k) = (t - n) * k + j by omega]; exact e3
                · have := e5.mono hev' hmuG hg
                  simpa [hel] using this
          · right
            simp only [hl] at hx1
            split at hx1
            case isFalse => split at hx1 <;> cases hx1
            rename_i e1; subst e1
            simp only [mset, if_true, Option.some.injEq] at hx2
            refine ⟨id, by simp [keys], (b, q, k), ?_, by rw [← hx2]⟩
            exact hmm
          · simp only [hl] at e1 e2'
            split at e1
            · rename_i e; split at e2'
              · rename_i e'; exact absurd (e.trans e'.symm) hne
              · split at e2' <;> cases e2'
            · split at e1 <;> cases e1
          · simp only [frs, List.range_one, List.map_cons, List.map_nil, List.mem_singleton, Nat.add_zero] at hj
            simp [mset, hj]
    · -- no room
      have hnpos : 0 < new.length := by omega
      have hne : new ≠ [] := List.length_pos_iff.1 hnpos
      obtain ⟨b', q', hxb, _⟩ := hyc.2 hne
      obtain ⟨z, hz, hzl2, _⟩ := zero_rep hek hzk hone w.drew G m
      obtain ⟨cap', hcap', hrun⟩ := run_append_grow' (P := P) (T := T) (U := U) (ty := o.type) hT hU hek hz base n sCap olds (by rw [hol, hlen]) hoc' ⟨b', q', none⟩ new.length xc news hnl
        (fun t v hv => by obtain ⟨ad, e1, e2⟩ := hnc t v hv; rw [hxb] at e1; cases e1; exact e2) (by omega) (h63 _ hbytes) hbytes
      have hres := grow_res hm hg (ti P T).elem ((es.drop i).take n) new olds news (Builtin.zeroCells z.cells (cap' - (n + new.length))) hol hnl hold hnk (by simp [hne]) hor hnr cap' (by rw [hlen]; exact hcap')
        (by rw [size_zeroCells, hlen]; rw [show z.cells.size = (ti P (ti P T).elem).sz by omega])
      rw [hlen] at hres
      exact ⟨_, _, _, _, .inl (by rw [hexec, hsev, hyv, hts', hxb, hrun]; rfl), by simpa [frs] using hres.kill id⟩
  · exact h.elim

end
end Go.Bw
