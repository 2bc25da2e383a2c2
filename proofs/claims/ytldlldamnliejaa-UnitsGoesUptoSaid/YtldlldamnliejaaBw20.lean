/- The rules together; the walk as data, a step an equation. -/
import Derived.Test.YtldlldamnliejaaBw19
import Derived.Test.YtldlldamnliejaaBwR
import Derived.Laws.Cover3
namespace Go.Bw
open Go

def aBuildX (P : Program) (T len : Nat) (parts : List (Nat × AV)) (nx : Nat) (K : OK) : Prop := match len with
  | 0 => parts = [] ∧ (ti P T).kind = 1 ∧ (ti P (ti P T).elem).known = true ∧ K [] 0 (.sl true [] []) []
  | n + 1 => aBuildSlice P T (n + 1) parts nx K
theorem l_buildX0 {P : Program} {T nx : Nat} {K : OK} : aBuildX P T 0 [] nx K = ((ti P T).kind = 1 ∧ (ti P (ti P T).elem).known = true ∧ K [] 0 (.sl true [] []) []) := by simp [aBuildX]
theorem l_buildXs {P : Program} {T len nx : Nat} {parts : List (Nat × AV)} {K : OK} (h : len ≠ 0) : aBuildX P T len parts nx K = aBuildSlice P T len parts nx K := by
  cases len with
  | zero => exact absurd rfl h
  | succ n => rfl
theorem s_buildX {P : Program} {o : Oper} {S : St} {K : OK} {T len : Nat} {parts : Array (Nat × Operand)} (ho : o.op = .buildSlice T len parts)
    (h : aBuildX P T len (parts.toList.map fun p => (p.1, evalA (get S.t) p.2)) S.nx K) : OpS P o S K := by
  cases len with
  | zero =>
    obtain ⟨h1, h2, h3, h4⟩ := h
    have : parts = #[] := by simpa using h1
    subst this
    exact s_buildSlice0 ho h2 h3 h4
  | succ n => exact s_buildSlice ho h

def arule (P : Program) : Rules := fun o S K => match o.op with
  | .move x => K [] 0 (evalA (get S.t) x) []
  | .assign x => K [] 0 (evalA (get S.t) x) []
  | .pick c x y => aPick (evalA (get S.t) c) (evalA (get S.t) x) (evalA (get S.t) y) K
  | .extract x i => aExtract (evalA (get S.t) x) i K
  | .makeFunc fn xs ys => K [] 0 (.clo fn (xs.toList.map (evalA (get S.t))) (ys.toList.map (evalA (get S.t)))) []
  | .fieldAddr T x f => aField ((ti P T).flds[f]?) (evalA (get S.t) x) K
  | .load T x => aLoad (ti P T) (evalA (get S.t) x) S.h K
  | .store T x y => aStore (ti P T) (evalA (get S.t) x) (evalA (get S.t) y) S.h K
  | .box _ x => (cellsOf (evalA (get S.t) x)).all AV.one = true ∧ K [] 1 (.ref S.nx 0 0) [(S.nx, some (.cells false [cellsOf (evalA (get S.t) x)]))]
  | .alloc T => (ti P T).known = true ∧ zeroKnown P T = true ∧ (ti P T).zero.all AV.one = true ∧ K [] 1 (.ref S.nx 0 0) [(S.nx, some (.cells false [(ti P T).zero]))]
  | .indexAddr T x y => aIndex (ti P T) (ti P (ti P T).elem) (evalA (get S.t) x) (evalA (get S.t) y) S.h K
  | .binOp op T x y _ => aBin (ti P T) op (evalA (get S.t) x) (evalA (get S.t) y) K ∨ aNil (ti P T).kind op (evalA (get S.t) x) (evalA (get S.t) y) K
  | .unOp op _ x => aUn op (evalA (get S.t) x) K
  | .call ⟨.value x, xs, _⟩ => aCall P (evalA (get S.t) x) (xs.toList.map (evalA (get S.t))) S K
  | .call ⟨.builtin .len, xs, ts⟩ => match xs[0]?, ts[0]? with
    | some x, some T => aLen (ti P T) (evalA (get S.t) x) K
    | _, _ => False
  | .call ⟨.builtin .max, xs, _⟩ => match xs.toList with
    | [x, y] => aMax (evalA (get S.t) x) (evalA (get S.t) y) K
    | _ => False
  | .call ⟨.builtin .min, xs, _⟩ => match xs.toList with
    | [x, y] => aMin (evalA (get S.t) x) (evalA (get S.t) y) K
    | _ => False
  | .call ⟨.builtin .append, xs, ts⟩ => match xs.toList, ts.toList with
    | [x, y], [T, U] => aAppend (ti P T) (ti P U) (ti P (ti P T).elem) (zeroKnown P (ti P T).elem) (evalA (get S.t) x) (evalA (get S.t) y) S.h S.nx K
    | _, _ => False
  | .build T parts => aBuild P T (parts.toList.map fun p => (p.1, evalA (get S.t) p.2)) K
  | .buildSlice T len parts => aBuildX P T len (parts.toList.map fun p => (p.1, evalA (get S.t) p.2)) S.nx K
  | .makeSlice T x y => aMake P T (evalA (get S.t) x) (evalA (get S.t) y) S.nx K
  | .index T x y => aIndexS (ti P T) (evalA (get S.t) x) (evalA (get S.t) y) K
  | .convert U T x => ((ti P U).kind = 8 ∨ (ti P U).kind = 2) ∧ aConv (ti P T) (evalA (get S.t) x) K
  | .nilCheck x => okNil (evalA (get S.t) x) = true ∧ K [] 0 (evalA (get S.t) x) []
  | .slice T x lo hi mx => aSliceX (ti P T) (ti P (ti P T).elem) (evalA (get S.t) x) (ioA (lo.map (evalA (get S.t)))) (ioA (hi.map (evalA (get S.t)))) (ioA (mx.map (evalA (get S.t)))) S.h K
  | _ => False

theorem arule_sound (P : Program) : Sound P (arule P) := by
  intro o S K h
  unfold arule at h
  split at h
  · rename_i ho; exact s_move (.inl ho) h
  · rename_i ho; exact s_move (.inr ho) h
  · rename_i ho; exact s_pick ho h
  · rename_i ho; exact s_extract ho h
  · rename_i ho; exact s_makeFunc ho h
  · rename_i ho; exact s_fieldAddr ho h
  · rename_i ho; exact s_load ho h
  · rename_i ho; exact s_store ho h
  · rename_i ho; exact s_box ho h
  · rename_i ho; exact s_alloc ho h
  · rename_i ho; exact s_index ho h
  · rename_i ho; exact h.elim (s_bin ho) (s_nil ho)
  · rename_i ho; exact s_un ho h
  · rename_i ho; exact s_call ho h
  · rename_i ho
    split at h
    · rename_i h1 h2; exact s_len ho h1 h2 h
    · exact h.elim
  · rename_i ho
    split at h
    · rename_i h1; exact s_max ho h1 h
    · exact h.elim
  · rename_i ho
    split at h
    · rename_i h1; exact s_min ho h1 h
    · exact h.elim
  · rename_i ho
    split at h
    · rename_i h1 h2; exact s_append ho h1 h2 h
    · exact h.elim
  · rename_i ho; exact s_build ho h
  · rename_i ho; exact s_buildX ho h
  · rename_i ho; exact s_make ho h
  · rename_i ho; exact s_indexS ho h
  · rename_i ho; exact s_conv ho h.1 h.2
  · rename_i ho; exact s_nilCheck ho h.1 h.2
  · rename_i ho; exact s_slice ho h
  · exact h.elim

/-! ### operations that may come out in more than one way -/
/-- A call of a function value: what is known of memory may be read otherwise first; what is frozen is seen as it is. -/
def sCall (P : Program) (F : AV) (args : List AV) (S : St) (K : SK) : Prop := ∃ h2 : Heap, Le S ⟨S.t, h2, S.nx⟩ ∧
  (aCall P F args ⟨S.t, h2, S.nx⟩ (fun _ n out ch => K out (ch ++ h2) (S.nx + n)) ∨
  ∃ (F' : AV) (vs : List AV) (r h : Heap) (Post : AV → Heap → Nat → Prop), Vw (fun _ => False) (hget h2) F F' ∧ args.length = vs.length ∧ (∀ j (h1 : j < args.length) (h2' : j < vs.length), Vw (fun _ => False) (hget h2) args[j] vs[j]) ∧
    (∀ id, hget h2 id = hget (r ++ h) id) ∧ (∀ id ∈ keys r, hget h id = none) ∧ CallV P F' vs h S.nx Post ∧ ∀ out h' nx', Post out h' nx' → K out (r ++ h') nx')

/-- Is a slice nil? Of one without elements nobody knows. -/
def sNil (P : Program) (T : TypeId) (op : BinOp) (x : AV) (S : St) (K : SK) : Prop := (ti P T).kind = 1 ∧ (op = .eql ∨ op = .neq) ∧ match x with
  | .sl _ (_ :: _) _ => K (.val (.bool (if op = .eql then false else true))) S.h S.nx
  | .sl _ [] _ => ∀ b, K (.val (.bool b)) S.h S.nx
  | .rsl _ _ n => (n = 0 → ∀ b, K (.val (.bool b)) S.h S.nx) ∧ (0 < n → K (.val (.bool (if op = .eql then false else true))) S.h S.nx)
  | _ => False

/-- How much room a slice has. -/
def sCap (P : Program) (T : TypeId) (x : AV) (S : St) (K : SK) : Prop := (ti P T).kind = 1 ∧ match x with
  | .sl _ es sp => ∀ c : Nat, es.length + sp.length ≤ c → K (.val (.int .i64 c)) S.h S.nx
  | .rsl _ _ n => ∀ c : Nat, n ≤ c → K (.val (.int .i64 c)) S.h S.nx
  | _ => False

def KD (S : St) (K : SK) (_ : List Nat) (n : Nat) (out : AV) (ch : Heap) : Prop := K out (ch ++ S.h) (S.nx + n)

def srule (P : Program) : SRules := fun o S K => match o.op with
  | .call ⟨.value x, xs, _⟩ => sCall P (evalA (get S.t) x) (xs.toList.map (evalA (get S.t))) S K
  | .binOp op T x (.const (.slice none 0 0)) _ => sNil P T op (evalA (get S.t) x) S K
  | .call ⟨.builtin .cap, xs, ts⟩ => match xs[0]?, ts[0]? with
    | some x, some T => sCap P T (evalA (get S.t) x) S K
    | _, _ => False
  | _ => arule P o S (KD S K)

/-- An operation carried out at a state, whatever it comes to. -/
def SS (P : Program) (o : Oper) (S : St) (K : SK) : Prop := (∀ c, o.op ≠ .defer c) → ∀ (c : Cx) (r : Rs) (n : Nat) (a : Act) (w : World) (G : Nat → Prop) (m : Where),
  Inv c r (· < S.nx) (get S.t) (hget S.h) a w G m → (∀ x, o.dst = some x → x < c.N) → ∀ (ro : Option Nat) (next : Act → World → Prop) (Q : Exit → Act → World → Prop),
  (∀ out h nx a' w' G' m', K out h nx → Inv c r (· < nx) (tput (get S.t) o.dst out) (hget h) a' w' G' m' → next a' w') → o.wpIn (Fw ro) n P a w next Q

theorem SS.of_ops {P : Program} {o : Oper} {S : St} {K : SK} (h : OpS P o S (fun _ n out ch => K out (ch ++ S.h) (S.nx + n))) : SS P o S K := by
  intro hdf c r n a w G m hI hd ro next Q hQ
  obtain ⟨rd, k, out, ch, ⟨h1, h2, h3⟩, hK⟩ := h
  have hfr : ∀ id ∈ frs S.nx k, m id = none := fun id hid => by
    cases hm : m id with
    | none => rfl
    | some x => have := hI.ids id x hm; have := (mem_frs.1 hid).1; omega
  refine h3 hdf ro n w G m a hI.g (fun x _ => hI.eval x) (hI.restr rd) hfr next Q fun v w' G' m' hr => hQ out _ _ _ w' G' m' hK ?_
  have := hI.step (U' := (· < S.nx + k)) hd h1 h2 hfr (fun id hid h => by have := (mem_frs.1 hid).1; omega) (fun id h => by omega) (fun id hid => (mem_frs.1 hid).2) hr
  rw [hget_append]
  exact this

/-- What is read, and nothing turns: whatever it comes to. -/
theorem SS.pure {P : Program} {o : Oper} {S : St} {K : SK} (h : ∀ (w : World) (G : Nat → Prop) (m : Where) (a : Act), (∀ b, G b → b < w.heap.size) → (∀ x ∈ o.op.operands, Rep w G m (evalA (get S.t) x) (a.eval x)) →
    ∃ v out, (execOp a.eval o).run P w = .ok (.value v) w ∧ Rep w G m out v ∧ K out S.h S.nx) : SS P o S K := by
  intro hdf c r n a w G m hI hd ro next Q hQ
  obtain ⟨v, out, hrun, hrep, hK⟩ := h w G m a hI.g (fun x _ => hI.eval x)
  refine ⟨fun _ _ => trivial, ?_⟩
  rw [Oper.semAt_eq _ _ _ hdf, hrun]
  exact hQ out _ _ _ w G m hK (hI.skip hd hrep)

theorem blkOf_false {m : Where} {H : Nat → Option Ob} {G : Nat → Prop} : (fun b => G b ∨ blkOf (fun _ => False) m H b) = G := by
  funext b
  simp only [blkOf, false_and, exists_false, or_false]

theorem SS.call {P : Program} {o : Oper} {S : St} {K : SK} {x : Operand} {xs : Array Operand} {ts : Array TypeId} (ho : o.op = .call { callee := .value x, args := xs, argTypes := ts }) {Post : AV → Heap → Nat → Prop}
    {h2 : Heap} {F' : AV} {vs : List AV} (hF : Vw (fun _ => False) (hget h2) (evalA (get S.t) x) F') (hl : (xs.toList.map (evalA (get S.t))).length = vs.length)
    (hv : ∀ j (h1 : j < (xs.toList.map (evalA (get S.t))).length) (h2' : j < vs.length), Vw (fun _ => False) (hget h2) (xs.toList.map (evalA (get S.t)))[j] vs[j])
    (he : hget S.h = hget h2) (hc : CallV P F' vs h2 S.nx Post) (hK : ∀ out h' nx', Post out h' nx' → K out h' nx') : SS P o S K := by
  intro hdf c r n a w G m hI hd ro next Q hQ
  have hI' : Inv c r (· < S.nx) (get S.t) (hget h2) a w G m := he ▸ hI
  have vw : ∀ y z u, Vw (fun _ => False) (hget h2) y z → Rep w G m y u → Rep w G m z u := fun y z u hvw hr => by
    have := hvw w G m u hI'.heap hr
    rw [blkOf_false] at this; exact this
  have hR := hc w G m (a.eval x) (xs.map a.eval) hI.g (vw _ _ _ hF (hI.eval x)) (by simp at hl ⊢; omega) (fun j hj => by
    have hj1 : j < (xs.toList.map (evalA (get S.t))).length := hl ▸ hj
    have hj' : j < xs.size := by simpa using hj1
    refine vw _ _ _ (hv j hj1 hj) ?_
    have := hI.eval xs[j]
    simpa [hj'] using this) hI'.heap hI.ids hI'.idh
  have fin : ∀ v w', (∃ out h' nx' G' m', Post out h' nx' ∧ Turn (hget h2) S.nx w G m (hget h') nx' w' G' m' ∧ Rep w' G' m' out v) → next (a.put o.dst v) w' := by
    rintro v w' ⟨out, h', nx', G', m', hP, ht, hrep⟩
    exact hQ out h' nx' _ w' G' m' (hK _ _ _ hP) ((hI'.turn ht).skip hd hrep)
  refine ⟨fun _ _ => trivial, ?_⟩
  rw [Oper.semAt_eq _ _ _ hdf]
  rcases hR with ⟨f, vf, vc, e, h1, h3⟩ | ⟨f, vf, vc, e, v, w', h1, h3⟩ | ⟨l, L, e, h1, h3, h4⟩
  · have hrun : (execOp a.eval o).run P w = .ok (.enter f (vf ++ xs.map a.eval ++ vc)) w := by
      simp only [execOp, ho, resolve, e, Deferred.ofValue, Sem.run_bind, Sem.run_pure, Result.andThen_ok, invoke]
      exact h1 _ w
    rw [hrun, Oper.uponIn_enter]
    refine ⟨fw_depth _ _, callsIn_fw _ _ (Calls.mono h3 ?_)⟩
    rintro e' w' ⟨v, rfl, hv⟩
    exact fin v w' hv
  · have hrun : (execOp a.eval o).run P w = .ok (.value v) w' := by
      simp only [execOp, ho, resolve, e, Deferred.ofValue, Sem.run_bind, Sem.run_pure, Result.andThen_ok, invoke]
      exact h1
    rw [hrun]
    exact fin v w' h3
  · have hrun : (execOp a.eval o).run P w = .ok (.round l L.fn ((L.params.zip (xs.map a.eval)).foldl (fun tmps (t, a) => tmps.setIfInBounds t a) L.tmps) L.assign L.body) w := by
      simp only [execOp, ho, resolve, e, Deferred.ofValue, Sem.run_bind, Sem.run_pure, Result.andThen_ok, invoke]
      have : (#[] ++ xs.map a.eval : Array Value) = xs.map a.eval := by simp
      rw [this]
      exact run_yield h1 h3
    rw [hrun, Oper.uponIn_round]
    refine ⟨fw_depth _ _, (roundIn_fw ro _ h4).mono ?_⟩
    rintro e' w' ⟨v, rfl, hv⟩
    exact fin v w' hv

theorem SS.le {P : Program} {o : Oper} {S : St} {K : SK} {h2 : Heap} (hle : Le S ⟨S.t, h2, S.nx⟩) (h : SS P o ⟨S.t, h2, S.nx⟩ K) : SS P o S K := by
  intro hdf c r n a w G m hI hd ro next Q hQ
  obtain ⟨G', m', hI'⟩ := hle c r a w G m hI
  exact h hdf c r n a w G' m' hI' hd ro next Q hQ

theorem srule_sound (P : Program) : SSound P (srule P) := by
  intro o S K h
  show SS P o S K
  unfold srule at h
  split at h
  · rename_i x xs ts ho
    obtain ⟨h2, hle, h⟩ := h
    refine SS.le hle ?_
    rcases h with h | ⟨F', vs, r, h3, Post, hF, hl, hv, he, hr, hc, hK⟩
    · exact SS.of_ops (s_call ho h)
    · have he' := funext he
      refine SS.call ho (S := ⟨S.t, h2, S.nx⟩) (he' ▸ hF) hl (fun j h1 h2' => he' ▸ hv j h1 h2') he' (hc.frame hr) (fun out h' nx' ⟨h3, e, hP⟩ => e ▸ hK out h3 nx' hP)
  · rename_i op T x T2 ho
    obtain ⟨hk, hop, h⟩ := h
    refine SS.pure fun w G m a _ hx => ?_
    have h1 := hx x (by simp [ho, Op.operands])
    have hrun : ∀ (ad : Option Addr) (n c : Nat), a.eval x = .slice ad n c → (execOp a.eval o).run P w = .ok (.value (.bool (if op = .eql then ad.isNone else !ad.isNone))) w := fun ad n c e => by
      have e1 := run_equal_slice_nil w T _ ad n c (ti_slice hk)
      have e2 := run_bin_of_equal (op := op) (w := w) (x := .slice ad n c) rfl hop e1
      have e3 := run_eqGuard_plain (P := P) op T x (.const (.slice none 0 0)) (.slice ad n c) (.slice none 0 0) rfl w
      have e4 : a.eval (.const (.slice none 0 0)) = .slice none 0 0 := rfl
      simp [execOp, ho, e, e4, e2, e3]
    generalize hax : evalA (get S.t) x = ax at *
    generalize hev : a.eval x = ex at *
    cases h1 <;> first | exact h.elim | skip
    · exact ⟨_, _, hrun _ _ _ rfl, .val _, h _⟩
    · exact ⟨_, _, hrun _ _ _ rfl, .val _, h _⟩
    · rename_i f es sp b o cap k vs hG hcap hf hkk hc h1 hr
      cases es with
      | nil => exact ⟨_, _, hrun _ _ _ rfl, .val _, h _⟩
      | cons e0 es => refine ⟨_, _, hrun _ _ _ rfl, .val _, ?_⟩; simpa using h
    · rename_i id i n cap b o k e nn hm hlen hsh hin
      refine ⟨_, _, hrun _ _ _ rfl, .val _, ?_⟩
      by_cases h0 : n = 0
      · exact h.1 h0 _
      · have := h.2 (by omega); simpa using this
    · rename_i id i ad
      exact ⟨_, _, hrun _ _ _ rfl, .val _, h.1 rfl _⟩
  · rename_i xs ts ho
    split at h
    case h_2 => exact h.elim
    rename_i x T hx0 ht0
    obtain ⟨hk, h⟩ := h
    refine SS.pure fun w G m a _ hx => ?_
    have hmem : x ∈ o.op.operands := by
      simp only [ho, Op.operands, Call.operands, Array.mem_append]
      right
      exact Array.mem_of_getElem? hx0
    have h1 := hx x hmem
    have hrun : ∀ (ad : Option Addr) (n c : Nat), a.eval x = .slice ad n c → (execOp a.eval o).run P w = .ok (.value (.int .i64 c)) w := fun ad n c e => by
      simp [execOp, ho, resolve, invoke, builtin, Builtin.cap_, ht0, hx0, e, run_underlying' (ti_slice hk), goInt]
    generalize hax : evalA (get S.t) x = ax at *
    generalize hev : a.eval x = ex at *
    cases h1 <;> first | exact h.elim | skip
    · exact ⟨_, _, hrun _ _ _ rfl, .val _, h _ (by simp)⟩
    · exact ⟨_, _, hrun _ _ _ rfl, .val _, h _ (by simp)⟩
    · rename_i f es sp b o cap k vs hG hcap hf hkk hc h1 hr
      exact ⟨_, _, hrun _ _ _ rfl, .val _, h _ hcap⟩
    · rename_i id i n cap b o k e nn hm hlen hsh hin
      exact ⟨_, _, hrun _ _ _ rfl, .val _, h _ hlen⟩
    · exact ⟨_, _, hrun _ _ _ rfl, .val _, h _ (Nat.le_refl _)⟩
  · exact SS.of_ops (arule_sound P o S _ h)

inductive Fr where
  | seq (b : Code)
  | block (id : Nat)
  | loop (J : St → Prop)

section
variable (P : Program) (keep : List Nat)

def kont : List Fr → (Exit → St → Prop) → Exit → St → Prop
  | [], Q => Q
  | .seq b :: r, Q => fun e S => match e with | .normal => awp P (arule P) (srule P) keep b (kont r Q) S | e => kont r Q e S
  | .block id :: r, Q => fun e S => match e with | .exit j => if j = id then kont r Q .normal S else kont r Q e S | e => kont r Q e S
  | .loop J :: r, Q => fun e S => match e with | .normal => J S | e => kont r Q e S

def W (c : Code) (k : List Fr) (Q : Exit → St → Prop) (S : St) : Prop := awp P (arule P) (srule P) keep c (kont P keep k Q) S
/-- The operations that are left of a region that draws. -/
def WO (ops : Array Oper) (l : List Oper) (fs : List Foot) (k : List Fr) (Q : Exit → St → Prop) (S : St) : Prop :=
  aops (arule P) true ops l fs S (endR P true ops (kont P keep k Q))
def KO (ops : Array Oper) (l : List Oper) (fs : List Foot) (k : List Fr) (Q : Exit → St → Prop) (S : St) (d : Option Nat) (rd : List Nat) (n : Nat) (out : AV) (ch : Heap) : Prop :=
  WO P keep ops l (foot true rd ch fs) k Q (S.put d n out ch)
def WG (g : AV) (want : Bool) (o : Oper) (ops : Array Oper) (l : List Oper) (fs : List Foot) (k : List Fr) (Q : Exit → St → Prop) (S : St) : Prop :=
  match g with
  | .val (.bool b) => if b = want then arule P o S (KO P keep ops l fs k Q S o.dst) else WO P keep ops l (foot true [] [] fs) k Q (S.put o.dst 0 (.val undef) [])
  | .val (.tuple _) => WO P keep ops l (foot true [] [] fs) k Q (S.put o.dst 0 (.val undef) [])
  | _ => False
/-- The operations that are left of a region in the order of the text. -/
def WS (ops : Array Oper) (l : List Oper) (k : List Fr) (Q : Exit → St → Prop) (S : St) : Prop :=
  sops (srule P) ops l S (kont P keep k Q .normal)
def KS (ops : Array Oper) (l : List Oper) (k : List Fr) (Q : Exit → St → Prop) (S : St) (d : Option Nat) (out : AV) (h : Heap) (nx : Nat) : Prop :=
  WS P keep ops l k Q (S.set d out h nx)
def WSG (g : AV) (want : Bool) (o : Oper) (ops : Array Oper) (l : List Oper) (k : List Fr) (Q : Exit → St → Prop) (S : St) : Prop :=
  match g with
  | .val (.bool b) => if b = want then srule P o S (KS P keep ops l k Q S o.dst) else WS P keep ops l k Q (S.set o.dst (.val undef) S.h S.nx)
  | .val (.tuple _) => WS P keep ops l k Q (S.set o.dst (.val undef) S.h S.nx)
  | _ => False
def WC (g : AV) (a b : Code) (k : List Fr) (Q : Exit → St → Prop) (S : St) : Prop :=
  match g with
  | .val (.bool c) => if c then W P keep a k Q S else W P keep b k Q S
  | _ => False

variable {P keep}
variable {k : List Fr} {Q : Exit → St → Prop} {S : St} {ops : Array Oper} {l : List Oper} {fs : List Foot}

theorem W_seq {a b : Code} : W P keep (.seq a b) k Q S = W P keep a (.seq b :: k) Q S := by
  show awp P (arule P) (srule P) keep (.seq a b) (kont P keep k Q) S = awp P (arule P) (srule P) keep a (kont P keep (.seq b :: k) Q) S
  rfl
theorem W_block {i : Nat} {a : Code} : W P keep (.block i a) k Q S = W P keep a (.block i :: k) Q S := (rfl)
theorem W_region_t {i : Nat} : W P keep (.region i ops true) k Q S = WO P keep ops ops.toList [] k Q ⟨gc keep S.t, S.h, S.nx⟩ := (rfl)
theorem W_region_f {i : Nat} : W P keep (.region i ops false) k Q S = WS P keep ops ops.toList k Q ⟨gc keep S.t, S.h, S.nx⟩ := (rfl)
theorem W_skip : W P keep .skip k Q S = kont P keep k Q .normal S := (rfl)
theorem W_exit {i : Nat} : W P keep (.exit i) k Q S = kont P keep k Q (.exit i) S := (rfl)
theorem W_ret : W P keep .ret k Q S = kont P keep k Q .ret S := (rfl)
theorem W_cond {c : Operand} {a b : Code} : W P keep (.cond c a b) k Q S = WC P keep (evalA (get S.t) c) a b k Q S := (rfl)
theorem WC_true {a b : Code} : WC P keep (.val (.bool true)) a b k Q S = W P keep a k Q S := (rfl)
theorem WC_false {a b : Code} : WC P keep (.val (.bool false)) a b k Q S = W P keep b k Q S := (rfl)
theorem WC_split {a b : Code} {c : Bool} (h1 : c = true → W P keep a k Q S) (h2 : c = false → W P keep b k Q S) : WC P keep (.val (.bool c)) a b k Q S := by
  cases c
  · exact h2 rfl
  · exact h1 rfl
theorem kont_nil {e : Exit} : kont P keep [] Q e S = Q e S := (rfl)
theorem kont_seq {b : Code} : kont P keep (.seq b :: k) Q .normal S = W P keep b k Q S := (rfl)
theorem kont_seq_ret {b : Code} : kont P keep (.seq b :: k) Q .ret S = kont P keep k Q .ret S := (rfl)
theorem kont_seq_exit {b : Code} {i : Nat} : kont P keep (.seq b :: k) Q (.exit i) S = kont P keep k Q (.exit i) S := (rfl)
theorem kont_block {b : Nat} : kont P keep (.block b :: k) Q .normal S = kont P keep k Q .normal S := (rfl)
theorem kont_block_ret {b : Nat} : kont P keep (.block b :: k) Q .ret S = kont P keep k Q .ret S := (rfl)
theorem kont_block_exit {b i : Nat} : kont P keep (.block b :: k) Q (.exit i) S = if i = b then kont P keep k Q .normal S else kont P keep k Q (.exit i) S := (rfl)
/-- What the next round begins with. -/
def Nxt (I : Nat → St → Prop) (n : Nat) (S : St) : Prop := ∃ n' S', n' < n ∧ Le S S' ∧ I n' S'
theorem kont_loop {J : St → Prop} : kont P keep (.loop J :: k) Q .normal S = J S := (rfl)
theorem kont_loop_ret {J : St → Prop} : kont P keep (.loop J :: k) Q .ret S = kont P keep k Q .ret S := (rfl)
theorem kont_loop_exit {J : St → Prop} {i : Nat} : kont P keep (.loop J :: k) Q (.exit i) S = kont P keep k Q (.exit i) S := (rfl)
theorem W_loop {b : Code} (I : Nat → St → Prop) (n : Nat) (S' : St) (hle : Le S S') (h0 : I n S') (step : ∀ n S', I n S' → W P keep b (.loop (Nxt I n) :: k) Q S') : W P keep (.loop b) k Q S := ⟨I, ⟨n, S', hle, h0⟩, fun n S' h => step n S' h⟩
theorem WO_nil : WO P keep ops [] fs k Q S = ((drawOk ops fs = true ∧ P.follows .mixedOrders = true) ∧ kont P keep k Q .normal S) := by
  show ((true = true → drawOk ops fs = true ∧ P.follows .mixedOrders = true) ∧ kont P keep k Q .normal S) = _
  simp
theorem WO_none {d : Option Nat} {o : Op} {ty : TypeId} {p : String} {af : Array Edge} :
    WO P keep ops (⟨d, o, ty, p, af, none⟩ :: l) fs k Q S = arule P ⟨d, o, ty, p, af, none⟩ S (KO P keep ops l fs k Q S d) := (rfl)
theorem WO_some {d : Option Nat} {o : Op} {ty : TypeId} {p : String} {af : Array Edge} {j : Nat} {w : Bool} :
    WO P keep ops (⟨d, o, ty, p, af, some (j, w)⟩ :: l) fs k Q S = WG P keep (gAV (get S.t) ops j) w ⟨d, o, ty, p, af, some (j, w)⟩ ops l fs k Q S := (rfl)
theorem WG_tt {o : Oper} : WG P keep (.val (.bool true)) true o ops l fs k Q S = arule P o S (KO P keep ops l fs k Q S o.dst) := (rfl)
theorem WG_ff {o : Oper} : WG P keep (.val (.bool false)) false o ops l fs k Q S = arule P o S (KO P keep ops l fs k Q S o.dst) := (rfl)
theorem WG_tf {o : Oper} : WG P keep (.val (.bool true)) false o ops l fs k Q S = WO P keep ops l (foot true [] [] fs) k Q (S.put o.dst 0 (.val undef) []) := (rfl)
theorem WG_ft {o : Oper} : WG P keep (.val (.bool false)) true o ops l fs k Q S = WO P keep ops l (foot true [] [] fs) k Q (S.put o.dst 0 (.val undef) []) := (rfl)
theorem WG_undef {o : Oper} {w : Bool} : WG P keep (.val undef) w o ops l fs k Q S = WO P keep ops l (foot true [] [] fs) k Q (S.put o.dst 0 (.val undef) []) := (rfl)
theorem WG_split {o : Oper} {c w : Bool} (h1 : c = w → arule P o S (KO P keep ops l fs k Q S o.dst)) (h2 : c = !w → WO P keep ops l (foot true [] [] fs) k Q (S.put o.dst 0 (.val undef) [])) :
    WG P keep (.val (.bool c)) w o ops l fs k Q S := by
  cases c <;> cases w <;> first | exact h1 rfl | exact h2 rfl
theorem KO_eq {d : Option Nat} {rd : List Nat} {n : Nat} {out : AV} {ch : Heap} : KO P keep ops l fs k Q S d rd n out ch = WO P keep ops l (foot true rd ch fs) k Q (S.put d n out ch) := (rfl)
theorem foot_t {rd : List Nat} {ch : Heap} : foot true rd ch fs = fs ++ [(rd, keys ch)] := (rfl)
theorem WS_nil : WS P keep ops [] k Q S = kont P keep k Q .normal S := (rfl)
theorem WS_none {d : Option Nat} {o : Op} {ty : TypeId} {p : String} {af : Array Edge} :
    WS P keep ops (⟨d, o, ty, p, af, none⟩ :: l) k Q S = srule P ⟨d, o, ty, p, af, none⟩ S (KS P keep ops l k Q S d) := (rfl)
theorem WS_some {d : Option Nat} {o : Op} {ty : TypeId} {p : String} {af : Array Edge} {j : Nat} {w : Bool} :
    WS P keep ops (⟨d, o, ty, p, af, some (j, w)⟩ :: l) k Q S = WSG P keep (gAV (get S.t) ops j) w ⟨d, o, ty, p, af, some (j, w)⟩ ops l k Q S := (rfl)
theorem WSG_tt {o : Oper} : WSG P keep (.val (.bool true)) true o ops l k Q S = srule P o S (KS P keep ops l k Q S o.dst) := (rfl)
theorem WSG_ff {o : Oper} : WSG P keep (.val (.bool false)) false o ops l k Q S = srule P o S (KS P keep ops l k Q S o.dst) := (rfl)
theorem WSG_tf {o : Oper} : WSG P keep (.val (.bool true)) false o ops l k Q S = WS P keep ops l k Q (S.set o.dst (.val undef) S.h S.nx) := (rfl)
theorem WSG_ft {o : Oper} : WSG P keep (.val (.bool false)) true o ops l k Q S = WS P keep ops l k Q (S.set o.dst (.val undef) S.h S.nx) := (rfl)
theorem WSG_undef {o : Oper} {w : Bool} : WSG P keep (.val undef) w o ops l k Q S = WS P keep ops l k Q (S.set o.dst (.val undef) S.h S.nx) := (rfl)
theorem WSG_split {o : Oper} {c w : Bool} (h1 : c = w → srule P o S (KS P keep ops l k Q S o.dst)) (h2 : c = !w → WS P keep ops l k Q (S.set o.dst (.val undef) S.h S.nx)) :
    WSG P keep (.val (.bool c)) w o ops l k Q S := by
  cases c <;> cases w <;> first | exact h1 rfl | exact h2 rfl
theorem KS_eq {d : Option Nat} {out : AV} {h : Heap} {nx : Nat} : KS P keep ops l k Q S d out h nx = WS P keep ops l k Q (S.set d out h nx) := (rfl)
theorem set_some {t : List (Nat × AV)} {i n n' : Nat} {out : AV} {h h' : Heap} : St.set ⟨t, h, n⟩ (some i) out h' n' = ⟨(i, out) :: t, h', n'⟩ := (rfl)
theorem set_none {t : List (Nat × AV)} {n n' : Nat} {out : AV} {h h' : Heap} : St.set ⟨t, h, n⟩ none out h' n' = ⟨t, h', n'⟩ := (rfl)
theorem KD_eq {K : SK} {rd : List Nat} {n : Nat} {out : AV} {ch : Heap} : KD S K rd n out ch = K out (ch ++ S.h) (S.nx + n) := (rfl)
section
variable {K : SK} {d : Option Nat} {ty T T2 U f i n : Nat} {p : String} {af : Array Edge} {g : Option (Nat × Bool)} {x y z : Operand} {op : BinOp} {uop : UnOp} {xs ys : Array Operand} {ts : Array TypeId} {fn : Go.Fn} {ps : Array (Nat × Operand)} {lo hi mx oo : Option Operand} {bb : Bool} {ik : IntKind} {jj : Int} {ss : ByteArray} {pp : Option Addr} {oom : Option Nat}
theorem q_move : srule P ⟨d, .move x, ty, p, af, g⟩ S K = arule P ⟨d, .move x, ty, p, af, g⟩ S (KD S K) := (rfl)
theorem q_assign : srule P ⟨d, .assign x, ty, p, af, g⟩ S K = arule P ⟨d, .assign x, ty, p, af, g⟩ S (KD S K) := (rfl)
theorem q_pick : srule P ⟨d, .pick x y z, ty, p, af, g⟩ S K = arule P ⟨d, .pick x y z, ty, p, af, g⟩ S (KD S K) := (rfl)
theorem q_extract : srule P ⟨d, .extract x i, ty, p, af, g⟩ S K = arule P ⟨d, .extract x i, ty, p, af, g⟩ S (KD S K) := (rfl)
theorem q_makeFunc : srule P ⟨d, .makeFunc fn xs ys, ty, p, af, g⟩ S K = arule P ⟨d, .makeFunc fn xs ys, ty, p, af, g⟩ S (KD S K) := (rfl)
theorem q_fieldAddr : srule P ⟨d, .fieldAddr T x f, ty, p, af, g⟩ S K = arule P ⟨d, .fieldAddr T x f, ty, p, af, g⟩ S (KD S K) := (rfl)
theorem q_load : srule P ⟨d, .load T x, ty, p, af, g⟩ S K = arule P ⟨d, .load T x, ty, p, af, g⟩ S (KD S K) := (rfl)
theorem q_store : srule P ⟨d, .store T x y, ty, p, af, g⟩ S K = arule P ⟨d, .store T x y, ty, p, af, g⟩ S (KD S K) := (rfl)
theorem q_box : srule P ⟨d, .box T x, ty, p, af, g⟩ S K = arule P ⟨d, .box T x, ty, p, af, g⟩ S (KD S K) := (rfl)
theorem q_alloc : srule P ⟨d, .alloc T, ty, p, af, g⟩ S K = arule P ⟨d, .alloc T, ty, p, af, g⟩ S (KD S K) := (rfl)
theorem q_indexAddr : srule P ⟨d, .indexAddr T x y, ty, p, af, g⟩ S K = arule P ⟨d, .indexAddr T x y, ty, p, af, g⟩ S (KD S K) := (rfl)
theorem q_unOp : srule P ⟨d, .unOp uop T x, ty, p, af, g⟩ S K = arule P ⟨d, .unOp uop T x, ty, p, af, g⟩ S (KD S K) := (rfl)
theorem q_bi_len : srule P ⟨d, .call ⟨.builtin .len, xs, ts⟩, ty, p, af, g⟩ S K = arule P ⟨d, .call ⟨.builtin .len, xs, ts⟩, ty, p, af, g⟩ S (KD S K) := (rfl)
theorem q_bi_max : srule P ⟨d, .call ⟨.builtin .max, xs, ts⟩, ty, p, af, g⟩ S K = arule P ⟨d, .call ⟨.builtin .max, xs, ts⟩, ty, p, af, g⟩ S (KD S K) := (rfl)
theorem q_bi_min : srule P ⟨d, .call ⟨.builtin .min, xs, ts⟩, ty, p, af, g⟩ S K = arule P ⟨d, .call ⟨.builtin .min, xs, ts⟩, ty, p, af, g⟩ S (KD S K) := (rfl)
theorem q_bi_append : srule P ⟨d, .call ⟨.builtin .append, xs, ts⟩, ty, p, af, g⟩ S K = arule P ⟨d, .call ⟨.builtin .append, xs, ts⟩, ty, p, af, g⟩ S (KD S K) := (rfl)
theorem q_bi_copy : srule P ⟨d, .call ⟨.builtin .copy, xs, ts⟩, ty, p, af, g⟩ S K = arule P ⟨d, .call ⟨.builtin .copy, xs, ts⟩, ty, p, af, g⟩ S (KD S K) := (rfl)
theorem q_bi_clear : srule P ⟨d, .call ⟨.builtin .clear, xs, ts⟩, ty, p, af, g⟩ S K = arule P ⟨d, .call ⟨.builtin .clear, xs, ts⟩, ty, p, af, g⟩ S (KD S K) := (rfl)
theorem q_bi_delete : srule P ⟨d, .call ⟨.builtin .delete, xs, ts⟩, ty, p, af, g⟩ S K = arule P ⟨d, .call ⟨.builtin .delete, xs, ts⟩, ty, p, af, g⟩ S (KD S K) := (rfl)
theorem q_build : srule P ⟨d, .build T ps, ty, p, af, g⟩ S K = arule P ⟨d, .build T ps, ty, p, af, g⟩ S (KD S K) := (rfl)
theorem q_buildSlice : srule P ⟨d, .buildSlice T n ps, ty, p, af, g⟩ S K = arule P ⟨d, .buildSlice T n ps, ty, p, af, g⟩ S (KD S K) := (rfl)
theorem q_makeSlice : srule P ⟨d, .makeSlice T x y, ty, p, af, g⟩ S K = arule P ⟨d, .makeSlice T x y, ty, p, af, g⟩ S (KD S K) := (rfl)
theorem q_index : srule P ⟨d, .index T x y, ty, p, af, g⟩ S K = arule P ⟨d, .index T x y, ty, p, af, g⟩ S (KD S K) := (rfl)
theorem q_convert : srule P ⟨d, .convert U T x, ty, p, af, g⟩ S K = arule P ⟨d, .convert U T x, ty, p, af, g⟩ S (KD S K) := (rfl)
theorem q_nilCheck : srule P ⟨d, .nilCheck x, ty, p, af, g⟩ S K = arule P ⟨d, .nilCheck x, ty, p, af, g⟩ S (KD S K) := (rfl)
theorem q_slice : srule P ⟨d, .slice T x lo hi mx, ty, p, af, g⟩ S K = arule P ⟨d, .slice T x lo hi mx, ty, p, af, g⟩ S (KD S K) := (rfl)
theorem q_range : srule P ⟨d, .range T x, ty, p, af, g⟩ S K = arule P ⟨d, .range T x, ty, p, af, g⟩ S (KD S K) := (rfl)
theorem q_next : srule P ⟨d, .next x bb, ty, p, af, g⟩ S K = arule P ⟨d, .next x bb, ty, p, af, g⟩ S (KD S K) := (rfl)
theorem q_entry : srule P ⟨d, .entry x, ty, p, af, g⟩ S K = arule P ⟨d, .entry x, ty, p, af, g⟩ S (KD S K) := (rfl)
theorem q_field : srule P ⟨d, .field T x f, ty, p, af, g⟩ S K = arule P ⟨d, .field T x f, ty, p, af, g⟩ S (KD S K) := (rfl)
theorem q_makeMap : srule P ⟨d, .makeMap T oo, ty, p, af, g⟩ S K = arule P ⟨d, .makeMap T oo, ty, p, af, g⟩ S (KD S K) := (rfl)
theorem q_lookup : srule P ⟨d, .lookup T x y bb, ty, p, af, g⟩ S K = arule P ⟨d, .lookup T x y bb, ty, p, af, g⟩ S (KD S K) := (rfl)
theorem q_mapUpdate : srule P ⟨d, .mapUpdate T x y z, ty, p, af, g⟩ S K = arule P ⟨d, .mapUpdate T x y z, ty, p, af, g⟩ S (KD S K) := (rfl)
theorem q_mapEntry : srule P ⟨d, .mapEntry T x y, ty, p, af, g⟩ S K = arule P ⟨d, .mapEntry T x y, ty, p, af, g⟩ S (KD S K) := (rfl)
theorem q_entryStore : srule P ⟨d, .entryStore T x y z, ty, p, af, g⟩ S K = arule P ⟨d, .entryStore T x y z, ty, p, af, g⟩ S (KD S K) := (rfl)
theorem q_makeInterface : srule P ⟨d, .makeInterface T x, ty, p, af, g⟩ S K = arule P ⟨d, .makeInterface T x, ty, p, af, g⟩ S (KD S K) := (rfl)
theorem q_typeAssert : srule P ⟨d, .typeAssert x T U bb, ty, p, af, g⟩ S K = arule P ⟨d, .typeAssert x T U bb, ty, p, af, g⟩ S (KD S K) := (rfl)
theorem q_bin_t : srule P ⟨d, .binOp op T x (.tmp i) T2, ty, p, af, g⟩ S K = arule P ⟨d, .binOp op T x (.tmp i) T2, ty, p, af, g⟩ S (KD S K) := (rfl)
theorem q_bin_g : srule P ⟨d, .binOp op T x (.global i) T2, ty, p, af, g⟩ S K = arule P ⟨d, .binOp op T x (.global i) T2, ty, p, af, g⟩ S (KD S K) := (rfl)
theorem q_bin_f : srule P ⟨d, .binOp op T x (.func i) T2, ty, p, af, g⟩ S K = arule P ⟨d, .binOp op T x (.func i) T2, ty, p, af, g⟩ S (KD S K) := (rfl)
theorem q_bin_i : srule P ⟨d, .binOp op T x (.const (.int ik jj)) T2, ty, p, af, g⟩ S K = arule P ⟨d, .binOp op T x (.const (.int ik jj)) T2, ty, p, af, g⟩ S (KD S K) := (rfl)
theorem q_bin_s : srule P ⟨d, .binOp op T x (.const (.string ss)) T2, ty, p, af, g⟩ S K = arule P ⟨d, .binOp op T x (.const (.string ss)) T2, ty, p, af, g⟩ S (KD S K) := (rfl)
theorem q_bin_b : srule P ⟨d, .binOp op T x (.const (.bool bb)) T2, ty, p, af, g⟩ S K = arule P ⟨d, .binOp op T x (.const (.bool bb)) T2, ty, p, af, g⟩ S (KD S K) := (rfl)
theorem q_bin_p : srule P ⟨d, .binOp op T x (.const (.pointer pp)) T2, ty, p, af, g⟩ S K = arule P ⟨d, .binOp op T x (.const (.pointer pp)) T2, ty, p, af, g⟩ S (KD S K) := (rfl)
theorem q_bin_n : srule P ⟨d, .binOp op T x (.const .nilFunc) T2, ty, p, af, g⟩ S K = arule P ⟨d, .binOp op T x (.const .nilFunc) T2, ty, p, af, g⟩ S (KD S K) := (rfl)
theorem q_bin_ni : srule P ⟨d, .binOp op T x (.const .nilIface) T2, ty, p, af, g⟩ S K = arule P ⟨d, .binOp op T x (.const .nilIface) T2, ty, p, af, g⟩ S (KD S K) := (rfl)
theorem q_bin_m : srule P ⟨d, .binOp op T x (.const (.map oom)) T2, ty, p, af, g⟩ S K = arule P ⟨d, .binOp op T x (.const (.map oom)) T2, ty, p, af, g⟩ S (KD S K) := (rfl)
theorem q_call : srule P ⟨d, .call ⟨.value x, xs, ts⟩, ty, p, af, g⟩ S K = sCall P (evalA (get S.t) x) (xs.toList.map (evalA (get S.t))) S K := (rfl)
theorem q_nil : srule P ⟨d, .binOp op T x (.const (.slice none 0 0)) T2, ty, p, af, g⟩ S K = sNil P T op (evalA (get S.t) x) S K := (rfl)
theorem q_cap {lx : List Operand} {lt : List Nat} : srule P ⟨d, .call ⟨.builtin .cap, (x :: lx).toArray, (T :: lt).toArray⟩, ty, p, af, g⟩ S K = sCap P T (evalA (get S.t) x) S K := (rfl)
end
variable {K : OK} {d : Option Nat} {ty T T2 f i id off j' n : Nat} {p : String} {af : Array Edge} {g : Option (Nat × Bool)} {x y z : Operand} {v u c : AV} {op : BinOp} {uop : UnOp} {xs ys : Array Operand} {ts : Array TypeId} {fn : Go.Fn} {cs : List AV} {es sp : List (List AV)} {b b' : Bool} {ik ik' : IntKind} {a1 a2 : Int} {s1 s2 : ByteArray} {H : Heap} {t : TI} {τ : Nat → AV}

theorem r_move : arule P ⟨d, .move x, ty, p, af, g⟩ S K = K [] 0 (evalA (get S.t) x) [] := (rfl)
theorem r_assign : arule P ⟨d, .assign x, ty, p, af, g⟩ S K = K [] 0 (evalA (get S.t) x) [] := (rfl)
theorem r_pick : arule P ⟨d, .pick x y z, ty, p, af, g⟩ S K = aPick (evalA (get S.t) x) (evalA (get S.t) y) (evalA (get S.t) z) K := (rfl)
theorem r_extract : arule P ⟨d, .extract x i, ty, p, af, g⟩ S K = aExtract (evalA (get S.t) x) i K := (rfl)
theorem r_makeFunc : arule P ⟨d, .makeFunc fn xs ys, ty, p, af, g⟩ S K = K [] 0 (.clo fn (xs.toList.map (evalA (get S.t))) (ys.toList.map (evalA (get S.t)))) [] := (rfl)
theorem r_fieldAddr : arule P ⟨d, .fieldAddr T x f, ty, p, af, g⟩ S K = aField ((ti P T).flds[f]?) (evalA (get S.t) x) K := (rfl)
theorem r_load : arule P ⟨d, .load T x, ty, p, af, g⟩ S K = aLoad (ti P T) (evalA (get S.t) x) S.h K := (rfl)
theorem r_store : arule P ⟨d, .store T x y, ty, p, af, g⟩ S K = aStore (ti P T) (evalA (get S.t) x) (evalA (get S.t) y) S.h K := (rfl)
theorem r_box : arule P ⟨d, .box T x, ty, p, af, g⟩ S K = ((cellsOf (evalA (get S.t) x)).all AV.one = true ∧ K [] 1 (.ref S.nx 0 0) [(S.nx, some (.cells false [cellsOf (evalA (get S.t) x)]))]) := (rfl)
theorem r_alloc : arule P ⟨d, .alloc T, ty, p, af, g⟩ S K = ((ti P T).known = true ∧ zeroKnown P T = true ∧ (ti P T).zero.all AV.one = true ∧ K [] 1 (.ref S.nx 0 0) [(S.nx, some (.cells false [(ti P T).zero]))]) := (rfl)
theorem r_indexAddr : arule P ⟨d, .indexAddr T x y, ty, p, af, g⟩ S K = aIndex (ti P T) (ti P (ti P T).elem) (evalA (get S.t) x) (evalA (get S.t) y) S.h K := (rfl)
theorem r_binOp : arule P ⟨d, .binOp op T x y T2, ty, p, af, g⟩ S K = (aBin (ti P T) op (evalA (get S.t) x) (evalA (get S.t) y) K ∨ aNil (ti P T).kind op (evalA (get S.t) x) (evalA (get S.t) y) K) := (rfl)
theorem r_unOp : arule P ⟨d, .unOp uop T x, ty, p, af, g⟩ S K = aUn uop (evalA (get S.t) x) K := (rfl)
theorem r_call : arule P ⟨d, .call ⟨.value x, xs, ts⟩, ty, p, af, g⟩ S K = aCall P (evalA (get S.t) x) (xs.toList.map (evalA (get S.t))) S K := (rfl)
theorem r_len {l : List Operand} {m : List Nat} : arule P ⟨d, .call ⟨.builtin .len, (x :: l).toArray, (T :: m).toArray⟩, ty, p, af, g⟩ S K = aLen (ti P T) (evalA (get S.t) x) K := (rfl)

theorem r_max {ts : Array TypeId} : arule P ⟨d, .call ⟨.builtin .max, #[x, y], ts⟩, ty, p, af, g⟩ S K = aMax (evalA (get S.t) x) (evalA (get S.t) y) K := (rfl)
theorem r_min {ts : Array TypeId} : arule P ⟨d, .call ⟨.builtin .min, #[x, y], ts⟩, ty, p, af, g⟩ S K = aMin (evalA (get S.t) x) (evalA (get S.t) y) K := (rfl)
theorem r_append {U : Nat} : arule P ⟨d, .call ⟨.builtin .append, #[x, y], #[T, U]⟩, ty, p, af, g⟩ S K = aAppend (ti P T) (ti P U) (ti P (ti P T).elem) (zeroKnown P (ti P T).elem) (evalA (get S.t) x) (evalA (get S.t) y) S.h S.nx K := (rfl)
theorem r_build {parts : List (Nat × Operand)} : arule P ⟨d, .build T parts.toArray, ty, p, af, g⟩ S K = aBuild P T (parts.map fun p => (p.1, evalA (get S.t) p.2)) K := (rfl)
theorem r_buildSlice {parts : List (Nat × Operand)} : arule P ⟨d, .buildSlice T n parts.toArray, ty, p, af, g⟩ S K = aBuildX P T n (parts.map fun p => (p.1, evalA (get S.t) p.2)) S.nx K := (rfl)
theorem r_makeSlice : arule P ⟨d, .makeSlice T x y, ty, p, af, g⟩ S K = aMake P T (evalA (get S.t) x) (evalA (get S.t) y) S.nx K := (rfl)

theorem e_tmp : evalA τ (.tmp i) = τ i := (rfl)
theorem e_int : evalA τ (.const (.int ik a1)) = .val (.int ik a1) := (rfl)
theorem e_bool : evalA τ (.const (.bool b)) = .val (.bool b) := (rfl)
theorem e_string : evalA τ (.const (.string s1)) = .val (.string s1) := (rfl)
theorem e_nil : evalA τ (.const (.slice none 0 0)) = .sl true [] [] := (rfl)
theorem e_func : evalA τ (.func i) = .clo (.func i) [] [] := (rfl)

theorem l_pick_t : aPick (.val (.bool true)) v u K = K [] 0 v [] := (rfl)
theorem l_pick_f : aPick (.val (.bool false)) v u K = K [] 0 u [] := (rfl)
theorem l_pick : aPick (.val (.bool b)) v u K = K [] 0 (if b then v else u) [] := (rfl)
theorem l_field_ref {o : Nat} : aField (some (some o)) (.ref id i off) K = K [] 0 (.ref id i (off + o)) [] := (rfl)
theorem l_field_fptr {o : Nat} : aField (some (some o)) (.fptr cs) K = K [] 0 (.fptr (cs.drop o)) [] := (rfl)
def aLoadR (t : TI) (id : Nat) (q : Option (List AV)) (K : OK) : Prop := match q with
  | some cs => match pack t.agg cs with | some y => t.known = true ∧ K [id] 0 y [] | none => False
  | none => False
def aLoadP (t : TI) (rd : List Nat) (q : Option AV) (K : OK) : Prop := match q with
  | some y => t.known = true ∧ K rd 0 y []
  | none => False
theorem l_load_ref : aLoad t (.ref id i off) H K = aLoadR t id (obAt (hget H id) i off t.sz) K := (rfl)
theorem l_loadR : aLoadR t id (some cs) K = aLoadP t [id] (pack t.agg cs) K := (rfl)
theorem l_load_fptr (h : t.sz ≤ cs.length) : aLoad t (.fptr cs) H K = aLoadP t [] (pack t.agg (cs.take t.sz)) K := by
  simp only [aLoad, if_pos h]; rfl
theorem l_loadP {rd : List Nat} : aLoadP t rd (some v) K = (t.known = true ∧ K rd 0 v []) := (rfl)
theorem pack_t : pack true cs = some (.agg cs) := (rfl)
theorem pack_f : pack false [v] = some v := (rfl)
def obAtR (q : Option (List AV)) (off n : Nat) : Option (List AV) := match q with
  | some cs => if off + n ≤ cs.length then some ((cs.drop off).take n) else none
  | none => none
theorem obAt_some : obAt (some (.cells b es)) i off n = obAtR es[i]? off n := (rfl)
theorem obAtR_some (h : off + n ≤ cs.length) : obAtR (some cs) off n = some ((cs.drop off).take n) := by simp [obAtR, h]
def aStoreR (t : TI) (id i off : Nat) (new : List AV) (es : List (List AV)) (q : Option (List AV)) (K : OK) : Prop := match q with
  | some cs => t.known = true ∧ 0 < t.sz ∧ off + t.sz ≤ cs.length ∧ new.length = t.sz ∧ new.all AV.one = true ∧ K [id] 0 (.val undef) [(id, some (.cells false (es.set i (splice cs off new))))]
  | none => False
def aStoreO (t : TI) (id i off : Nat) (new : List AV) (q : Option Ob) (K : OK) : Prop := match q with
  | some (.cells false es) => aStoreR t id i off new es es[i]? K
  | _ => False
theorem l_store : aStore t (.ref id i off) v H K = aStoreO t id i off (cellsOf v) (hget H id) K := (rfl)
theorem l_storeO {new : List AV} : aStoreO t id i off new (some (.cells false es)) K = aStoreR t id i off new es es[i]? K := (rfl)
theorem l_storeR {new : List AV} : aStoreR t id i off new es (some cs) K =
  (t.known = true ∧ 0 < t.sz ∧ off + t.sz ≤ cs.length ∧ new.length = t.sz ∧ new.all AV.one = true ∧ K [id] 0 (.val undef) [(id, some (.cells false (es.set i (splice cs off new))))]) := (rfl)
def aIndexF (e : TI) (q : Option (List AV)) (K : OK) : Prop := match q with
  | some cs => e.sz = cs.length ∧ K [] 0 (.fptr cs) []
  | none => False
def aIndexR (e : TI) (id i : Nat) (q : Option (List AV)) (K : OK) : Prop := match q with
  | some cs => e.sz = cs.length ∧ K [id] 0 (.ref id i 0) []
  | none => False
def aIndexO (e : TI) (id i : Nat) (q : Option Ob) (K : OK) : Prop := match q with
  | some (.cells _ es) => aIndexR e id i es[i]? K
  | _ => False
theorem l_index_sl {e : TI} : aIndex t e (.sl b es sp) (.val (.int ik a1)) H K = (t.kind = 1 ∧ e.known = true ∧ 0 ≤ a1 ∧ aIndexF e es[a1.toNat]? K) := (rfl)
theorem l_index_rsl {e : TI} : aIndex t e (.rsl id i n) (.val (.int ik a1)) H K = (t.kind = 1 ∧ e.known = true ∧ 0 ≤ a1 ∧ a1 < n ∧ aIndexO e id (i + a1.toNat) (hget H id) K) := (rfl)
theorem l_indexF {e : TI} : aIndexF e (some cs) K = (e.sz = cs.length ∧ K [] 0 (.fptr cs) []) := (rfl)
theorem l_indexR {e : TI} : aIndexR e id i (some cs) K = (e.sz = cs.length ∧ K [id] 0 (.ref id i 0) []) := (rfl)
theorem l_indexO {e : TI} : aIndexO e id i (some (.cells b es)) K = aIndexR e id i es[i]? K := (rfl)
theorem l_len_sl : aLen t (.sl b es sp) K = (t.kind = 1 ∧ K [] 0 (.val (.int .i64 es.length)) []) := (rfl)
theorem l_len_rsl : aLen t (.rsl id i n) K = (t.kind = 1 ∧ K [] 0 (.val (.int .i64 n)) []) := (rfl)
theorem l_len_str : aLen t (.val (.string s1)) K = (t.kind = 2 ∧ K [] 0 (.val (.int .i64 s1.size)) []) := (rfl)
theorem l_bin_i : aBin t op (.val (.int ik a1)) (.val (.int ik' a2)) K = (ik = ik' ∧ aBinI op ik a1 a2 K) := (rfl)
theorem l_bin_s : aBin t op (.val (.string s1)) (.val (.string s2)) K = aBinS op s1 s2 K := (rfl)
theorem l_bin_b : aBin t op (.val (.bool b)) (.val (.bool b')) K = aBinB t op b b' K := (rfl)
theorem l_not : aUn .not (.val (.bool b)) K = K [] 0 (.val (.bool (!b))) [] := (rfl)
theorem l_neg : aUn .neg (.val (.int ik a1)) K = K [] 0 (.val (.int ik (ik.wrap (0 - a1)))) [] := (rfl)
theorem l_add : aBinI .add ik a1 a2 K = K [] 0 (.val (.int ik (ik.wrap (a1 + a2)))) [] := (rfl)
theorem l_sub : aBinI .sub ik a1 a2 K = K [] 0 (.val (.int ik (ik.wrap (a1 - a2)))) [] := (rfl)
theorem l_mul : aBinI .mul ik a1 a2 K = K [] 0 (.val (.int ik (ik.wrap (a1 * a2)))) [] := (rfl)
theorem l_quo : aBinI .quo ik a1 a2 K = (a2 ≠ 0 ∧ K [] 0 (.val (.int ik (ik.wrap (a1.tdiv a2)))) []) := (rfl)
theorem l_rem : aBinI .rem ik a1 a2 K = (a2 ≠ 0 ∧ K [] 0 (.val (.int ik (a1.tmod a2))) []) := (rfl)
theorem l_eql : aBinI .eql ik a1 a2 K = K [] 0 (.val (.bool (decide (a1 = a2)))) [] := (rfl)
theorem l_neq : aBinI .neq ik a1 a2 K = K [] 0 (.val (.bool (!decide (a1 = a2)))) [] := (rfl)
theorem l_lss : aBinI .lss ik a1 a2 K = K [] 0 (.val (.bool (decide (a1 < a2)))) [] := (rfl)
theorem l_leq : aBinI .leq ik a1 a2 K = K [] 0 (.val (.bool (decide (a1 ≤ a2)))) [] := (rfl)
theorem l_gtr : aBinI .gtr ik a1 a2 K = K [] 0 (.val (.bool (decide (a1 > a2)))) [] := (rfl)
theorem l_geq : aBinI .geq ik a1 a2 K = K [] 0 (.val (.bool (decide (a1 ≥ a2)))) [] := (rfl)
theorem l_seql : aBinS .eql s1 s2 K = K [] 0 (.val (.bool (decide (s1 = s2)))) [] := (rfl)
theorem l_sneq : aBinS .neq s1 s2 K = K [] 0 (.val (.bool (!decide (s1 = s2)))) [] := (rfl)
theorem l_slss : aBinS .lss s1 s2 K = K [] 0 (.val (.bool (strLt s1 s2))) [] := (rfl)
theorem l_sleq : aBinS .leq s1 s2 K = K [] 0 (.val (.bool (strLt s1 s2 || decide (s1 = s2)))) [] := (rfl)
theorem l_sgtr : aBinS .gtr s1 s2 K = K [] 0 (.val (.bool (!(strLt s1 s2 || decide (s1 = s2))))) [] := (rfl)
theorem l_sgeq : aBinS .geq s1 s2 K = K [] 0 (.val (.bool (!strLt s1 s2))) [] := (rfl)
theorem l_beql : aBinB t .eql b b' K = (t.kind = 9 ∧ K [] 0 (.val (.bool (b == b'))) []) := (rfl)
theorem l_bneq : aBinB t .neq b b' K = (t.kind = 9 ∧ K [] 0 (.val (.bool (!(b == b')))) []) := (rfl)
theorem l_extract {vs : List AV} : aExtract (.tup vs) i K = (match vs[i]? with | some y => K [] 0 y [] | none => False) := (rfl)
theorem c_agg : cellsOf (.agg cs) = cs := (rfl)
theorem c_val {w : Value} : cellsOf (.val w) = [.val w] := (rfl)
theorem c_sl : cellsOf (.sl b es sp) = [.sl b es sp] := (rfl)
theorem c_rsl : cellsOf (.rsl id i n) = [.rsl id i n] := (rfl)
theorem c_ref : cellsOf (.ref id i off) = [.ref id i off] := (rfl)
theorem c_clo : cellsOf (.clo fn cs []) = [.clo fn cs []] := (rfl)
theorem o_int : AV.one (.val (.int ik a1)) = true := (rfl)
theorem o_string : AV.one (.val (.string s1)) = true := (rfl)
theorem o_bool : AV.one (.val (.bool b)) = true := (rfl)
theorem o_sl : AV.one (.sl b es sp) = true := (rfl)
theorem o_rsl : AV.one (.rsl id i n) = true := (rfl)
theorem o_ref : AV.one (.ref id i off) = true := (rfl)
theorem o_fptr : AV.one (.fptr cs) = true := (rfl)
theorem o_clo {ds : List AV} : AV.one (.clo fn cs ds) = true := (rfl)
theorem get_cons : get ((i, v) :: S.t) id = if id = i then v else get S.t id := (rfl)
theorem get_cons' {r : List (Nat × AV)} : get ((i, v) :: r) id = if id = i then v else get r id := (rfl)
theorem get_nil : get [] id = .any := (rfl)
theorem gc_nil : gc keep [] = [] := (rfl)
theorem gc_cons {r : List (Nat × AV)} : gc keep ((i, v) :: r) = if keep.contains i then (i, v) :: gc keep r else gc keep r := (rfl)
theorem put_some {out : AV} {ch : Heap} : S.put (some i) n out ch = ⟨(i, out) :: S.t, ch ++ S.h, S.nx + n⟩ := (rfl)
theorem put_none {out : AV} {ch : Heap} : S.put none n out ch = ⟨S.t, ch ++ S.h, S.nx + n⟩ := (rfl)
theorem gAV_eq {d' : Nat} (h : gdst ops i = some d') : gAV τ ops i = τ d' := by simp [gAV, h]
theorem gAV_def : gAV τ ops i = (match gdst ops i with | some d => τ d | none => .val undef) := (rfl)

theorem l_max : aMax (.val (.int ik a1)) (.val (.int ik' a2)) K = K [] 0 (.val (.int ik (if a2 > a1 then a2 else a1))) [] := (rfl)
theorem l_min : aMin (.val (.int ik a1)) (.val (.int ik' a2)) K = K [] 0 (.val (.int ik (if a2 < a1 then a2 else a1))) [] := (rfl)
theorem fillA_nil {pl : Nat → Option (Nat × Nat)} : fillA pl [] cs = some cs := (rfl)
def fillR (pl : Nat → Option (Nat × Nat)) (q : Option (Nat × Nat)) (x : AV) (r : List (Nat × AV)) (cs : List AV) : Option (List AV) := match q with
  | some (off, n) => if (cellsOf x).all AV.one = true ∧ (cellsOf x).length = n ∧ off + n ≤ cs.length then fillA pl r (splice cs off (cellsOf x)) else none
  | none => none
theorem fillA_cons {pl : Nat → Option (Nat × Nat)} {x : AV} {r : List (Nat × AV)} : fillA pl ((i, x) :: r) cs = fillR pl (pl i) x r cs := (rfl)
theorem fillR_some {pl : Nat → Option (Nat × Nat)} {x : AV} {r : List (Nat × AV)} : fillR pl (some (off, n)) x r cs = if (cellsOf x).all AV.one = true ∧ (cellsOf x).length = n ∧ off + n ≤ cs.length then fillA pl r (splice cs off (cellsOf x)) else none := (rfl)
def placeR (n : Nat) (q : Option (Option Nat)) : Option (Nat × Nat) := match q with
  | some (some off) => some (off, n)
  | _ => none
theorem place_eq : placeOf t i = placeR (t.fszs.getD i 0) t.flds[i]? := (rfl)
theorem placeR_some : placeR n (some (some off)) = some (off, n) := (rfl)
def aBuildR (K : OK) (q : Option (List AV)) : Prop := match q with
  | some cs => K [] 0 (.agg cs) []
  | none => False
theorem l_build {parts : List (Nat × AV)} : aBuild P T parts K = ((ti P T).kind = 3 ∧ zeroKnown P T = true ∧ (ti P T).zero.all AV.one = true ∧ aBuildR K (fillA (placeOf (ti P T)) parts (ti P T).zero)) := (rfl)
theorem l_buildR : aBuildR K (some cs) = K [] 0 (.agg cs) [] := (rfl)
def aBuildSliceR (nx len sz : Nat) (K : OK) (q : Option (List AV)) : Prop := match q with
  | some cs => K [] 1 (.rsl nx 0 len) [(nx, some (.cells false (chunks sz len cs)))]
  | none => False
theorem l_buildSlice {nx : Nat} {parts : List (Nat × AV)} : aBuildSlice P T n parts nx K = ((ti P T).kind = 1 ∧ (ti P (ti P T).elem).known = true ∧ zeroKnown P (ti P T).elem = true ∧ (ti P (ti P T).elem).zero.all AV.one = true ∧ (ti P (ti P T).elem).zero.length = (ti P (ti P T).elem).sz ∧
  0 < n * (ti P (ti P T).elem).sz ∧ n * (ti P (ti P T).elem).sz ≤ 16777216 ∧
  aBuildSliceR nx n (ti P (ti P T).elem).sz K (fillA (fun i => some (i * (ti P (ti P T).elem).sz, (ti P (ti P T).elem).sz)) parts (rep0 n (ti P (ti P T).elem).zero))) := (rfl)
theorem l_buildSliceR {nx sz : Nat} : aBuildSliceR nx n sz K (some cs) = K [] 1 (.rsl nx 0 n) [(nx, some (.cells false (chunks sz n cs)))] := (rfl)
theorem l_make {nx : Nat} : aMake P T (.val (.int ik a1)) (.val (.int ik' a2)) nx K = ((ti P T).kind = 1 ∧ (ti P (ti P T).elem).known = true ∧ zeroKnown P (ti P T).elem = true ∧ (ti P (ti P T).elem).zero.all AV.one = true ∧
    (ti P (ti P T).elem).zero.length = (ti P (ti P T).elem).sz ∧ 0 < (ti P (ti P T).elem).bytes ∧ 0 < (ti P (ti P T).elem).sz ∧ 0 ≤ a1 ∧ a1 ≤ a2 ∧ a2 * (ti P (ti P T).elem).bytes ≤ 281474976710656 ∧
    K [] 1 (.rsl nx 0 a1.toNat) [(nx, some (.cells false (List.replicate a2.toNat (ti P (ti P T).elem).zero)))]) := (rfl)
def aAppendP (e : TI) (s x : AV) (H : Heap) (nx : Nat) (K : OK) (q : Option (List (List AV))) : Prop := match q with
  | some new => (∀ c ∈ new, c.length = e.sz) ∧ aAppendS e new s (slIds x) H nx K
  | none => False
theorem l_append {u e : TI} {zk : Bool} {s x : AV} {nx : Nat} : aAppend t u e zk s x H nx K = ((t.kind = 1 ∧ u.kind = 1 ∧ e.known = true ∧ zk = true ∧ e.zero.all AV.one = true ∧ e.zero.length = e.sz ∧ 0 < e.sz ∧ 0 < e.bytes) ∧ aAppendP e s x H nx K (slV (hget H) x)) := (rfl)
theorem l_appendP {e : TI} {s x : AV} {nx : Nat} {new : List (List AV)} : aAppendP e s x H nx K (some new) = ((∀ c ∈ new, c.length = e.sz) ∧ aAppendS e new s (slIds x) H nx K) := (rfl)
theorem l_appendS_sl {e : TI} {nx : Nat} {new : List (List AV)} {ids : List Nat} : aAppendS e new (.sl true es []) ids H nx K = ((∀ c ∈ es, c.length = e.sz) ∧ (new = [] → es = []) ∧ (es.length + new.length) * e.bytes ≤ 140737488355328 ∧ K ids 1 (.rsl nx 0 (es.length + new.length)) [(nx, some (.cells false (es ++ new)))]) := (rfl)
def aAppendO (e : TI) (new : List (List AV)) (id i n : Nat) (ids : List Nat) (nx : Nat) (K : OK) (q : Option Ob) : Prop := match q with
  | some (.cells false es) => i + n ≤ es.length ∧ (∀ c ∈ es, c.length = e.sz) ∧ (n + new.length = 0 → es = []) ∧ (n + new.length) * e.bytes ≤ 140737488355328 ∧
      K (id :: ids) 1 (.rsl nx 0 (n + new.length)) [(nx, some (.cells false ((es.drop i).take n ++ new))), (id, none)]
  | _ => False
theorem l_appendS_rsl {e : TI} {nx : Nat} {new : List (List AV)} {ids : List Nat} : aAppendS e new (.rsl id i n) ids H nx K = aAppendO e new id i n ids nx K (hget H id) := (rfl)
theorem l_appendO {e : TI} {nx : Nat} {new : List (List AV)} {ids : List Nat} : aAppendO e new id i n ids nx K (some (.cells false es)) = (i + n ≤ es.length ∧ (∀ c ∈ es, c.length = e.sz) ∧ (n + new.length = 0 → es = []) ∧ (n + new.length) * e.bytes ≤ 140737488355328 ∧
      K (id :: ids) 1 (.rsl nx 0 (n + new.length)) [(nx, some (.cells false ((es.drop i).take n ++ new))), (id, none)]) := (rfl)
theorem slV_sl : slV (hget H) (.sl b es sp) = some es := (rfl)
def slVR (i n : Nat) (q : Option Ob) : Option (List (List AV)) := match q with
  | some (.cells _ es) => if i + n ≤ es.length then some ((es.drop i).take n) else none
  | _ => none
theorem slV_rsl : slV (hget H) (.rsl id i n) = slVR i n (hget H id) := (rfl)
theorem slVR_some (h : i + n ≤ es.length) : slVR i n (some (.cells b es)) = some ((es.drop i).take n) := by simp [slVR, h]
theorem slIds_sl : slIds (.sl b es sp) = [] := (rfl)
theorem slIds_rsl : slIds (.rsl id i n) = [id] := (rfl)
theorem chunks_zero {sz : Nat} : chunks sz 0 cs = [] := (rfl)
theorem chunks_succ {sz : Nat} : chunks sz (n + 1) cs = cs.take sz :: chunks sz n (cs.drop sz) := (rfl)
theorem chunks_one {sz : Nat} : chunks sz 1 cs = [cs.take sz] := (rfl)
theorem chunks_two {sz : Nat} : chunks sz 2 cs = [cs.take sz, (cs.drop sz).take sz] := (rfl)
theorem rep0_one {z : List AV} : rep0 1 z = z ++ [] := (rfl)
theorem rep0_two {z : List AV} : rep0 2 z = z ++ (z ++ []) := (rfl)

end
end Go.Bw
