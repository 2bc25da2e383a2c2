/- The rules together; the walk as data, a step an equation. -/
import Derived.Test.YtldlldamnliejaaAw18
namespace Go.Aw
open Go

def arule (P : Program) : Rules := fun o S K => match o.op with
  | .move x => K [] 0 (evalA (get S.t) x) []
  | .assign x => K [] 0 (evalA (get S.t) x) []
  | .pick c x y => aPick (evalA (get S.t) c) (evalA (get S.t) x) (evalA (get S.t) y) K
  | .extract x i => aExtract (evalA (get S.t) x) i K
  | .makeFunc fn xs ys => K [] 0 (.clo fn (xs.toList.map (evalA (get S.t))) (ys.toList.map (evalA (get S.t)))) []
  | .fieldAddr T x f => aField ((ti P T).flds[f]?) (evalA (get S.t) x) K
  | .load T x => aLoad (ti P T) (evalA (get S.t) x) S.h K
  | .store T x y => aStore (ti P T) (evalA (get S.t) x) (evalA (get S.t) y) S.h K
  | .box _ x => (cellsOf (evalA (get S.t) x)).all AV.one = true ∧ K [] 1 (.ref S.nx 0 0) [(S.nx, some (false, [cellsOf (evalA (get S.t) x)]))]
  | .alloc T => (ti P T).known = true ∧ zeroKnown P T = true ∧ (ti P T).zero.all AV.one = true ∧ K [] 1 (.ref S.nx 0 0) [(S.nx, some (false, [(ti P T).zero]))]
  | .indexAddr T x y => aIndex (ti P T) (ti P (ti P T).elem) (evalA (get S.t) x) (evalA (get S.t) y) S.h K
  | .binOp op T x y _ => aBin (ti P T) op (evalA (get S.t) x) (evalA (get S.t) y) K
  | .unOp op _ x => aUn op (evalA (get S.t) x) K
  | .call ⟨.value x, xs, _⟩ => aCall P (evalA (get S.t) x) (xs.toList.map (evalA (get S.t))) S K
  | .call ⟨.builtin .len, xs, ts⟩ => match xs[0]?, ts[0]? with
    | some x, some T => aLen (ti P T) (evalA (get S.t) x) K
    | _, _ => False
  | .call ⟨.builtin .max, xs, _⟩ => match xs.toList with
    | [x, y] => aMax (evalA (get S.t) x) (evalA (get S.t) y) K
    | _ => False
  | .call ⟨.builtin .min, xs, _⟩ => match xs.toList with
    | [x, y] => aMin (evalA (get S.t) x) (evalA (get S.t) y) K
    | _ => False
  | .call ⟨.builtin .append, xs, ts⟩ => match xs.toList, ts.toList with
    | [x, y], [T, U] => aAppend (ti P T) (ti P U) (ti P (ti P T).elem) (zeroKnown P (ti P T).elem) (evalA (get S.t) x) (evalA (get S.t) y) S.h S.nx K
    | _, _ => False
  | .build T parts => aBuild P T (parts.toList.map fun p => (p.1, evalA (get S.t) p.2)) K
  | .buildSlice T len parts => aBuildSlice P T len (parts.toList.map fun p => (p.1, evalA (get S.t) p.2)) S.nx K
  | .makeSlice T x y => aMake P T (evalA (get S.t) x) (evalA (get S.t) y) S.nx K
  | _ => False

theorem arule_sound (P : Program) : Sound P (arule P) := by
  intro o S K h
  unfold arule at h
  split at h
  · rename_i ho; exact s_move (.inl ho) h
  · rename_i ho; exact s_move (.inr ho) h
  · rename_i ho; exact s_pick ho h
  · rename_i ho; exact s_extract ho h
  · rename_i ho; exact s_makeFunc ho h
  · rename_i ho; exact s_fieldAddr ho h
  · rename_i ho; exact s_load ho h
  · rename_i ho; exact s_store ho h
  · rename_i ho; exact s_box ho h
  · rename_i ho; exact s_alloc ho h
  · rename_i ho; exact s_index ho h
  · rename_i ho; exact s_bin ho h
  · rename_i ho; exact s_un ho h
  · rename_i ho; exact s_call ho h
  · rename_i ho
    split at h
    · rename_i h1 h2; exact s_len ho h1 h2 h
    · exact h.elim
  · rename_i ho
    split at h
    · rename_i h1; exact s_max ho h1 h
    · exact h.elim
  · rename_i ho
    split at h
    · rename_i h1; exact s_min ho h1 h
    · exact h.elim
  · rename_i ho
    split at h
    · rename_i h1 h2; exact s_append ho h1 h2 h
    · exact h.elim
  · rename_i ho; exact s_build ho h
  · rename_i ho; exact s_buildSlice ho h
  · rename_i ho; exact s_make ho h
  · exact h.elim

inductive Fr where
  | seq (b : Code)
  | block (id : Nat)
  | loop (J : St → Prop)

section
variable (P : Program) (n0 : Nat) (keep : List Nat)

def kont : List Fr → (Exit → St → Prop) → Exit → St → Prop
  | [], Q => Q
  | .seq b :: r, Q => fun e S => match e with | .normal => awp P (arule P) n0 keep b (kont r Q) S | e => kont r Q e S
  | .block id :: r, Q => fun e S => match e with | .exit j => if j = id then kont r Q .normal S else kont r Q e S | e => kont r Q e S
  | .loop J :: r, Q => fun e S => match e with | .normal => J S | e => kont r Q e S

def W (c : Code) (k : List Fr) (Q : Exit → St → Prop) (S : St) : Prop := awp P (arule P) n0 keep c (kont P n0 keep k Q) S
/-- The operations that are left of a region. -/
def WO (dr : Bool) (ops : Array Oper) (l : List Oper) (fs : List Foot) (k : List Fr) (Q : Exit → St → Prop) (S : St) : Prop :=
  aops (arule P) dr ops l fs S (endR P dr ops (kont P n0 keep k Q))
def KO (dr : Bool) (ops : Array Oper) (l : List Oper) (fs : List Foot) (k : List Fr) (Q : Exit → St → Prop) (S : St) (d : Option Nat) (rd : List Nat) (n : Nat) (out : AV) (ch : Heap) : Prop :=
  WO P n0 keep dr ops l (foot dr rd ch fs) k Q (S.put d n out ch)
def WG (g : AV) (want : Bool) (o : Oper) (dr : Bool) (ops : Array Oper) (l : List Oper) (fs : List Foot) (k : List Fr) (Q : Exit → St → Prop) (S : St) : Prop :=
  match g with
  | .val (.bool b) => if b = want then arule P o S (KO P n0 keep dr ops l fs k Q S o.dst) else WO P n0 keep dr ops l (foot dr [] [] fs) k Q (S.put o.dst 0 (.val undef) [])
  | .val (.tuple _) => WO P n0 keep dr ops l (foot dr [] [] fs) k Q (S.put o.dst 0 (.val undef) [])
  | _ => False
def WC (g : AV) (a b : Code) (k : List Fr) (Q : Exit → St → Prop) (S : St) : Prop :=
  match g with
  | .val (.bool c) => if c then W P n0 keep a k Q S else W P n0 keep b k Q S
  | _ => False

variable {P n0 keep}
variable {k : List Fr} {Q : Exit → St → Prop} {S : St} {ops : Array Oper} {l : List Oper} {fs : List Foot} {dr : Bool}

theorem W_seq {a b : Code} : W P n0 keep (.seq a b) k Q S = W P n0 keep a (.seq b :: k) Q S := (rfl)
theorem W_block {i : Nat} {a : Code} : W P n0 keep (.block i a) k Q S = W P n0 keep a (.block i :: k) Q S := (rfl)
theorem W_region {i : Nat} : W P n0 keep (.region i ops dr) k Q S = WO P n0 keep dr ops ops.toList [] k Q ⟨gc keep S.t, S.h, S.nx⟩ := (rfl)
theorem W_skip : W P n0 keep .skip k Q S = kont P n0 keep k Q .normal S := (rfl)
theorem W_exit {i : Nat} : W P n0 keep (.exit i) k Q S = kont P n0 keep k Q (.exit i) S := (rfl)
theorem W_ret : W P n0 keep .ret k Q S = kont P n0 keep k Q .ret S := (rfl)
theorem W_cond {c : Operand} {a b : Code} : W P n0 keep (.cond c a b) k Q S = WC P n0 keep (evalA (get S.t) c) a b k Q S := (rfl)
theorem WC_true {a b : Code} : WC P n0 keep (.val (.bool true)) a b k Q S = W P n0 keep a k Q S := (rfl)
theorem WC_false {a b : Code} : WC P n0 keep (.val (.bool false)) a b k Q S = W P n0 keep b k Q S := (rfl)
theorem WC_split {a b : Code} {c : Bool} (h1 : c = true → W P n0 keep a k Q S) (h2 : c = false → W P n0 keep b k Q S) : WC P n0 keep (.val (.bool c)) a b k Q S := by
  cases c
  · exact h2 rfl
  · exact h1 rfl
theorem kont_nil {e : Exit} : kont P n0 keep [] Q e S = Q e S := (rfl)
theorem kont_seq {b : Code} : kont P n0 keep (.seq b :: k) Q .normal S = W P n0 keep b k Q S := (rfl)
theorem kont_seq_ret {b : Code} : kont P n0 keep (.seq b :: k) Q .ret S = kont P n0 keep k Q .ret S := (rfl)
theorem kont_seq_exit {b : Code} {i : Nat} : kont P n0 keep (.seq b :: k) Q (.exit i) S = kont P n0 keep k Q (.exit i) S := (rfl)
theorem kont_block {b : Nat} : kont P n0 keep (.block b :: k) Q .normal S = kont P n0 keep k Q .normal S := (rfl)
theorem kont_block_ret {b : Nat} : kont P n0 keep (.block b :: k) Q .ret S = kont P n0 keep k Q .ret S := (rfl)
theorem kont_block_exit {b i : Nat} : kont P n0 keep (.block b :: k) Q (.exit i) S = if i = b then kont P n0 keep k Q .normal S else kont P n0 keep k Q (.exit i) S := (rfl)
/-- What the next round begins with. -/
def Nxt (n0 : Nat) (I : Nat → St → Prop) (n : Nat) (S : St) : Prop := ∃ n' S', n' < n ∧ Le n0 S S' ∧ I n' S'
theorem kont_loop {J : St → Prop} : kont P n0 keep (.loop J :: k) Q .normal S = J S := (rfl)
theorem kont_loop_ret {J : St → Prop} : kont P n0 keep (.loop J :: k) Q .ret S = kont P n0 keep k Q .ret S := (rfl)
theorem kont_loop_exit {J : St → Prop} {i : Nat} : kont P n0 keep (.loop J :: k) Q (.exit i) S = kont P n0 keep k Q (.exit i) S := (rfl)
theorem W_loop {b : Code} (I : Nat → St → Prop) (n : Nat) (S' : St) (hle : Le n0 S S') (h0 : I n S') (step : ∀ n S', I n S' → W P n0 keep b (.loop (Nxt n0 I n) :: k) Q S') : W P n0 keep (.loop b) k Q S :=
  ⟨I, ⟨n, S', hle, h0⟩, fun n S1 h1 => step n S1 h1⟩
theorem WO_nil : WO P n0 keep false ops [] fs k Q S = kont P n0 keep k Q .normal S := by
  simp [WO, aops, endR]
theorem WO_nil_dr : WO P n0 keep true ops [] fs k Q S = ((drawOk ops fs = true ∧ P.follows .mixedOrders = true) ∧ kont P n0 keep k Q .normal S) := by
  simp [WO, aops, endR]
theorem WO_none {d : Option Nat} {o : Op} {ty : TypeId} {p : String} {af : Array Edge} :
    WO P n0 keep dr ops (⟨d, o, ty, p, af, none⟩ :: l) fs k Q S = arule P ⟨d, o, ty, p, af, none⟩ S (KO P n0 keep dr ops l fs k Q S d) := (rfl)
theorem WO_some {d : Option Nat} {o : Op} {ty : TypeId} {p : String} {af : Array Edge} {j : Nat} {w : Bool} :
    WO P n0 keep dr ops (⟨d, o, ty, p, af, some (j, w)⟩ :: l) fs k Q S = WG P n0 keep (gAV (get S.t) ops j) w ⟨d, o, ty, p, af, some (j, w)⟩ dr ops l fs k Q S := (rfl)
theorem WG_tt {o : Oper} : WG P n0 keep (.val (.bool true)) true o dr ops l fs k Q S = arule P o S (KO P n0 keep dr ops l fs k Q S o.dst) := (rfl)
theorem WG_ff {o : Oper} : WG P n0 keep (.val (.bool false)) false o dr ops l fs k Q S = arule P o S (KO P n0 keep dr ops l fs k Q S o.dst) := (rfl)
theorem WG_tf {o : Oper} : WG P n0 keep (.val (.bool true)) false o dr ops l fs k Q S = WO P n0 keep dr ops l (foot dr [] [] fs) k Q (S.put o.dst 0 (.val undef) []) := (rfl)
theorem WG_ft {o : Oper} : WG P n0 keep (.val (.bool false)) true o dr ops l fs k Q S = WO P n0 keep dr ops l (foot dr [] [] fs) k Q (S.put o.dst 0 (.val undef) []) := (rfl)
theorem WG_u {o : Oper} {w : Bool} {vs : Array Value} : WG P n0 keep (.val (.tuple vs)) w o dr ops l fs k Q S = WO P n0 keep dr ops l (foot dr [] [] fs) k Q (S.put o.dst 0 (.val undef) []) := (rfl)
theorem WG_undef {o : Oper} {w : Bool} : WG P n0 keep (.val undef) w o dr ops l fs k Q S = WO P n0 keep dr ops l (foot dr [] [] fs) k Q (S.put o.dst 0 (.val undef) []) := (rfl)
theorem WG_split {o : Oper} {c w : Bool} (h1 : c = w → arule P o S (KO P n0 keep dr ops l fs k Q S o.dst)) (h2 : c = !w → WO P n0 keep dr ops l (foot dr [] [] fs) k Q (S.put o.dst 0 (.val undef) [])) :
    WG P n0 keep (.val (.bool c)) w o dr ops l fs k Q S := by
  unfold WG
  dsimp only
  split
  · rename_i h; exact h1 h
  · rename_i h; exact h2 (by cases c <;> cases w <;> simp_all)
theorem KO_eq {d : Option Nat} {rd : List Nat} {n : Nat} {out : AV} {ch : Heap} : KO P n0 keep dr ops l fs k Q S d rd n out ch = WO P n0 keep dr ops l (foot dr rd ch fs) k Q (S.put d n out ch) := (rfl)
theorem foot_f {rd : List Nat} {ch : Heap} : foot false rd ch fs = fs := (rfl)
theorem foot_t {rd : List Nat} {ch : Heap} : foot true rd ch fs = fs ++ [(rd, keys ch)] := (rfl)

variable {K : OK} {d : Option Nat} {ty T T2 f i id off j' n : Nat} {p : String} {af : Array Edge} {g : Option (Nat × Bool)} {x y z : Operand} {v u c : AV} {op : BinOp} {uop : UnOp} {xs ys : Array Operand} {ts : Array TypeId} {fn : Go.Fn} {cs : List AV} {es sp : List (List AV)} {b b' : Bool} {ik ik' : IntKind} {a1 a2 : Int} {s1 s2 : ByteArray} {H : Heap} {t : TI} {τ : Nat → AV}

theorem r_move : arule P ⟨d, .move x, ty, p, af, g⟩ S K = K [] 0 (evalA (get S.t) x) [] := (rfl)
theorem r_assign : arule P ⟨d, .assign x, ty, p, af, g⟩ S K = K [] 0 (evalA (get S.t) x) [] := (rfl)
theorem r_pick : arule P ⟨d, .pick x y z, ty, p, af, g⟩ S K = aPick (evalA (get S.t) x) (evalA (get S.t) y) (evalA (get S.t) z) K := (rfl)
theorem r_extract : arule P ⟨d, .extract x i, ty, p, af, g⟩ S K = aExtract (evalA (get S.t) x) i K := (rfl)
theorem r_makeFunc : arule P ⟨d, .makeFunc fn xs ys, ty, p, af, g⟩ S K = K [] 0 (.clo fn (xs.toList.map (evalA (get S.t))) (ys.toList.map (evalA (get S.t)))) [] := (rfl)
theorem r_fieldAddr : arule P ⟨d, .fieldAddr T x f, ty, p, af, g⟩ S K = aField ((ti P T).flds[f]?) (evalA (get S.t) x) K := (rfl)
theorem r_load : arule P ⟨d, .load T x, ty, p, af, g⟩ S K = aLoad (ti P T) (evalA (get S.t) x) S.h K := (rfl)
theorem r_store : arule P ⟨d, .store T x y, ty, p, af, g⟩ S K = aStore (ti P T) (evalA (get S.t) x) (evalA (get S.t) y) S.h K := (rfl)
theorem r_box : arule P ⟨d, .box T x, ty, p, af, g⟩ S K = ((cellsOf (evalA (get S.t) x)).all AV.one = true ∧ K [] 1 (.ref S.nx 0 0) [(S.nx, some (false, [cellsOf (evalA (get S.t) x)]))]) := (rfl)
theorem r_alloc : arule P ⟨d, .alloc T, ty, p, af, g⟩ S K = ((ti P T).known = true ∧ zeroKnown P T = true ∧ (ti P T).zero.all AV.one = true ∧ K [] 1 (.ref S.nx 0 0) [(S.nx, some (false, [(ti P T).zero]))]) := (rfl)
theorem r_indexAddr : arule P ⟨d, .indexAddr T x y, ty, p, af, g⟩ S K = aIndex (ti P T) (ti P (ti P T).elem) (evalA (get S.t) x) (evalA (get S.t) y) S.h K := (rfl)
theorem r_binOp : arule P ⟨d, .binOp op T x y T2, ty, p, af, g⟩ S K = aBin (ti P T) op (evalA (get S.t) x) (evalA (get S.t) y) K := (rfl)
theorem r_unOp : arule P ⟨d, .unOp uop T x, ty, p, af, g⟩ S K = aUn uop (evalA (get S.t) x) K := (rfl)
theorem r_call : arule P ⟨d, .call ⟨.value x, xs, ts⟩, ty, p, af, g⟩ S K = aCall P (evalA (get S.t) x) (xs.toList.map (evalA (get S.t))) S K := (rfl)
theorem r_len {l : List Operand} {m : List Nat} : arule P ⟨d, .call ⟨.builtin .len, (x :: l).toArray, (T :: m).toArray⟩, ty, p, af, g⟩ S K = aLen (ti P T) (evalA (get S.t) x) K := (rfl)

theorem r_max {ts : Array TypeId} : arule P ⟨d, .call ⟨.builtin .max, #[x, y], ts⟩, ty, p, af, g⟩ S K = aMax (evalA (get S.t) x) (evalA (get S.t) y) K := (rfl)
theorem r_min {ts : Array TypeId} : arule P ⟨d, .call ⟨.builtin .min, #[x, y], ts⟩, ty, p, af, g⟩ S K = aMin (evalA (get S.t) x) (evalA (get S.t) y) K := (rfl)
theorem r_append {U : Nat} : arule P ⟨d, .call ⟨.builtin .append, #[x, y], #[T, U]⟩, ty, p, af, g⟩ S K = aAppend (ti P T) (ti P U) (ti P (ti P T).elem) (zeroKnown P (ti P T).elem) (evalA (get S.t) x) (evalA (get S.t) y) S.h S.nx K := (rfl)
theorem r_build {parts : List (Nat × Operand)} : arule P ⟨d, .build T parts.toArray, ty, p, af, g⟩ S K = aBuild P T (parts.map fun p => (p.1, evalA (get S.t) p.2)) K := (rfl)
theorem r_buildSlice {parts : List (Nat × Operand)} : arule P ⟨d, .buildSlice T n parts.toArray, ty, p, af, g⟩ S K = aBuildSlice P T n (parts.map fun p => (p.1, evalA (get S.t) p.2)) S.nx K := (rfl)
theorem r_makeSlice : arule P ⟨d, .makeSlice T x y, ty, p, af, g⟩ S K = aMake P T (evalA (get S.t) x) (evalA (get S.t) y) S.nx K := (rfl)

theorem e_tmp : evalA τ (.tmp i) = τ i := (rfl)
theorem e_int : evalA τ (.const (.int ik a1)) = .val (.int ik a1) := (rfl)
theorem e_bool : evalA τ (.const (.bool b)) = .val (.bool b) := (rfl)
theorem e_string : evalA τ (.const (.string s1)) = .val (.string s1) := (rfl)
theorem e_nil : evalA τ (.const (.slice none 0 0)) = .sl true [] [] := (rfl)
theorem e_func : evalA τ (.func i) = .clo (.func i) [] [] := (rfl)

theorem l_pick_t : aPick (.val (.bool true)) v u K = K [] 0 v [] := (rfl)
theorem l_pick_f : aPick (.val (.bool false)) v u K = K [] 0 u [] := (rfl)
theorem l_pick : aPick (.val (.bool b)) v u K = K [] 0 (if b then v else u) [] := (rfl)
theorem l_field_ref {o : Nat} : aField (some (some o)) (.ref id i off) K = K [] 0 (.ref id i (off + o)) [] := (rfl)
theorem l_field_fptr {o : Nat} : aField (some (some o)) (.fptr cs) K = K [] 0 (.fptr (cs.drop o)) [] := (rfl)
def aLoadR (t : TI) (id : Nat) (q : Option (List AV)) (K : OK) : Prop := match q with
  | some cs => match pack t.agg cs with | some y => t.known = true ∧ K [id] 0 y [] | none => False
  | none => False
def aLoadP (t : TI) (rd : List Nat) (q : Option AV) (K : OK) : Prop := match q with
  | some y => t.known = true ∧ K rd 0 y []
  | none => False
theorem l_load_ref : aLoad t (.ref id i off) H K = aLoadR t id (obAt (hget H id) i off t.sz) K := (rfl)
theorem l_loadR : aLoadR t id (some cs) K = aLoadP t [id] (pack t.agg cs) K := (rfl)
theorem l_load_fptr (h : t.sz ≤ cs.length) : aLoad t (.fptr cs) H K = aLoadP t [] (pack t.agg (cs.take t.sz)) K := by
  simp only [aLoad, if_pos h]; rfl
theorem l_loadP {rd : List Nat} : aLoadP t rd (some v) K = (t.known = true ∧ K rd 0 v []) := (rfl)
theorem pack_t : pack true cs = some (.agg cs) := (rfl)
theorem pack_f : pack false [v] = some v := (rfl)
def obAtR (q : Option (List AV)) (off n : Nat) : Option (List AV) := match q with
  | some cs => if off + n ≤ cs.length then some ((cs.drop off).take n) else none
  | none => none
theorem obAt_some : obAt (some (b, es)) i off n = obAtR es[i]? off n := (rfl)
theorem obAtR_some (h : off + n ≤ cs.length) : obAtR (some cs) off n = some ((cs.drop off).take n) := by simp [obAtR, h]
def aStoreR (t : TI) (id i off : Nat) (new : List AV) (es : List (List AV)) (q : Option (List AV)) (K : OK) : Prop := match q with
  | some cs => t.known = true ∧ 0 < t.sz ∧ off + t.sz ≤ cs.length ∧ new.length = t.sz ∧ new.all AV.one = true ∧ K [id] 0 (.val undef) [(id, some (false, es.set i (splice cs off new)))]
  | none => False
def aStoreO (t : TI) (id i off : Nat) (new : List AV) (q : Option Ob) (K : OK) : Prop := match q with
  | some (false, es) => aStoreR t id i off new es es[i]? K
  | _ => False
theorem l_store : aStore t (.ref id i off) v H K = aStoreO t id i off (cellsOf v) (hget H id) K := (rfl)
theorem l_storeO {new : List AV} : aStoreO t id i off new (some (false, es)) K = aStoreR t id i off new es es[i]? K := (rfl)
theorem l_storeR {new : List AV} : aStoreR t id i off new es (some cs) K =
  (t.known = true ∧ 0 < t.sz ∧ off + t.sz ≤ cs.length ∧ new.length = t.sz ∧ new.all AV.one = true ∧ K [id] 0 (.val undef) [(id, some (false, es.set i (splice cs off new)))]) := (rfl)
def aIndexF (e : TI) (q : Option (List AV)) (K : OK) : Prop := match q with
  | some cs => e.sz = cs.length ∧ K [] 0 (.fptr cs) []
  | none => False
def aIndexR (e : TI) (id i : Nat) (q : Option (List AV)) (K : OK) : Prop := match q with
  | some cs => e.sz = cs.length ∧ K [id] 0 (.ref id i 0) []
  | none => False
def aIndexO (e : TI) (id i : Nat) (q : Option Ob) (K : OK) : Prop := match q with
  | some (_, es) => aIndexR e id i es[i]? K
  | none => False
theorem l_index_sl {e : TI} : aIndex t e (.sl b es sp) (.val (.int ik a1)) H K = (t.kind = 1 ∧ e.known = true ∧ 0 ≤ a1 ∧ aIndexF e es[a1.toNat]? K) := (rfl)
theorem l_index_rsl {e : TI} : aIndex t e (.rsl id i n) (.val (.int ik a1)) H K = (t.kind = 1 ∧ e.known = true ∧ 0 ≤ a1 ∧ a1 < n ∧ aIndexO e id (i + a1.toNat) (hget H id) K) := (rfl)
theorem l_indexF {e : TI} : aIndexF e (some cs) K = (e.sz = cs.length ∧ K [] 0 (.fptr cs) []) := (rfl)
theorem l_indexR {e : TI} : aIndexR e id i (some cs) K = (e.sz = cs.length ∧ K [id] 0 (.ref id i 0) []) := (rfl)
theorem l_indexO {e : TI} : aIndexO e id i (some (b, es)) K = aIndexR e id i es[i]? K := (rfl)
theorem l_len_sl : aLen t (.sl b es sp) K = (t.kind = 1 ∧ K [] 0 (.val (.int .i64 es.length)) []) := (rfl)
theorem l_len_rsl : aLen t (.rsl id i n) K = (t.kind = 1 ∧ K [] 0 (.val (.int .i64 n)) []) := (rfl)
theorem l_len_str : aLen t (.val (.string s1)) K = (t.kind = 2 ∧ K [] 0 (.val (.int .i64 s1.size)) []) := (rfl)
theorem l_bin_i : aBin t op (.val (.int ik a1)) (.val (.int ik' a2)) K = (ik = ik' ∧ aBinI op ik a1 a2 K) := (rfl)
theorem l_bin_s : aBin t op (.val (.string s1)) (.val (.string s2)) K = aBinS op s1 s2 K := (rfl)
theorem l_bin_b : aBin t op (.val (.bool b)) (.val (.bool b')) K = aBinB t op b b' K := (rfl)
theorem l_not : aUn .not (.val (.bool b)) K = K [] 0 (.val (.bool (!b))) [] := (rfl)
theorem l_neg : aUn .neg (.val (.int ik a1)) K = K [] 0 (.val (.int ik (ik.wrap (0 - a1)))) [] := (rfl)
theorem l_add : aBinI .add ik a1 a2 K = K [] 0 (.val (.int ik (ik.wrap (a1 + a2)))) [] := (rfl)
theorem l_sub : aBinI .sub ik a1 a2 K = K [] 0 (.val (.int ik (ik.wrap (a1 - a2)))) [] := (rfl)
theorem l_mul : aBinI .mul ik a1 a2 K = K [] 0 (.val (.int ik (ik.wrap (a1 * a2)))) [] := (rfl)
theorem l_quo : aBinI .quo ik a1 a2 K = (a2 ≠ 0 ∧ K [] 0 (.val (.int ik (ik.wrap (a1.tdiv a2)))) []) := (rfl)
theorem l_rem : aBinI .rem ik a1 a2 K = (a2 ≠ 0 ∧ K [] 0 (.val (.int ik (a1.tmod a2))) []) := (rfl)
theorem l_eql : aBinI .eql ik a1 a2 K = K [] 0 (.val (.bool (decide (a1 = a2)))) [] := (rfl)
theorem l_neq : aBinI .neq ik a1 a2 K = K [] 0 (.val (.bool (!decide (a1 = a2)))) [] := (rfl)
theorem l_lss : aBinI .lss ik a1 a2 K = K [] 0 (.val (.bool (decide (a1 < a2)))) [] := (rfl)
theorem l_leq : aBinI .leq ik a1 a2 K = K [] 0 (.val (.bool (decide (a1 ≤ a2)))) [] := (rfl)
theorem l_gtr : aBinI .gtr ik a1 a2 K = K [] 0 (.val (.bool (decide (a1 > a2)))) [] := (rfl)
theorem l_geq : aBinI .geq ik a1 a2 K = K [] 0 (.val (.bool (decide (a1 ≥ a2)))) [] := (rfl)
theorem l_seql : aBinS .eql s1 s2 K = K [] 0 (.val (.bool (decide (s1 = s2)))) [] := (rfl)
theorem l_sneq : aBinS .neq s1 s2 K = K [] 0 (.val (.bool (!decide (s1 = s2)))) [] := (rfl)
theorem l_slss : aBinS .lss s1 s2 K = K [] 0 (.val (.bool (strLt s1 s2))) [] := (rfl)
theorem l_sleq : aBinS .leq s1 s2 K = K [] 0 (.val (.bool (strLt s1 s2 || decide (s1 = s2)))) [] := (rfl)
theorem l_sgtr : aBinS .gtr s1 s2 K = K [] 0 (.val (.bool (!(strLt s1 s2 || decide (s1 = s2))))) [] := (rfl)
theorem l_sgeq : aBinS .geq s1 s2 K = K [] 0 (.val (.bool (!strLt s1 s2))) [] := (rfl)
theorem l_beql : aBinB t .eql b b' K = (t.kind = 9 ∧ K [] 0 (.val (.bool (b == b'))) []) := (rfl)
theorem l_bneq : aBinB t .neq b b' K = (t.kind = 9 ∧ K [] 0 (.val (.bool (!(b == b')))) []) := (rfl)
theorem l_extract {vs : List AV} : aExtract (.tup vs) i K = (match vs[i]? with | some y => K [] 0 y [] | none => False) := (rfl)
theorem c_agg : cellsOf (.agg cs) = cs := (rfl)
theorem c_val {w : Value} : cellsOf (.val w) = [.val w] := (rfl)
theorem c_sl : cellsOf (.sl b es sp) = [.sl b es sp] := (rfl)
theorem c_rsl : cellsOf (.rsl id i n) = [.rsl id i n] := (rfl)
theorem c_ref : cellsOf (.ref id i off) = [.ref id i off] := (rfl)
theorem c_clo : cellsOf (.clo fn cs []) = [.clo fn cs []] := (rfl)
theorem o_int : AV.one (.val (.int ik a1)) = true := (rfl)
theorem o_string : AV.one (.val (.string s1)) = true := (rfl)
theorem o_bool : AV.one (.val (.bool b)) = true := (rfl)
theorem o_sl : AV.one (.sl b es sp) = true := (rfl)
theorem o_rsl : AV.one (.rsl id i n) = true := (rfl)
theorem o_ref : AV.one (.ref id i off) = true := (rfl)
theorem o_fptr : AV.one (.fptr cs) = true := (rfl)
theorem o_clo {ds : List AV} : AV.one (.clo fn cs ds) = true := (rfl)
theorem get_cons : get ((i, v) :: S.t) id = if id = i then v else get S.t id := (rfl)
theorem get_cons' {r : List (Nat × AV)} : get ((i, v) :: r) id = if id = i then v else get r id := (rfl)
theorem get_nil : get [] id = .any := (rfl)
theorem hget_cons {q : Option Ob} {r : Heap} : hget ((i, q) :: r) id = if id = i then q else hget r id := (rfl)
theorem gc_nil : gc keep [] = [] := (rfl)
theorem gc_cons {r : List (Nat × AV)} : gc keep ((i, v) :: r) = if keep.contains i then (i, v) :: gc keep r else gc keep r := (rfl)
theorem put_some {out : AV} {ch : Heap} : S.put (some i) n out ch = ⟨(i, out) :: S.t, ch ++ S.h, S.nx + n⟩ := (rfl)
theorem put_none {out : AV} {ch : Heap} : S.put none n out ch = ⟨S.t, ch ++ S.h, S.nx + n⟩ := (rfl)
theorem gAV_eq {d' : Nat} (h : gdst ops i = some d') : gAV τ ops i = τ d' := by simp [gAV, h]
theorem gAV_def : gAV τ ops i = (match gdst ops i with | some d => τ d | none => .val undef) := (rfl)

theorem l_max : aMax (.val (.int ik a1)) (.val (.int ik' a2)) K = K [] 0 (.val (.int ik (if a2 > a1 then a2 else a1))) [] := (rfl)
theorem l_min : aMin (.val (.int ik a1)) (.val (.int ik' a2)) K = K [] 0 (.val (.int ik (if a2 < a1 then a2 else a1))) [] := (rfl)
theorem fillA_nil {pl : Nat → Option (Nat × Nat)} : fillA pl [] cs = some cs := (rfl)
def fillR (pl : Nat → Option (Nat × Nat)) (q : Option (Nat × Nat)) (x : AV) (r : List (Nat × AV)) (cs : List AV) : Option (List AV) := match q with
  | some (off, n) => if (cellsOf x).all AV.one = true ∧ (cellsOf x).length = n ∧ off + n ≤ cs.length then fillA pl r (splice cs off (cellsOf x)) else none
  | none => none
theorem fillA_cons {pl : Nat → Option (Nat × Nat)} {x : AV} {r : List (Nat × AV)} : fillA pl ((i, x) :: r) cs = fillR pl (pl i) x r cs := (rfl)
theorem fillR_some {pl : Nat → Option (Nat × Nat)} {x : AV} {r : List (Nat × AV)} : fillR pl (some (off, n)) x r cs = if (cellsOf x).all AV.one = true ∧ (cellsOf x).length = n ∧ off + n ≤ cs.length then fillA pl r (splice cs off (cellsOf x)) else none := (rfl)
def placeR (n : Nat) (q : Option (Option Nat)) : Option (Nat × Nat) := match q with
  | some (some off) => some (off, n)
  | _ => none
theorem place_eq : placeOf t i = placeR (t.fszs.getD i 0) t.flds[i]? := (rfl)
theorem placeR_some : placeR n (some (some off)) = some (off, n) := (rfl)
def aBuildR (K : OK) (q : Option (List AV)) : Prop := match q with
  | some cs => K [] 0 (.agg cs) []
  | none => False
theorem l_build {parts : List (Nat × AV)} : aBuild P T parts K = ((ti P T).kind = 3 ∧ zeroKnown P T = true ∧ (ti P T).zero.all AV.one = true ∧ aBuildR K (fillA (placeOf (ti P T)) parts (ti P T).zero)) := (rfl)
theorem l_buildR : aBuildR K (some cs) = K [] 0 (.agg cs) [] := (rfl)
def aBuildSliceR (nx len sz : Nat) (K : OK) (q : Option (List AV)) : Prop := match q with
  | some cs => K [] 1 (.rsl nx 0 len) [(nx, some (false, chunks sz len cs))]
  | none => False
theorem l_buildSlice {nx : Nat} {parts : List (Nat × AV)} : aBuildSlice P T n parts nx K = ((ti P T).kind = 1 ∧ (ti P (ti P T).elem).known = true ∧ zeroKnown P (ti P T).elem = true ∧ (ti P (ti P T).elem).zero.all AV.one = true ∧ (ti P (ti P T).elem).zero.length = (ti P (ti P T).elem).sz ∧
  0 < n * (ti P (ti P T).elem).sz ∧ n * (ti P (ti P T).elem).sz ≤ 16777216 ∧
  aBuildSliceR nx n (ti P (ti P T).elem).sz K (fillA (fun i => some (i * (ti P (ti P T).elem).sz, (ti P (ti P T).elem).sz)) parts (rep0 n (ti P (ti P T).elem).zero))) := (rfl)
theorem l_buildSliceR {nx sz : Nat} : aBuildSliceR nx n sz K (some cs) = K [] 1 (.rsl nx 0 n) [(nx, some (false, chunks sz n cs))] := (rfl)
theorem l_make {nx : Nat} : aMake P T (.val (.int ik a1)) (.val (.int ik' a2)) nx K = ((ti P T).kind = 1 ∧ (ti P (ti P T).elem).known = true ∧ zeroKnown P (ti P T).elem = true ∧ (ti P (ti P T).elem).zero.all AV.one = true ∧
    (ti P (ti P T).elem).zero.length = (ti P (ti P T).elem).sz ∧ 0 < (ti P (ti P T).elem).bytes ∧ 0 < (ti P (ti P T).elem).sz ∧ 0 ≤ a1 ∧ a1 ≤ a2 ∧ a2 * (ti P (ti P T).elem).bytes ≤ 281474976710656 ∧
    K [] 1 (.rsl nx 0 a1.toNat) [(nx, some (false, List.replicate a2.toNat (ti P (ti P T).elem).zero))]) := (rfl)
def aAppendP (e : TI) (s x : AV) (H : Heap) (nx : Nat) (K : OK) (q : Option (List (List AV))) : Prop := match q with
  | some new => (∀ c ∈ new, c.length = e.sz) ∧ aAppendS e new s (slIds x) H nx K
  | none => False
theorem l_append {u e : TI} {zk : Bool} {s x : AV} {nx : Nat} : aAppend t u e zk s x H nx K = ((t.kind = 1 ∧ u.kind = 1 ∧ e.known = true ∧ zk = true ∧ e.zero.all AV.one = true ∧ e.zero.length = e.sz ∧ 0 < e.sz ∧ 0 < e.bytes) ∧ aAppendP e s x H nx K (slV (hget H) x)) := (rfl)
theorem l_appendP {e : TI} {s x : AV} {nx : Nat} {new : List (List AV)} : aAppendP e s x H nx K (some new) = ((∀ c ∈ new, c.length = e.sz) ∧ aAppendS e new s (slIds x) H nx K) := (rfl)
theorem l_appendS_sl {e : TI} {nx : Nat} {new : List (List AV)} {ids : List Nat} : aAppendS e new (.sl true es []) ids H nx K = ((∀ c ∈ es, c.length = e.sz) ∧ (new = [] → es = []) ∧ (es.length + new.length) * e.bytes ≤ 140737488355328 ∧ K ids 1 (.rsl nx 0 (es.length + new.length)) [(nx, some (false, es ++ new))]) := (rfl)
def aAppendO (e : TI) (new : List (List AV)) (id i n : Nat) (ids : List Nat) (nx : Nat) (K : OK) (q : Option Ob) : Prop := match q with
  | some (false, es) => i + n ≤ es.length ∧ (∀ c ∈ es, c.length = e.sz) ∧ (n + new.length = 0 → es = []) ∧ (n + new.length) * e.bytes ≤ 140737488355328 ∧
      K (id :: ids) 1 (.rsl nx 0 (n + new.length)) [(nx, some (false, (es.drop i).take n ++ new)), (id, none)]
  | _ => False
theorem l_appendS_rsl {e : TI} {nx : Nat} {new : List (List AV)} {ids : List Nat} : aAppendS e new (.rsl id i n) ids H nx K = aAppendO e new id i n ids nx K (hget H id) := (rfl)
theorem l_appendO {e : TI} {nx : Nat} {new : List (List AV)} {ids : List Nat} : aAppendO e new id i n ids nx K (some (false, es)) = (i + n ≤ es.length ∧ (∀ c ∈ es, c.length = e.sz) ∧ (n + new.length = 0 → es = []) ∧ (n + new.length) * e.bytes ≤ 140737488355328 ∧
      K (id :: ids) 1 (.rsl nx 0 (n + new.length)) [(nx, some (false, (es.drop i).take n ++ new)), (id, none)]) := (rfl)
theorem slV_sl : slV (hget H) (.sl b es sp) = some es := (rfl)
def slVR (i n : Nat) (q : Option Ob) : Option (List (List AV)) := match q with
  | some (_, es) => if i + n ≤ es.length then some ((es.drop i).take n) else none
  | none => none
theorem slV_rsl : slV (hget H) (.rsl id i n) = slVR i n (hget H id) := (rfl)
theorem slVR_some (h : i + n ≤ es.length) : slVR i n (some (b, es)) = some ((es.drop i).take n) := by simp [slVR, h]
theorem slIds_sl : slIds (.sl b es sp) = [] := (rfl)
theorem slIds_rsl : slIds (.rsl id i n) = [id] := (rfl)
theorem chunks_zero {sz : Nat} : chunks sz 0 cs = [] := (rfl)
theorem chunks_succ {sz : Nat} : chunks sz (n + 1) cs = cs.take sz :: chunks sz n (cs.drop sz) := (rfl)
theorem chunks_one {sz : Nat} : chunks sz 1 cs = [cs.take sz] := (rfl)
theorem chunks_two {sz : Nat} : chunks sz 2 cs = [cs.take sz, (cs.drop sz).take sz] := (rfl)
theorem rep0_one {z : List AV} : rep0 1 z = z ++ [] := (rfl)
theorem rep0_two {z : List AV} : rep0 2 z = z ++ (z ++ []) := (rfl)

end
end Go.Aw
