/- Rules: indexes, lengths, arithmetic, comparisons, struct values, slices made of their parts, slice expressions. -/
import Derived.Test.YtldlldamnliejaaBw11
namespace Go.Bw
open Go

section
variable {P : Program}

theorem ti_slice {T : TypeId} (h : (ti P T).kind = 1) : P.underlying T = some (.slice (ti P T).elem) := by
  unfold ti at h ⊢
  split at h
  · rename_i i d h1 h2
    cases d <;> first
      | (simp_all; done)
      | (exfalso; dsimp only at h; split at h <;> simp at h)
  · cases h
theorem ti_string {T : TypeId} (h : (ti P T).kind = 2) : P.underlying T = some .string := by
  unfold ti at h
  split at h
  · rename_i i d h1 h2
    cases d <;> first
      | (simp_all; done)
      | (exfalso; dsimp only at h; split at h <;> simp at h)
  · cases h
theorem ti_bool {T : TypeId} (h : (ti P T).kind = 9) : P.underlying T = some .bool := by
  unfold ti at h
  split at h
  · rename_i i d h1 h2
    cases d <;> first
      | (simp_all; done)
      | (exfalso; dsimp only at h; split at h <;> simp at h)
  · cases h
theorem ti_int {T : TypeId} (h : (ti P T).kind = 8) : ∃ k, P.underlying T = some (.int k) := by
  unfold ti at h
  split at h
  · rename_i i d h1 h2
    cases d <;> first
      | (simp_all; done)
      | (exfalso; dsimp only at h; split at h <;> simp at h)
  · cases h

theorem add_lit' (b q j : Nat) : (Addr.add ⟨b, q, none⟩ j) = ⟨b, q + j, none⟩ := by unfold Addr.add; split <;> simp_all

/-! ### indexes -/
def aIndex (t e : TI) (x y : AV) (H : Heap) (K : OK) : Prop := match x, y with
  | .sl _ es _, .val (.int _ j) => t.kind = 1 ∧ e.known = true ∧ 0 ≤ j ∧ match es[j.toNat]? with
    | some cs => e.sz = cs.length ∧ K [] 0 (.fptr cs) []
    | none => False
  | .rsl id i n, .val (.int _ j) => t.kind = 1 ∧ e.known = true ∧ 0 ≤ j ∧ j < n ∧ match hget H id with
    | some (.cells _ es) => match es[i + j.toNat]? with
      | some cs => e.sz = cs.length ∧ K [id] 0 (.ref id (i + j.toNat) 0) []
      | none => False
    | _ => False
  | _, _ => False

theorem run_indexAt {T : TypeId} (ht : (ti P T).kind = 1) (he : (ti P (ti P T).elem).known = true) (w : World) (b q n cap : Nat) (k : IntKind) (j : Int) (h0 : 0 ≤ j) (hn : j < n) :
    (Instr.indexAt T (.slice (some ⟨b, q, none⟩) n cap) (.int k j)).run P w = .ok (.pointer (some ⟨b, q + j.toNat * (ti P (ti P T).elem).sz, none⟩)) w := by
  simp [Instr.indexAt, asIntOf, run_underlying' (ti_slice ht), h0, hn, run_sizeOf' he, add_lit']

theorem s_index {o : Oper} {S : St} {K : OK} {T : TypeId} {x y : Operand} (ho : o.op = .indexAddr T x y)
    (h : aIndex (ti P T) (ti P (ti P T).elem) (evalA (get S.t) x) (evalA (get S.t) y) S.h K) : OpS P o S K := by
  unfold aIndex at h
  split at h
  · rename_i f es sp k j hx' hy'
    obtain ⟨ht, he, h0, h⟩ := h
    split at h
    case h_2 => exact h.elim
    rename_i cs hcs
    obtain ⟨hsz, hK⟩ := h
    obtain ⟨hi, hci⟩ := List.getElem?_eq_some_iff.1 hcs
    refine OpS.pure [] _ hK fun w G m a _ hx _ => ?_
    have h1 := hx x (by simp [ho, Op.operands]); rw [hx'] at h1
    have h2 := hx y (by simp [ho, Op.operands]); rw [hy'] at h2
    generalize hev : a.eval x = ex at h1
    generalize hev2 : a.eval y = ey at h2
    cases h2
    cases h1 with
    | slnil => simp at hi
    | slnone => simp at hi
    | sl _ _ _ b q cap kk vs hG hcap hf hk hc h1 hr =>
      have hi2 : j.toNat < (es ++ sp).length := by simp; omega
      have hel : (es ++ sp)[j.toNat] = cs := by rw [List.getElem_append_left hi]; exact hci
      have hkk : kk = (ti P (ti P T).elem).sz := by rw [hsz, ← hel]; exact (hk _ hi2).symm
      refine ⟨_, by simp only [execOp, ho, hev, hev2]; rw [Sem.run_bind, run_indexAt ht he w b q es.length cap k j h0 (by omega)]; rfl, .fptr cs b _ (fun i => vs j.toNat i) hG (fun i hi' => ?_) (fun i hi' => ?_) (fun i hi' => ?_)⟩
      · have := hc _ hi2 i (by rw [hel]; exact hi')
        rw [hkk] at this; exact this
      · exact h1 _ hi2 i (by rw [hel]; exact hi')
      · have := hr _ hi2 i (by rw [hel]; exact hi')
        simpa [hel] using this
  · rename_i id i n k j hx' hy'
    obtain ⟨ht, he, h0, hn, h⟩ := h
    split at h
    case h_2 => exact h.elim
    rename_i f es hes
    split at h
    case h_2 => exact h.elim
    rename_i cs hcs
    obtain ⟨hsz, hK⟩ := h
    obtain ⟨hi, hci⟩ := List.getElem?_eq_some_iff.1 hcs
    refine OpS.pure [id] _ hK fun w G m a _ hx hH => ?_
    have h1 := hx x (by simp [ho, Op.operands]); rw [hx'] at h1
    have h2 := hx y (by simp [ho, Op.operands]); rw [hy'] at h2
    generalize hev : a.eval x = ex at h1
    generalize hev2 : a.eval y = ey at h2
    cases h2
    cases h1 with
    | rslz => omega
    | rsl _ _ _ cap b q kk e nn hm hlen hsh hin =>
      have hob : ObjOk w G m id (.cells f es) := hH.obj id _ (by simp [restr, hes])
      obtain ⟨_, hm'⟩ | ⟨_, b', q', k', hm', _, _, hk, _⟩ := hob
      · rw [hm] at hm'; cases hm'
      rw [hm] at hm'; cases hm'
      have hkk : kk = (ti P (ti P T).elem).sz := by rw [hsz, ← hci]; exact (hk _ hi).symm
      refine ⟨_, by simp only [execOp, ho, hev, hev2]; rw [Sem.run_bind, run_indexAt ht he w b _ n cap k j h0 hn]; rfl, ?_⟩
      have := Rep.ref (w := w) (G := G) (m := m) id (i + j.toNat) 0 b q kk hm
      rw [← hkk]
      rwa [Nat.add_zero, Nat.add_mul, ← Nat.add_assoc] at this
  · exact h.elim

/-! ### lengths -/
def aLen (t : TI) (x : AV) (K : OK) : Prop := match x with
  | .sl _ es _ => t.kind = 1 ∧ K [] 0 (.val (.int .i64 es.length)) []
  | .rsl _ _ n => t.kind = 1 ∧ K [] 0 (.val (.int .i64 n)) []
  | .val (.string s) => t.kind = 2 ∧ K [] 0 (.val (.int .i64 s.size)) []
  | _ => False

theorem s_len {o : Oper} {S : St} {K : OK} {x : Operand} {xs : Array Operand} {T : TypeId} {ts : Array TypeId} (ho : o.op = .call { callee := .builtin .len, args := xs, argTypes := ts }) (hx0 : xs[0]? = some x) (ht0 : ts[0]? = some T)
    (h : aLen (ti P T) (evalA (get S.t) x) K) : OpS P o S K := by
  have hmem : x ∈ o.op.operands := by
    simp only [ho, Op.operands, Call.operands, Array.mem_append]
    right
    exact Array.mem_of_getElem? hx0
  unfold aLen at h
  split at h
  · rename_i f es sp hx'
    obtain ⟨ht, hK⟩ := h
    refine OpS.pure [] _ hK fun w G m a _ hx _ => ⟨.int .i64 es.length, ?_, .val _⟩
    have h1 := hx x hmem; rw [hx'] at h1
    generalize hev : a.eval x = ex at h1
    cases h1 <;> simp [execOp, ho, resolve, invoke, builtin, Builtin.len_, ht0, hx0, hev, run_underlying' (ti_slice ht), goInt]
  · rename_i id i n hx'
    obtain ⟨ht, hK⟩ := h
    refine OpS.pure [] _ hK fun w G m a _ hx _ => ⟨.int .i64 n, ?_, .val _⟩
    have h1 := hx x hmem; rw [hx'] at h1
    generalize hev : a.eval x = ex at h1
    cases h1 <;> simp [execOp, ho, resolve, invoke, builtin, Builtin.len_, ht0, hx0, hev, run_underlying' (ti_slice ht), goInt]
  · rename_i s hx'
    obtain ⟨ht, hK⟩ := h
    refine OpS.pure [] _ hK fun w G m a _ hx _ => ⟨.int .i64 s.size, ?_, .val _⟩
    have h1 := hx x hmem; rw [hx'] at h1
    generalize hev : a.eval x = ex at h1
    cases h1
    simp [execOp, ho, resolve, invoke, builtin, Builtin.len_, ht0, hx0, hev, run_underlying' (ti_string ht), goInt]
  · exact h.elim

/-! ### arithmetic, comparisons -/
def strLt (a b : ByteArray) : Bool := Op.bytesLess a.toList b.toList

theorem toList_inj {a b : ByteArray} (h : a.toList = b.toList) : a = b := by
  have ha : ∀ x : ByteArray, x.toList = x.data.toList := ByteArray.toList_eq
  rw [ha, ha] at h
  cases a; cases b
  simpa using Array.toList_inj.1 h

theorem eqStr (a b : ByteArray) : (a.toList == b.toList) = decide (a = b) := by
  rw [Bool.eq_iff_iff]
  simp only [beq_iff_eq, decide_eq_true_eq]
  exact ⟨toList_inj, fun h => h ▸ rfl⟩

def aBinI (op : BinOp) (k : IntKind) (a b : Int) (K : OK) : Prop := match op with
  | .add => K [] 0 (.val (.int k (k.wrap (a + b)))) []
  | .sub => K [] 0 (.val (.int k (k.wrap (a - b)))) []
  | .mul => K [] 0 (.val (.int k (k.wrap (a * b)))) []
  | .quo => b ≠ 0 ∧ K [] 0 (.val (.int k (k.wrap (a.tdiv b)))) []
  | .rem => b ≠ 0 ∧ K [] 0 (.val (.int k (a.tmod b))) []
  | .eql => K [] 0 (.val (.bool (decide (a = b)))) []
  | .neq => K [] 0 (.val (.bool (!decide (a = b)))) []
  | .lss => K [] 0 (.val (.bool (decide (a < b)))) []
  | .leq => K [] 0 (.val (.bool (decide (a ≤ b)))) []
  | .gtr => K [] 0 (.val (.bool (decide (a > b)))) []
  | .geq => K [] 0 (.val (.bool (decide (a ≥ b)))) []
  | _ => False
def aBinS (op : BinOp) (a b : ByteArray) (K : OK) : Prop := match op with
  | .eql => K [] 0 (.val (.bool (decide (a = b)))) []
  | .neq => K [] 0 (.val (.bool (!decide (a = b)))) []
  | .lss => K [] 0 (.val (.bool (strLt a b))) []
  | .leq => K [] 0 (.val (.bool (strLt a b || decide (a = b)))) []
  | .gtr => K [] 0 (.val (.bool (!(strLt a b || decide (a = b))))) []
  | .geq => K [] 0 (.val (.bool (!strLt a b))) []
  | _ => False
def aBinB (t : TI) (op : BinOp) (a b : Bool) (K : OK) : Prop := match op with
  | .eql => t.kind = 9 ∧ K [] 0 (.val (.bool (a == b))) []
  | .neq => t.kind = 9 ∧ K [] 0 (.val (.bool (!(a == b)))) []
  | _ => False
/-- The values of scalars. -/
def aBin (t : TI) (op : BinOp) (x y : AV) (K : OK) : Prop := match x, y with
  | .val (.int k a), .val (.int k' b) => k = k' ∧ aBinI op k a b K
  | .val (.string a), .val (.string b) => aBinS op a b K
  | .val (.bool a), .val (.bool b) => aBinB t op a b K
  | _, _ => False

theorem run_eqGuard_plain (op : BinOp) (t : TypeId) (x y : Operand) (a b : Value) (h : (match a, b with | .nilIface, .nilIface => false | .agg _, .agg _ => false | _, _ => true) = true) (w : World) :
    (eqGuard op t x y a b).run P w = .ok () w := by
  unfold eqGuard
  cases op <;> first
    | rfl
    | (cases a <;> first
        | rfl
        | (cases b <;> first
            | rfl
            | (simp at h)))

theorem run_equal_bool {t : TypeId} (h : P.underlying t = some .bool) (a b : Bool) (w : World) : (Op.equal t (.bool a) (.bool b)).run P w = .ok (a == b) w := by
  have e : Op.maxDepth = 9999 + 1 := rfl
  unfold Op.equal
  rw [e, Op.equalIn]
  simp [run_underlying' h]

theorem s_bin {o : Oper} {S : St} {K : OK} {op : BinOp} {T T2 : TypeId} {x y : Operand} (ho : o.op = .binOp op T x y T2) (h : aBin (ti P T) op (evalA (get S.t) x) (evalA (get S.t) y) K) : OpS P o S K := by
  have go : ∀ (vx vy r : Value), evalA (get S.t) x = .val vx → evalA (get S.t) y = .val vy → K [] 0 (.val r) [] →
      (∀ w, (do eqGuard op T x y vx vy; binOp op T vx vy : Sem Value).run P w = .ok r w) → OpS P o S K := by
    intro vx vy r hx' hy' hK hrun
    refine OpS.pure [] _ hK fun w G m a _ hx _ => ?_
    have h1 := hx x (by simp [ho, Op.operands]); rw [hx'] at h1
    have h2 := hx y (by simp [ho, Op.operands]); rw [hy'] at h2
    generalize hev : a.eval x = ex at h1
    generalize hev2 : a.eval y = ey at h2
    cases h1; cases h2
    exact ⟨r, by simp only [execOp, ho, hev, hev2]; rw [Sem.run_bind, hrun]; rfl, .val _⟩
  unfold aBin at h
  split at h
  · rename_i k a k' b hx' hy'
    obtain ⟨rfl, h⟩ := h
    unfold aBinI at h
    split at h
    case h_4 => exact go _ _ _ hx' hy' h.2 fun w => by rw [Sem.run_bind, run_eqGuard_plain _ _ _ _ _ _ rfl]; simp [binOp, Op.intDiv, h.1]
    case h_5 => exact go _ _ _ hx' hy' h.2 fun w => by rw [Sem.run_bind, run_eqGuard_plain _ _ _ _ _ _ rfl]; simp [binOp, Op.intDiv, h.1]
    all_goals first
      | exact h.elim
      | exact go _ _ _ hx' hy' h fun w => by rw [Sem.run_bind, run_eqGuard_plain _ _ _ _ _ _ rfl]; simp [binOp, Op.intArith, Op.intCmp] <;> rfl
      | exact go _ _ _ hx' hy' h fun w => by rw [Sem.run_bind, run_eqGuard_plain _ _ _ _ _ _ rfl]; simp [binOp, Op.intArith, Op.intCmp]
  · rename_i a b hx' hy'
    unfold aBinS at h
    split at h
    all_goals first
      | exact h.elim
      | exact go _ _ _ hx' hy' h fun w => by rw [Sem.run_bind, run_eqGuard_plain _ _ _ _ _ _ rfl]; simp only [binOp, Op.stringOp, eqStr, strLt, Result.andThen_ok, Sem.run_pure]
  · rename_i a b hx' hy'
    unfold aBinB at h
    split at h
    · exact go _ _ _ hx' hy' h.2 fun w => by rw [Sem.run_bind, run_eqGuard_plain _ _ _ _ _ _ rfl]; simp [binOp, run_equal_bool (ti_bool h.1)]
    · exact go _ _ _ hx' hy' h.2 fun w => by rw [Sem.run_bind, run_eqGuard_plain _ _ _ _ _ _ rfl]; simp [binOp, run_equal_bool (ti_bool h.1)]
    · exact h.elim
  · exact h.elim

def aUn (op : UnOp) (x : AV) (K : OK) : Prop := match op, x with
  | .not, .val (.bool b) => K [] 0 (.val (.bool (!b))) []
  | .neg, .val (.int k n) => K [] 0 (.val (.int k (k.wrap (0 - n)))) []
  | _, _ => False
theorem s_un {o : Oper} {S : St} {K : OK} {op : UnOp} {T : TypeId} {x : Operand} (ho : o.op = .unOp op T x) (h : aUn op (evalA (get S.t) x) K) : OpS P o S K := by
  unfold aUn at h
  split at h
  · rename_i b hx'
    refine OpS.pure [] _ h fun w G m a _ hx _ => ⟨.bool (!b), ?_, .val _⟩
    have h1 := hx x (by simp [ho, Op.operands]); rw [hx'] at h1
    generalize hev : a.eval x = ex at h1
    cases h1
    simp [execOp, ho, hev, Op.unary]
  · rename_i k n hx'
    refine OpS.pure [] _ h fun w G m a _ hx _ => ⟨.int k (k.wrap (0 - n)), ?_, .val _⟩
    have h1 := hx x (by simp [ho, Op.operands]); rw [hx'] at h1
    generalize hev : a.eval x = ex at h1
    cases h1
    simp [execOp, ho, hev, Op.unary, Op.intArith]
  · exact h.elim

end
end Go.Bw
