/- Rules: the lesser and the greater of two integers. -/
import Derived.Test.YtldlldamnliejaaBw16
namespace Go.Bw
open Go

section
variable {P : Program}
def aMax (x y : AV) (K : OK) : Prop := match x, y with
  | .val (.int k a), .val (.int _ b) => K [] 0 (.val (.int k (if b > a then b else a))) []
  | _, _ => False
def aMin (x y : AV) (K : OK) : Prop := match x, y with
  | .val (.int k a), .val (.int _ b) => K [] 0 (.val (.int k (if b < a then b else a))) []
  | _, _ => False

theorem s_max {o : Oper} {S : St} {K : OK} {x y : Operand} {xs : Array Operand} {ts : Array TypeId} (ho : o.op = .call { callee := .builtin .max, args := xs, argTypes := ts }) (hxs : xs.toList = [x, y])
    (h : aMax (evalA (get S.t) x) (evalA (get S.t) y) K) : OpS P o S K := by
  have hxs' : xs = #[x, y] := by rw [← Array.toArray_toList (xs := xs), hxs]
  have hmx : x ∈ o.op.operands := by rw [ho, hxs']; simp [Op.operands, Call.operands]
  have hmy : y ∈ o.op.operands := by rw [ho, hxs']; simp [Op.operands, Call.operands]
  unfold aMax at h
  split at h
  case h_2 => exact h.elim
  rename_i k1 l k2 c hx' hy'
  refine OpS.pure [] _ h fun w G m a _ hx _ => ⟨.int k1 (if c > l then c else l), ?_, .val _⟩
  have h1 := hx x hmx; rw [hx'] at h1
  have h2 := hx y hmy; rw [hy'] at h2
  generalize hev : a.eval x = ex at h1
  generalize hev2 : a.eval y = ey at h2
  cases h1; cases h2
  simp [execOp, ho, hxs', resolve, invoke, builtin, Builtin.max_, Builtin.max2, hev, hev2]
theorem s_min {o : Oper} {S : St} {K : OK} {x y : Operand} {xs : Array Operand} {ts : Array TypeId} (ho : o.op = .call { callee := .builtin .min, args := xs, argTypes := ts }) (hxs : xs.toList = [x, y])
    (h : aMin (evalA (get S.t) x) (evalA (get S.t) y) K) : OpS P o S K := by
  have hxs' : xs = #[x, y] := by rw [← Array.toArray_toList (xs := xs), hxs]
  have hmx : x ∈ o.op.operands := by rw [ho, hxs']; simp [Op.operands, Call.operands]
  have hmy : y ∈ o.op.operands := by rw [ho, hxs']; simp [Op.operands, Call.operands]
  unfold aMin at h
  split at h
  case h_2 => exact h.elim
  rename_i k1 l k2 c hx' hy'
  refine OpS.pure [] _ h fun w G m a _ hx _ => ⟨.int k1 (if c < l then c else l), ?_, .val _⟩
  have h1 := hx x hmx; rw [hx'] at h1
  have h2 := hx y hmy; rw [hy'] at h2
  generalize hev : a.eval x = ex at h1
  generalize hev2 : a.eval y = ey at h2
  cases h1; cases h2
  simp [execOp, ho, hxs', resolve, invoke, builtin, Builtin.min_, Builtin.min2, hev, hev2]
end
end Go.Bw
