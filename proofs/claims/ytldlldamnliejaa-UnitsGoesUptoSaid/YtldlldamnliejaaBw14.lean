/- Rules: slices made of parts, made by make; append. -/
import Derived.Test.YtldlldamnliejaaBw13
namespace Go.Bw
open Go

section
variable {P : Program}

def chunks (sz : Nat) : Nat → List AV → List (List AV)
  | 0, _ => []
  | n + 1, cs => cs.take sz :: chunks sz n (cs.drop sz)
def rep0 : Nat → List AV → List AV
  | 0, _ => []
  | n + 1, z => z ++ rep0 n z

theorem chunks_length (sz : Nat) : ∀ (n : Nat) (cs : List AV), (chunks sz n cs).length = n := by
  intro n
  induction n with
  | zero => intro cs; rfl
  | succ n ih => intro cs; simp [chunks, ih]
theorem chunks_get? (sz : Nat) : ∀ (n : Nat) (cs : List AV) (i : Nat), i < n → (chunks sz n cs)[i]? = some ((cs.drop (i * sz)).take sz) := by
  intro n
  induction n with
  | zero => intro cs i hi; omega
  | succ n ih =>
    intro cs i hi
    cases i with
    | zero => simp [chunks]
    | succ i =>
      simp only [chunks, List.getElem?_cons_succ]
      rw [ih (cs.drop sz) i (by omega), List.drop_drop, Nat.add_mul, Nat.one_mul, Nat.add_comm sz]
theorem chunks_get (sz n : Nat) (cs : List AV) (i : Nat) (hi : i < (chunks sz n cs).length) (hl : cs.length = n * sz) :
    ((chunks sz n cs)[i]).length = sz ∧ ∀ j (hj : j < ((chunks sz n cs)[i]).length), ∃ h : i * sz + j < cs.length, ((chunks sz n cs)[i])[j] = cs[i * sz + j] := by
  have hin : i < n := by rw [chunks_length] at hi; exact hi
  have e : (chunks sz n cs)[i] = (cs.drop (i * sz)).take sz := by
    have := chunks_get? sz n cs i hin
    rw [List.getElem?_eq_getElem hi] at this
    exact Option.some.inj this
  have hle : (i + 1) * sz ≤ n * sz := Nat.mul_le_mul_right _ hin
  rw [Nat.add_mul] at hle
  rw [e]
  refine ⟨by simp; omega, fun j hj => ?_⟩
  simp only [List.length_take, List.length_drop] at hj
  exact ⟨by omega, by simp⟩
theorem rep0_length (n : Nat) (z : List AV) : (rep0 n z).length = n * z.length := by
  induction n with
  | zero => simp [rep0]
  | succ n ih => simp [rep0, ih, Nat.add_mul]; omega
theorem rep0_get (z : List AV) : ∀ (n t : Nat) (ht : t < (rep0 n z).length), ∃ h : t % z.length < z.length, (rep0 n z)[t] = z[t % z.length] := by
  intro n
  induction n with
  | zero => intro t ht; simp [rep0] at ht
  | succ n ih =>
    intro t ht
    simp only [rep0] at ht ⊢
    have hz : 0 < z.length := by
      rcases Nat.eq_zero_or_pos z.length with h | h
      · rw [List.length_append, rep0_length, h] at ht; simp at ht
      · exact h
    by_cases h : t < z.length
    · refine ⟨Nat.mod_lt _ hz, ?_⟩
      rw [List.getElem_append_left h]
      simp [Nat.mod_eq_of_lt h]
    · rw [List.getElem_append_right (by omega)]
      obtain ⟨h1, h2⟩ := ih (t - z.length) (by simp at ht ⊢; omega)
      have e : (t - z.length) % z.length = t % z.length := by rw [← Nat.mod_eq_sub_mod (by omega)]
      refine ⟨Nat.mod_lt _ hz, ?_⟩
      rw [h2]
      simp [e]

def aBuildSlice (P : Program) (T len : Nat) (parts : List (Nat × AV)) (nx : Nat) (K : OK) : Prop :=
  (ti P T).kind = 1 ∧ (ti P (ti P T).elem).known = true ∧ zeroKnown P (ti P T).elem = true ∧ (ti P (ti P T).elem).zero.all AV.one = true ∧ (ti P (ti P T).elem).zero.length = (ti P (ti P T).elem).sz ∧
  0 < len * (ti P (ti P T).elem).sz ∧ len * (ti P (ti P T).elem).sz ≤ 16777216 ∧
  match fillA (fun i => some (i * (ti P (ti P T).elem).sz, (ti P (ti P T).elem).sz)) parts (rep0 len (ti P (ti P T).elem).zero) with
  | some cs => K [] 1 (.rsl nx 0 len) [(nx, some (.cells false (chunks (ti P (ti P T).elem).sz len cs)))]
  | none => False

theorem zero_rep {e : TypeId} (hk : (ti P e).known = true) (hzk : zeroKnown P e = true) (hone : (ti P e).zero.all AV.one = true) (w : World) (G : Nat → Prop) (m : Where) :
    ∃ z : Value, (zeroValue e).run P w = .ok z w ∧ (ti P e).zero.length = z.cells.size ∧ ∀ j (hj : j < (ti P e).zero.length), Rep w G m ((ti P e).zero[j]) (z.cells.getD j undef) ∧ (z.cells.getD j undef).oneCell' = true := by
  obtain ⟨i, d, h1, h2⟩ := ti_known hk
  obtain ⟨z, hz⟩ : ∃ z, i.zero = some z := by
    simp only [zeroKnown, h1] at hzk
    exact Option.isSome_iff_exists.1 hzk
  obtain ⟨hl, hr⟩ := rep_zero (P := P) w G m h1 h2 hz
  exact ⟨z, by simp [zeroValue, run_typeInfo' h1, hz], hl, fun j hj => ⟨hr j hj, rep_one (hr j hj) (List.all_eq_true.1 hone _ (List.getElem_mem hj))⟩⟩

theorem s_buildSlice {o : Oper} {S : St} {K : OK} {T len : Nat} {parts : Array (Nat × Operand)} (ho : o.op = .buildSlice T len parts)
    (h : aBuildSlice P T len (parts.toList.map fun p => (p.1, evalA (get S.t) p.2)) S.nx K) : OpS P o S K := by
  obtain ⟨hk, hek, hzk, hone, hzl, hpos, hle, h⟩ := h
  split at h
  case h_2 => exact h.elim
  rename_i cs hcs
  refine OpS.alloc _ _ h fun w G m a _ hx => ?_
  obtain ⟨z, hz, hl, hr⟩ := zero_rep hek hzk hone w G m
  generalize hsz : (ti P (ti P T).elem).sz = sz at *
  generalize hzz : (ti P (ti P T).elem).zero = zz at *
  have hszp : 0 < sz := Nat.pos_of_mul_pos_left hpos
  have hzs : z.cells.size = sz := by omega
  obtain ⟨vout, hv1, hv2, hv3⟩ := fill_rep (w := w) (G := G) (m := m) (fun i => some (i * sz, sz)) (parts.toList.map fun p => (p.1, evalA (get S.t) p.2)) (parts.toList.map fun p => (p.1, a.eval p.2)) _
    ((Array.range (len * sz)).map (z.cells[· % z.cells.size]!)) cs (by simp)
    (fun j h1 h2 => by
      simp only [List.getElem_map, true_and]
      refine hx _ ?_
      simp only [ho, Op.operands]
      simp only [List.mem_toArray, List.mem_map]
      exact ⟨_, List.getElem_mem (by simpa using h1), rfl⟩) (by simp [rep0_length, hzl]) (fun j hj => by
      obtain ⟨h1, h2⟩ := rep0_get zz len j hj
      have hj' : j < len * sz := by rw [rep0_length, hzl] at hj; exact hj
      rw [h2]
      have := hr (j % zz.length) h1
      have e : j % zz.length = j % sz := by rw [hzl]
      have hlt : j % sz < z.cells.size := by rw [hzs]; exact Nat.mod_lt _ hszp
      have e2 : ((Array.range (len * sz)).map (z.cells[· % z.cells.size]!)).getD j undef = z.cells.getD (j % zz.length) undef := by
        rw [e]
        have hlt' : j % sz < sz := Nat.mod_lt _ hszp
        simp [Array.getD, hj', hzs, hlt']
      rw [e2]; exact this) hcs
  have hcl : cs.length = len * sz := by
    have hf : ∀ (parts : List (Nat × AV)) (a b : List AV), fillA (fun i => some (i * sz, sz)) parts a = some b → b.length = a.length := by
      intro parts
      induction parts with
      | nil => intro a b h; simp only [fillA, Option.some.injEq] at h; rw [h]
      | cons p r ih =>
        intro a b h
        obtain ⟨i, x⟩ := p
        simp only [fillA] at h
        split at h
        · rename_i hc
          rw [ih _ _ h]
          simp only [splice, List.length_append, List.length_take, List.length_drop]; omega
        · cases h
    rw [hf _ _ _ hcs, rep0_length, hzl]
  refine ⟨vout, (ti P T).elem, sz, .slice (some ⟨w.heap.size, 0, none⟩) len len, ?_, fun i hi => (chunks_get sz len cs i hi hcl).1, fun i hi j hj => ?_, fun m' hm' => ?_⟩
  · have hpt : (parts.map fun x => (x.1, a.eval x.2)).toList = parts.toList.map fun p => (p.1, a.eval p.2) := by simp
    have hne : ¬ (len * sz = 0) := by omega
    have hng : ¬ (len * sz > 2 ^ 24) := by omega
    have hs := run_sizeOf' hek w
    rw [hsz] at hs
    simp only [execOp, ho, Instr.buildSlice, Sem.run_bind, run_underlying' (ti_slice hk), Result.andThen_ok, hs, if_neg hng, if_neg hne, hz, Sem.run_pure, hpt, hv1]
    simp [newRow]
  · obtain ⟨h1, h2⟩ := (chunks_get sz len cs i hi hcl).2 j hj
    rw [h2]
    obtain ⟨h3, h4⟩ := hv3 _ h1
    have h5 : i * sz + j < vout.size := by omega
    refine ⟨vout.getD (i * sz + j) undef, by simp [Array.getD, h5], h4, h3⟩
  · have hs : (w.alloc (.cells vout (ti P T).elem)).shape? w.heap.size = some ((ti P T).elem, vout.size) := by
      show (match (w.heap.push _)[w.heap.size]? with | some (.cells c elem _) => some (elem, c.size) | _ => none) = _
      simp
    have := Rep.rsl (w := w.alloc (.cells vout (ti P T).elem)) (G := G) (m := m') S.nx 0 len len w.heap.size 0 sz _ _ (hm' (fun h => by have := chunks_length sz len cs; rw [h] at this; simp at this; rw [← this] at hpos; simp at hpos)) (Nat.le_refl _) hs (by simp; omega)
    simpa using this

/-! ### make -/
def aMake (P : Program) (T : Nat) (x y : AV) (nx : Nat) (K : OK) : Prop := match x, y with
  | .val (.int _ l), .val (.int _ c) => (ti P T).kind = 1 ∧ (ti P (ti P T).elem).known = true ∧ zeroKnown P (ti P T).elem = true ∧ (ti P (ti P T).elem).zero.all AV.one = true ∧
    (ti P (ti P T).elem).zero.length = (ti P (ti P T).elem).sz ∧ 0 < (ti P (ti P T).elem).bytes ∧ 0 < (ti P (ti P T).elem).sz ∧ 0 ≤ l ∧ l ≤ c ∧ c * (ti P (ti P T).elem).bytes ≤ 281474976710656 ∧
    K [] 1 (.rsl nx 0 l.toNat) [(nx, some (.cells false (List.replicate c.toNat (ti P (ti P T).elem).zero)))]
  | _, _ => False

theorem wrap_small {l : Int} (h0 : 0 ≤ l) (h1 : l ≤ 281474976710656) : IntKind.i64.wrap l = l := by
  have e : IntKind.i64.wrap l = (if l % (2 ^ 64 : Int) ≥ (2 ^ 63 : Int) then l % (2 ^ 64 : Int) - (2 ^ 64 : Int) else l % (2 ^ 64 : Int)) := by
    simp [IntKind.wrap, IntKind.bits, IntKind.signed]
  rw [e]
  have h2 : l % (2 ^ 64 : Int) = l := Int.emod_eq_of_lt h0 (by omega)
  rw [h2, if_neg (by omega)]

theorem ti_bytes {T : TypeId} {i : TypeInfo} {d : TypeDesc} (h1 : P.info? T = some i) (h2 : P.underlying T = some d) : i.bytes = (ti P T).bytes := by simp [ti, h1, h2]

theorem s_make {o : Oper} {S : St} {K : OK} {T : Nat} {x y : Operand} (ho : o.op = .makeSlice T x y) (h : aMake P T (evalA (get S.t) x) (evalA (get S.t) y) S.nx K) : OpS P o S K := by
  unfold aMake at h
  split at h
  case h_2 => exact h.elim
  rename_i k1 l k2 c hx' hy'
  obtain ⟨hk, hek, hzk, hone, hzl, hby, hszp, h0, hlc, hle, hK⟩ := h
  refine OpS.alloc _ _ hK fun w G m a _ hx => ?_
  have h1 := hx x (by simp [ho, Op.operands]); rw [hx'] at h1
  have h2 := hx y (by simp [ho, Op.operands]); rw [hy'] at h2
  generalize hev : a.eval x = ex at h1
  generalize hev2 : a.eval y = ey at h2
  cases h1; cases h2
  obtain ⟨z, hz, hl, hr⟩ := zero_rep hek hzk hone w G m
  obtain ⟨ii, dd, hi1, hi2⟩ := ti_known hek
  have hbytes : ii.bytes = (ti P (ti P T).elem).bytes := ti_bytes hi1 hi2
  generalize hbb : (ti P (ti P T).elem).bytes = bytes at *
  have hs := run_sizeOf' hek w
  generalize hsz : (ti P (ti P T).elem).sz = sz at *
  generalize hzz : (ti P (ti P T).elem).zero = zz at *
  have hzs : z.cells.size = sz := by omega
  have hc48 : c ≤ 281474976710656 := by
    have : c * 1 ≤ c * bytes := Int.mul_le_mul_of_nonneg_left (by omega) (by omega)
    omega
  have hwl : IntKind.i64.wrap l = l := wrap_small h0 (by omega)
  have hwc : IntKind.i64.wrap c = c := wrap_small (by omega) hc48
  have hbig : ¬ (281474976710656 < (bytes : Int) * c) := by rw [Int.mul_comm]; omega
  refine ⟨(Array.range (c.toNat * sz)).map (z.cells[· % z.cells.size]!), (ti P T).elem, sz, .slice (some ⟨w.heap.size, 0, none⟩) l.toNat c.toNat, ?_, fun i hi => by simp [hzl], fun i hi j hj => ?_, fun m' hm' => ?_⟩
  · have hc0 : ¬ (c < 0) := by omega
    have hl0 : ¬ (l < 0) := by omega
    have hlc' : ¬ (c < l) := by omega
    by_cases hn : c.toNat * sz = 0
    · have e0 : ∀ f : Nat → Value, (Array.range 0).map f = #[] := fun f => by simp
      simp [execOp, ho, hev, hev2, Instr.makeSlice, run_underlying' (ti_slice hk), asInt, asIntOf, run_typeInfo' hi1, hbytes, hwl, hwc, hbig, hc0, hl0, hlc', hs, hn, newRow]
      rw [e0, e0]
    · simp [execOp, ho, hev, hev2, Instr.makeSlice, run_underlying' (ti_slice hk), asInt, asIntOf, run_typeInfo' hi1, hbytes, hwl, hwc, hbig, hc0, hl0, hlc', hs, hn, newRow, hz]
  · simp only [List.length_replicate] at hi
    simp only [List.getElem_replicate] at hj ⊢
    have hlt : i * sz + j < c.toNat * sz := by
      have : (i + 1) * sz ≤ c.toNat * sz := Nat.mul_le_mul_right _ (by omega)
      rw [Nat.add_mul] at this; omega
    have hj' : j < z.cells.size := by omega
    have e : (i * sz + j) % z.cells.size = j := by
      rw [hzs, Nat.mul_comm, Nat.mul_add_mod, Nat.mod_eq_of_lt (by omega)]
    obtain ⟨h3, h4⟩ := hr j hj
    refine ⟨z.cells.getD j undef, ?_, h4, h3⟩
    simp [hlt, e, Array.getD, hj']
  · have hsh : (w.alloc (.cells ((Array.range (c.toNat * sz)).map (z.cells[· % z.cells.size]!)) (ti P T).elem)).shape? w.heap.size = some ((ti P T).elem, c.toNat * sz) := by
      show (match (w.heap.push _)[w.heap.size]? with | some (.cells c elem _) => some (elem, c.size) | _ => none) = _
      simp
    by_cases hcz : c.toNat = 0
    · have hlz : l.toNat = 0 := by omega
      rw [hcz, hlz]
      exact .rslz _ _ _
    · have := Rep.rsl (G := G) (m := m') S.nx 0 l.toNat c.toNat w.heap.size 0 sz _ _ (hm' (by simpa using hcz)) (by omega) hsh (by simp)
      simpa using this

end
end Go.Bw
