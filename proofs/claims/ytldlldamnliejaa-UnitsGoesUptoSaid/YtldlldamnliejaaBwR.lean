/- More rules: slices without elements, comparisons with nil, of structs, slice expressions, bytes of strings, conversions, nil checks. -/
import Derived.Test.YtldlldamnliejaaBw17
namespace Go.Bw
open Go

section
variable {P : Program}

theorem ti_ik {T : TypeId} (h : (ti P T).kind = 8) : P.underlying T = some (.int (ti P T).ik) := by
  unfold ti at h ⊢
  split at h
  · rename_i i d h1 h2
    rw [h2]
    dsimp only at h ⊢
    cases d <;> first | rfl | (simp at h; done) | (simp at h; split at h <;> simp at h)
  · cases h

theorem ti_ptr {T : TypeId} (h : (ti P T).kind = 5) : ∃ e, P.underlying T = some (.pointer e) := by
  unfold ti at h
  split at h
  · rename_i i d h1 h2
    dsimp only at h
    cases d <;> first | exact ⟨_, h2⟩ | (simp at h; done) | (simp at h; split at h <;> simp at h)
  · cases h
theorem ti_func {T : TypeId} (h : (ti P T).kind = 7) : ∃ a b c, P.underlying T = some (.func a b c) := by
  unfold ti at h
  split at h
  · rename_i i d h1 h2
    dsimp only at h
    cases d <;> first | exact ⟨_, _, _, h2⟩ | (simp at h; done) | (simp at h; split at h <;> simp at h)
  · cases h

theorem run_equalIn_ptr_nil (d : Nat) {t e : TypeId} (p : Option Addr) (h : P.underlying t = some (.pointer e)) (w : World) : (Op.equalIn (d + 1) t (.pointer p) (.pointer none)).run P w = .ok p.isNone w := by
  simp only [Op.equalIn, Sem.run_bind, run_underlying' h, Result.andThen]
  cases p <;> simp
theorem run_equalIn_func_nil (d : Nat) {t : TypeId} {a b c} (h : P.underlying t = some (.func a b c)) (w : World) : (Op.equalIn (d + 1) t .nilFunc .nilFunc).run P w = .ok true w := by
  simp only [Op.equalIn, Sem.run_bind, run_underlying' h, Result.andThen]
  simp
theorem run_equalIn_func_some (d : Nat) {t : TypeId} {a b c} (h : P.underlying t = some (.func a b c)) (fn : Go.Fn) (vf vc : Array Value) (w : World) : (Op.equalIn (d + 1) t (.func fn vf vc) .nilFunc).run P w = .ok false w := by
  simp only [Op.equalIn, Sem.run_bind, run_underlying' h, Result.andThen]
  simp

/-! ### a slice literal without elements -/
theorem s_buildSlice0 {o : Oper} {S : St} {K : OK} {T : TypeId} (ho : o.op = .buildSlice T 0 #[]) (hk : (ti P T).kind = 1) (hek : (ti P (ti P T).elem).known = true) (hK : K [] 0 (.sl true [] []) []) : OpS P o S K := by
  refine ⟨[], 0, .sl true [] [], [], OpT.of_run (by simp [keys]) (by simp [frs]) fun w G m a hg hx hH _ => ?_, hK⟩
  refine ⟨.slice (some ⟨w.heap.size, 0, none⟩) 0 0, w.alloc (.cells #[] (ti P T).elem), G, m, .inl ?_, alloc_ev w G m _ (fun _ _ h => h), .slnone true _ 0 (fun _ => rfl), by simp [hl], by simp [hl], by simp [hl], fun _ _ => rfl⟩
  simp [execOp, ho, Instr.buildSlice, run_underlying' (ti_slice hk), run_sizeOf' hek, Instr.fill, newRow]
  congr
  exact Array.eq_empty_of_size_eq_zero (by simp)

/-! ### comparisons with nil -/
/-- Is it nil? -/
def nilA (k : Nat) (x y : AV) : Option Bool := match y with
  | .val (.pointer none) => if k = 5 then (match x with | .ref .. => some false | .fptr _ => some false | .val (.pointer none) => some true | _ => none) else none
  | .val .nilFunc => if k = 7 then (match x with | .clo .. => some false | .val .nilFunc => some true | _ => none) else none
  | _ => none
def aNil (k : Nat) (op : BinOp) (x y : AV) (K : OK) : Prop := match nilA k x y with
  | some b => (op = .eql ∧ K [] 0 (.val (.bool b)) []) ∨ (op = .neq ∧ K [] 0 (.val (.bool (!b))) [])
  | none => False

def cmpV : Value → Bool
  | .pointer _ => true
  | .func .. => true
  | .nilFunc => true
  | .slice .. => true
  | .agg _ => true
  | _ => false
theorem run_bin_of_equal {op : BinOp} {t : TypeId} {x y : Value} {b : Bool} {w : World} (hx : cmpV x = true) (hop : op = .eql ∨ op = .neq) (h : (Op.equal t x y).run P w = .ok b w) :
    (binOp op t x y).run P w = .ok (.bool (if op = .eql then b else !b)) w := by
  rcases hop with rfl | rfl <;> cases x <;> first | (cases hx; done) | (simp [binOp, h])

theorem s_nil {o : Oper} {S : St} {K : OK} {op : BinOp} {T T2 : TypeId} {x y : Operand} (ho : o.op = .binOp op T x y T2) (h : aNil (ti P T).kind op (evalA (get S.t) x) (evalA (get S.t) y) K) : OpS P o S K := by
  unfold aNil at h
  split at h
  case h_2 => exact h.elim
  rename_i b hb
  have hop : op = .eql ∨ op = .neq := h.imp (fun h => h.1) (fun h => h.1)
  have hK : K [] 0 (.val (.bool (if op = .eql then b else !b))) [] := by
    rcases h with ⟨rfl, h⟩ | ⟨rfl, h⟩ <;> simpa using h
  refine OpS.pure [] _ hK fun w G m a _ hx _ => ⟨_, ?_, .val _⟩
  have h1 := hx x (by simp [ho, Op.operands])
  have h2 := hx y (by simp [ho, Op.operands])
  generalize evalA (get S.t) x = ax at *
  generalize evalA (get S.t) y = ay at *
  generalize hev : a.eval x = ex at *
  generalize hev2 : a.eval y = ey at *
  have key : ∀ w, (Op.equal T ex ey).run P w = .ok b w ∧ cmpV ex = true := by
    intro w
    unfold nilA at hb
    split at hb
    · split at hb
      · rename_i hk
        obtain ⟨e, he⟩ := ti_ptr hk
        cases h2
        split at hb <;> cases hb <;> cases h1 <;> exact ⟨run_equalIn_ptr_nil 9999 _ he w, rfl⟩
      · cases hb
    · split at hb
      · rename_i hk
        obtain ⟨e1, e2, e3, he⟩ := ti_func hk
        cases h2
        split at hb <;> cases hb <;> cases h1 <;> first | exact ⟨run_equalIn_func_some 9999 he _ _ _ w, rfl⟩ | exact ⟨run_equalIn_func_nil 9999 he w, rfl⟩
      · cases hb
    · cases hb
  have hg := run_eqGuard_plain (P := P) op T x y ex ey (by
    have := (key w).2
    cases ex <;> first | (cases this; done) | rfl | skip
    unfold nilA at hb
    split at hb
    · cases h2; rfl
    · cases h2; rfl
    · cases hb) w
  simp [execOp, ho, hev, hev2, hg, run_bin_of_equal (key w).2 hop (key w).1]

/-! ### bytes of strings; conversions; nil checks -/
def strAt (s : ByteArray) (j : Nat) : Nat := (s.data.toList.getD j 0).toNat
def aIndexS (t : TI) (x y : AV) (K : OK) : Prop := match x, y with
  | .val (.string s), .val (.int _ j) => t.kind = 2 ∧ 0 ≤ j ∧ j < s.size ∧ K [] 0 (.val (.int .u8 (strAt s j.toNat))) []
  | _, _ => False
theorem s_indexS {o : Oper} {S : St} {K : OK} {T : TypeId} {x y : Operand} (ho : o.op = .index T x y) (h : aIndexS (ti P T) (evalA (get S.t) x) (evalA (get S.t) y) K) : OpS P o S K := by
  unfold aIndexS at h
  split at h
  case h_2 => exact h.elim
  rename_i s k j hx' hy'
  obtain ⟨ht, h0, hj, hK⟩ := h
  refine OpS.pure [] _ hK fun w G m a _ hx _ => ⟨_, ?_, .val _⟩
  have h1 := hx x (by simp [ho, Op.operands]); rw [hx'] at h1
  have h2 := hx y (by simp [ho, Op.operands]); rw [hy'] at h2
  generalize hev : a.eval x = ex at *
  generalize hev2 : a.eval y = ey at *
  cases h1; cases h2
  have hlt : j.toNat < s.size := by omega
  have e : s[j.toNat]? = some s[j.toNat] := by simp [hlt]
  have e2 : strAt s j.toNat = (s[j.toNat]).toNat := by
    unfold strAt
    rw [List.getD_eq_getElem?_getD, List.getElem?_eq_getElem (by simpa using hlt)]
    rfl
  simp [execOp, ho, hev, hev2, Instr.index, asIntOf, run_underlying' (ti_string ht), h0, e, e2]

def aConv (t : TI) (x : AV) (K : OK) : Prop := match x with
  | .val (.int _ n) => t.kind = 8 ∧ K [] 0 (.val (.int t.ik (t.ik.wrap n))) []
  | .val (.string s) => t.kind = 2 ∧ K [] 0 (.val (.string s)) []
  | _ => False
theorem s_conv {o : Oper} {S : St} {K : OK} {T U : TypeId} {x : Operand} (ho : o.op = .convert U T x) (hU : (ti P U).kind = 8 ∨ (ti P U).kind = 2) (h : aConv (ti P T) (evalA (get S.t) x) K) : OpS P o S K := by
  have hUu : ∃ d, P.underlying U = some d := by
    rcases hU with h | h
    · exact ⟨_, ti_ik h⟩
    · exact ⟨_, ti_string h⟩
  obtain ⟨d, hd⟩ := hUu
  unfold aConv at h
  split at h
  · rename_i k n hx'
    obtain ⟨ht, hK⟩ := h
    refine OpS.pure [] _ hK fun w G m a _ hx _ => ⟨_, ?_, .val _⟩
    have h1 := hx x (by simp [ho, Op.operands]); rw [hx'] at h1
    generalize hev : a.eval x = ex at *
    cases h1
    rcases hU with h | h
    · simp [execOp, ho, hev, convert, run_underlying' (ti_ik h), run_underlying' (ti_ik ht), Conv.intToInt]
    · simp [execOp, ho, hev, convert, run_underlying' (ti_string h), run_underlying' (ti_ik ht), Conv.intToInt]
  · rename_i s hx'
    obtain ⟨ht, hK⟩ := h
    refine OpS.pure [] _ hK fun w G m a _ hx _ => ⟨_, ?_, .val _⟩
    have h1 := hx x (by simp [ho, Op.operands]); rw [hx'] at h1
    generalize hev : a.eval x = ex at *
    cases h1
    rcases hU with h | h
    · simp [execOp, ho, hev, convert, run_underlying' (ti_ik h), run_underlying' (ti_string ht)]
    · simp [execOp, ho, hev, convert, run_underlying' (ti_string h), run_underlying' (ti_string ht)]
  · exact h.elim

def okNil : AV → Bool
  | .ref .. => true
  | .fptr _ => true
  | .clo (.func _) _ _ => true
  | .clo (.via ..) _ _ => true
  | _ => false
theorem s_nilCheck {o : Oper} {S : St} {K : OK} {x : Operand} (ho : o.op = .nilCheck x) (hx1 : okNil (evalA (get S.t) x) = true) (hK : K [] 0 (evalA (get S.t) x) []) : OpS P o S K := by
  refine OpS.pure [] _ hK fun w G m a _ hx _ => ⟨a.eval x, ?_, ?_⟩
  · have h1 := hx x (by simp [ho, Op.operands])
    generalize hev : a.eval x = ex at *
    generalize evalA (get S.t) x = ax at *
    cases h1 <;> first | (cases hx1; done) | (simp [execOp, ho, hev]; done) | skip
    rename_i fn _ _ _ _ _ _ _ _
    cases fn <;> first | (cases hx1; done) | simp [execOp, ho, hev]
  · exact hx x (by simp [ho, Op.operands])

/-! ### slice expressions -/
def ioA : Option AV → Option (Option Int)
  | none => some none
  | some (.val (.int _ j)) => some (some j)
  | some _ => none
def aSliceS (e : TI) (f : Bool) (es sp : List (List AV)) (lo hi mx : Option Int) (K : OK) : Prop :=
  let l := lo.getD 0
  let h := hi.getD es.length
  0 ≤ l ∧ l ≤ h ∧ (∀ c ∈ es ++ sp, c.length = e.sz) ∧ match mx with
  | none => h ≤ (es ++ sp).length ∧ K [] 0 (.sl f (((es ++ sp).take h.toNat).drop l.toNat) ((es ++ sp).drop h.toNat)) []
  | some m => h ≤ m ∧ m ≤ (es ++ sp).length ∧ hi.isSome = true ∧ K [] 0 (.sl true (((es ++ sp).take h.toNat).drop l.toNat) (((es ++ sp).take m.toNat).drop h.toNat)) []
def allSz (o : Option Ob) (k : Nat) : Prop := match o with
  | some (.cells _ es) => es ≠ [] ∧ ∀ c ∈ es, c.length = k
  | _ => False
def aSliceR (e : TI) (id i n : Nat) (H : Heap) (lo hi mx : Option Int) (K : OK) : Prop :=
  let l := lo.getD 0
  let h := hi.getD n
  mx = none ∧ 0 ≤ l ∧ l ≤ h ∧ h ≤ n ∧ (l = 0 ∨ allSz (hget H id) e.sz) ∧ K [id] 0 (.rsl id (i + l.toNat) (h - l).toNat) []
def aSliceX (t e : TI) (x : AV) (lo hi mx : Option (Option Int)) (H : Heap) (K : OK) : Prop := match x, lo, hi, mx with
  | .sl f es sp, some lo, some hi, some mx => t.kind = 1 ∧ e.known = true ∧ aSliceS e f es sp lo hi mx K
  | .rsl id i n, some lo, some hi, some mx => t.kind = 1 ∧ e.known = true ∧ aSliceR e id i n H lo hi mx K
  | .val (.string s), some lo, some hi, some none => t.kind = 2 ∧ 0 ≤ lo.getD 0 ∧ lo.getD 0 ≤ hi.getD s.size ∧ hi.getD s.size ≤ s.size ∧ K [] 0 (.val (.string (s.extract (lo.getD 0).toNat (hi.getD s.size).toNat))) []
  | _, _, _, _ => False

/-- An operand's place in a slice expression. -/
def IoV (ov : Option Value) (j : Option Int) : Prop := match j with | none => ov = none | some j => ∃ k, ov = some (.int k j)

theorem io_rep {w : World} {G : Nat → Prop} {m : Where} {a : Act} {τ : Nat → AV} {x : Option Operand} {j : Option Int} (h : ioA (x.map (evalA τ)) = some j) (hr : ∀ y, x = some y → Rep w G m (evalA τ y) (a.eval y)) : IoV (x.map a.eval) j := by
  cases x with
  | none => simp only [Option.map_none, ioA, Option.some.injEq] at h; subst h; rfl
  | some y =>
    have h1 := hr y rfl
    simp only [Option.map_some] at h ⊢
    generalize evalA τ y = ay at *
    generalize a.eval y = ey at *
    unfold ioA at h
    split at h
    · rename_i h0; cases h0
    · rename_i k j' h0; cases h; cases h0; cases h1; exact ⟨k, rfl⟩
    · cases h

theorem run_sliceAt {T : TypeId} (ht : (ti P T).kind = 1) (he : (ti P (ti P T).elem).known = true) (w : World) (a : Option Addr) (len cap : Nat) (lo hi mx : Option Value) (jl jh jm : Option Int) (hl : IoV lo jl) (hh : IoV hi jh) (hm : IoV mx jm)
    (h0 : 0 ≤ jl.getD 0) (h1 : jl.getD 0 ≤ jh.getD len) (h2 : jh.getD len ≤ jm.getD cap) (h3 : jm.getD cap ≤ cap) (h4 : jm.isSome = true → jh.isSome = true) :
    (Instr.slice T (.slice a len cap) lo hi mx).run P w = .ok (.slice (if (jm.getD cap).toNat = (jl.getD 0).toNat then a else a.map (·.add ((jl.getD 0).toNat * (ti P (ti P T).elem).sz))) ((jh.getD len).toNat - (jl.getD 0).toNat) ((jm.getD cap).toNat - (jl.getD 0).toNat)) w := by
  have hb : ∀ (k : IntKind) (j : Int) (y : Nat) (c : BoundsCode), 0 ≤ j → j ≤ y → (Instr.sliceBound (.int k j) y c).run P w = .ok j.toNat w := fun k j y c h1 h2 => by simp [Instr.sliceBound, asIntOf, h1, h2]
  have hbs : (Instr.sliceBounds true len cap lo hi mx).run P w = .ok ((jl.getD 0).toNat, (jh.getD len).toNat, (jm.getD cap).toNat) w := by
    unfold Instr.sliceBounds
    cases jm with
    | none =>
      obtain rfl : mx = none := hm
      simp only [Option.getD_none] at *
      cases jh with
      | none =>
        obtain rfl : hi = none := hh
        simp only [Option.getD_none] at *
        cases jl with
        | none => obtain rfl : lo = none := hl; simp
        | some l => obtain ⟨k, rfl⟩ := hl; simp only [Option.getD_some] at *; simp [hb k l _ _ h0 h1]
      | some h =>
        obtain ⟨kh, rfl⟩ := hh
        simp only [Option.getD_some] at *
        have e1 := hb kh h cap .sliceAcap (by omega) h2
        cases jl with
        | none => obtain rfl : lo = none := hl; simp [e1]
        | some l =>
          obtain ⟨k, rfl⟩ := hl; simp only [Option.getD_some] at *
          have e2 := hb k l h.toNat .sliceB h0 (by omega)
          simp [e1, e2]
    | some m =>
      obtain ⟨km, rfl⟩ := hm
      simp only [Option.getD_some] at *
      have hs := h4 rfl
      cases jh with
      | none => cases hs
      | some h =>
        obtain ⟨kh, rfl⟩ := hh
        simp only [Option.getD_some] at *
        have e0 := hb km m cap .slice3Acap (by omega) h3
        have e1 := hb kh h m.toNat .slice3B (by omega) (by omega)
        cases jl with
        | none => obtain rfl : lo = none := hl; simp [e0, e1]
        | some l =>
          obtain ⟨k, rfl⟩ := hl; simp only [Option.getD_some] at *
          have e2 := hb k l h.toNat .slice3C h0 (by omega)
          simp [e0, e1, e2]
  simp [Instr.slice, run_underlying' (ti_slice ht), hbs, run_sizeOf' he]

theorem cell_add (b o k : Nat) : (Addr.add ⟨b, o, none⟩ k) = ⟨b, o + k, none⟩ := add_lit' b o k

/-- A part of a slice. -/
theorem rep_part {w : World} {G : Nat → Prop} {m : Where} {f : Bool} {es sp : List (List AV)} {v : Value} {k : Nat} (hr : Rep w G m (.sl f es sp) v) (hk : ∀ c ∈ es ++ sp, c.length = k) {l h : Nat} (h1 : l ≤ h) (h2 : h ≤ (es ++ sp).length) :
    ∃ a cap, v = .slice a es.length cap ∧ (es ++ sp).length ≤ cap ∧ (f = true → cap = (es ++ sp).length) ∧
      ∀ (f' : Bool) (sp' : List (List AV)) (cm : Nat), h ≤ cm → cm ≤ cap → (sp' = ((es ++ sp).drop h).take (cm - h) ∨ sp' = (es ++ sp).drop h ∧ cm = cap) → (f' = true → cm = h + sp'.length) →
        Rep w G m (.sl f' (((es ++ sp).take h).drop l) sp') (.slice (if cm = l then a else a.map (·.add (l * k))) (h - l) (cm - l)) := by
  cases hr with
  | slnil =>
    refine ⟨none, 0, rfl, by simp, fun _ => rfl, fun f' sp' cm hc1 hc2 hsp hf => ?_⟩
    simp only [List.append_nil, List.length_nil] at h2
    have e1 : h = 0 := by omega
    have e2 : l = 0 := by omega
    have e3 : cm = 0 := by omega
    subst e1 e2 e3
    have : sp' = [] := by rcases hsp with rfl | ⟨rfl, _⟩ <;> simp
    subst this
    simpa using Rep.slnil f'
  | slnone _ a cap hf0 =>
    refine ⟨some a, cap, rfl, by simp, fun hf => by simpa using hf0 hf, fun f' sp' cm hc1 hc2 hsp hf => ?_⟩
    simp only [List.append_nil, List.length_nil] at h2
    have e1 : h = 0 := by omega
    have e2 : l = 0 := by omega
    subst e1 e2
    have : sp' = [] := by rcases hsp with rfl | ⟨rfl, _⟩ <;> simp
    subst this
    have e : (if cm = 0 then some a else (some a).map (·.add (0 * k))) = some a := by
      split
      · rfl
      · simp [Addr.add]
    rw [e]
    simpa using Rep.slnone (w := w) (G := G) (m := m) f' a cm (fun hf' => by simpa using hf hf')
  | sl _ _ _ b o cap k0 vs hG hcap hf0 hk0 hc hone hrr =>
    refine ⟨some ⟨b, o, none⟩, cap, rfl, by rw [List.length_append]; exact hcap, fun hf => by rw [List.length_append]; exact hf0 hf, fun f' sp' cm hc1 hc2 hsp hf => ?_⟩
    have hspl : sp'.length ≤ cm - h ∧ sp'.length ≤ (es ++ sp).length - h ∧ ∀ i (hi : i < sp'.length) (hi' : h + i < (es ++ sp).length), sp'[i] = (es ++ sp)[h + i] := by
      rcases hsp with rfl | ⟨rfl, rfl⟩
      · refine ⟨by simp; omega, by simp; omega, fun i hi hi' => by simp⟩
      · refine ⟨by simp; omega, by simp, fun i hi hi' => by simp⟩
    have hpl : (((es ++ sp).take h).drop l).length = h - l := by rw [List.length_drop, List.length_take]; omega
    by_cases hB : (((es ++ sp).take h).drop l) = [] ∧ sp' = []
    · obtain ⟨hB1, hB2⟩ := hB
      have hlh : h = l := by rw [hB1] at hpl; simp at hpl; omega
      subst hB2
      rw [hB1, hlh]
      have : ∃ ad, (if cm = l then some (⟨b, o, none⟩ : Addr) else (some (⟨b, o, none⟩ : Addr)).map (·.add (l * k))) = some ad := by split <;> exact ⟨_, rfl⟩
      obtain ⟨ad, hd⟩ := this
      rw [hd, Nat.sub_self]
      exact Rep.slnone f' ad (cm - l) (fun hf' => by have := hf hf'; simp at this; omega)
    · have hne : (es ++ sp) ≠ [] := fun e => hB (by rcases hsp with rfl | ⟨rfl, _⟩ <;> simp [e])
      have hkk : k0 = k := by
        obtain ⟨c0, cs0, e⟩ := List.exists_cons_of_ne_nil hne
        have a1 := hk0 0 (by rw [e]; simp)
        have a2 := hk ((es ++ sp)[0]'(by rw [e]; simp)) (List.getElem_mem _)
        omega
      have hcm : cm ≠ l := fun e => hB (by
        have : h = l := by omega
        constructor
        · exact List.length_eq_zero_iff.1 (by rw [hpl]; omega)
        · exact List.length_eq_zero_iff.1 (by omega))
      rw [if_neg hcm]
      simp only [Option.map_some]
      rw [cell_add]
      have hget : ∀ i (hi : i < (((es ++ sp).take h).drop l ++ sp').length), ∃ hi' : l + i < (es ++ sp).length, (((es ++ sp).take h).drop l ++ sp')[i] = (es ++ sp)[l + i] := fun i hi => by
        rw [List.length_append, hpl] at hi
        by_cases h3 : i < h - l
        · refine ⟨by omega, ?_⟩
          rw [List.getElem_append_left (by rw [hpl]; exact h3)]
          simp
        · refine ⟨by omega, ?_⟩
          rw [List.getElem_append_right (by rw [hpl]; omega), hspl.2.2 _ (by rw [hpl]; omega) (by rw [hpl]; omega)]
          congr 1
          rw [hpl]; omega
      have := Rep.sl (w := w) (G := G) (m := m) f' (((es ++ sp).take h).drop l) sp' b (o + l * k) (cm - l) k (fun i j => vs (l + i) j) hG (by rw [hpl]; omega) (fun hf' => by rw [hpl]; have := hf hf'; omega)
        (fun i hi => by obtain ⟨h3, h4⟩ := hget i hi; rw [h4, hk0 _ h3, hkk])
        (fun i hi j hj => by
          obtain ⟨h3, h4⟩ := hget i hi
          have := hc (l + i) h3 j (by rw [← h4]; exact hj)
          rw [← this, hkk]
          congr 2
          rw [Nat.add_mul]; omega)
        (fun i hi j hj => by obtain ⟨h3, h4⟩ := hget i hi; exact hone (l + i) h3 j (by rw [← h4]; exact hj))
        (fun i hi j hj => by
          obtain ⟨h3, h4⟩ := hget i hi
          have := hrr (l + i) h3 j (by rw [← h4]; exact hj)
          simpa [h4] using this)
      rw [hpl] at this
      exact this

theorem ti_string_any {T : TypeId} (h : (ti P T).kind = 2) : P.underlying T = some .string := ti_string h

theorem s_slice {o : Oper} {S : St} {K : OK} {T : TypeId} {x : Operand} {lo hi mx : Option Operand} (ho : o.op = .slice T x lo hi mx)
    (h : aSliceX (ti P T) (ti P (ti P T).elem) (evalA (get S.t) x) (ioA (lo.map (evalA (get S.t)))) (ioA (hi.map (evalA (get S.t)))) (ioA (mx.map (evalA (get S.t)))) S.h K) : OpS P o S K := by
  have hmem : ∀ y, lo = some y ∨ hi = some y ∨ mx = some y → y ∈ o.op.operands := fun y hy => by
    rw [ho]
    rcases hy with rfl | rfl | rfl <;> simp [Op.operands]
  unfold aSliceX at h
  split at h
  · rename_i f es sp jl jh jm hx' hl hh hm
    obtain ⟨ht, he, h0, h1, hk, h2⟩ := h
    have key : ∀ (c : Nat) (hc : jh.getD es.length ≤ jm.getD c) (hc2 : jm.getD c ≤ c) (hc3 : jm.isSome = true → jh.isSome = true) (w : World) (G : Nat → Prop) (m : Where) (a : Act) (hx : ∀ x ∈ o.op.operands, Rep w G m (evalA (get S.t) x) (a.eval x)) (base : Option Addr) (e : a.eval x = .slice base es.length c),
        (execOp a.eval o).run P w = .ok (.value (.slice (if (jm.getD c).toNat = (jl.getD 0).toNat then base else base.map (·.add ((jl.getD 0).toNat * (ti P (ti P T).elem).sz))) ((jh.getD es.length).toNat - (jl.getD 0).toNat) ((jm.getD c).toNat - (jl.getD 0).toNat))) w := fun c hc hc2 hc3 w G m a hx base e => by
      have := run_sliceAt (P := P) ht he w base es.length c (lo.map a.eval) (hi.map a.eval) (mx.map a.eval) jl jh jm (io_rep hl fun y hy => hx y (hmem y (.inl hy))) (io_rep hh fun y hy => hx y (hmem y (.inr (.inl hy)))) (io_rep hm fun y hy => hx y (hmem y (.inr (.inr hy)))) h0 h1 hc hc2 hc3
      simp [execOp, ho, e, Instr.sliceAt, run_underlying' (ti_slice ht), this]
    cases jm with
    | none =>
      obtain ⟨h3, hK⟩ := h2
      refine OpS.pure [] _ hK fun w G m a _ hx _ => ?_
      have hr := hx x (by simp [ho, Op.operands]); rw [hx'] at hr
      obtain ⟨base, cap, e, hcap, hcapf, hrep⟩ := rep_part hr hk (l := (jl.getD 0).toNat) (h := (jh.getD es.length).toNat) (by omega) (by omega)
      have h4 := hrep f _ cap (by omega) (Nat.le_refl _) (.inr ⟨rfl, rfl⟩) (fun hf => by rw [hcapf hf, List.length_drop]; omega)
      refine ⟨_, key cap (by simp only [Option.getD_none]; omega) (by simp) (by simp) w G m a hx base e, ?_⟩
      simpa using h4
    | some mm =>
      obtain ⟨h3, h5, h6, hK⟩ := h2
      refine OpS.pure [] _ hK fun w G m a _ hx _ => ?_
      have hr := hx x (by simp [ho, Op.operands]); rw [hx'] at hr
      obtain ⟨base, cap, e, hcap, hcapf, hrep⟩ := rep_part hr hk (l := (jl.getD 0).toNat) (h := (jh.getD es.length).toNat) (by omega) (by omega)
      have e2 : ((es ++ sp).take mm.toNat).drop (jh.getD es.length).toNat = ((es ++ sp).drop (jh.getD es.length).toNat).take (mm.toNat - (jh.getD es.length).toNat) := by rw [List.drop_take]
      have h4 := hrep true _ mm.toNat (by omega) (by omega) (.inl rfl) (fun _ => by rw [List.length_take, List.length_drop]; omega)
      refine ⟨_, key cap (by simpa using h3) (by simp only [Option.getD_some]; omega) (fun _ => h6) w G m a hx base e, ?_⟩
      rw [e2]
      simpa using h4
  · rename_i id i n jl jh jm hx' hl hh hm
    obtain ⟨ht, he, rfl, h0, h1, h2, hob, hK⟩ := h
    refine OpS.pure [id] _ hK fun w G m a _ hx hH => ?_
    have hr := hx x (by simp [ho, Op.operands]); rw [hx'] at hr
    have hrun : ∀ (base : Option Addr) (cap : Nat) (hc : n ≤ cap) (e : a.eval x = .slice base n cap), (execOp a.eval o).run P w = .ok (.value (.slice (if cap = (jl.getD 0).toNat then base else base.map (·.add ((jl.getD 0).toNat * (ti P (ti P T).elem).sz))) ((jh.getD n).toNat - (jl.getD 0).toNat) (cap - (jl.getD 0).toNat))) w := fun base cap hc e => by
      have := run_sliceAt (P := P) ht he w base n cap (lo.map a.eval) (hi.map a.eval) (mx.map a.eval) jl jh none (io_rep hl fun y hy => hx y (hmem y (.inl hy))) (io_rep hh fun y hy => hx y (hmem y (.inr (.inl hy)))) (io_rep hm fun y hy => hx y (hmem y (.inr (.inr hy)))) h0 h1 (by simp only [Option.getD_none]; omega) (by simp) (by simp)
      simp only [Option.getD_none, Int.toNat_natCast] at this
      simp [execOp, ho, e, Instr.sliceAt, run_underlying' (ti_slice ht), this]
    have hsub : (jh.getD n).toNat - (jl.getD 0).toNat = (jh.getD (n : Int) - jl.getD 0).toNat := by omega
    generalize hev : a.eval x = ex at hr
    cases hr with
    | rslz _ _ ad =>
      refine ⟨_, hrun ad 0 (Nat.le_refl _) hev, ?_⟩
      have e1 : (jl.getD 0).toNat = 0 := by omega
      rw [hsub]
      have e2 : (jh.getD ((0 : Nat) : Int) - jl.getD 0).toNat = 0 := by omega
      rw [e2, e1]
      exact .rslz _ _ _
    | rsl _ _ _ cap b q k e nn hmm hlen hsh hin =>
      refine ⟨_, hrun _ cap hlen hev, ?_⟩
      rw [hsub]
      by_cases hc : cap = (jl.getD 0).toNat
      · have e2 : (jh.getD (n : Int) - jl.getD 0).toNat = 0 := by omega
        rw [e2, hc, Nat.sub_self]
        exact .rslz _ _ _
      · rw [if_neg hc]
        simp only [Option.map_some]
        rw [cell_add]
        have hkk : (jl.getD 0).toNat * (ti P (ti P T).elem).sz = (jl.getD 0).toNat * k := by
          rcases hob with h3 | h3
          · rw [h3]; simp
          · unfold allSz at h3
            split at h3
            · rename_i f es hes
              obtain ⟨hne, hall⟩ := h3
              have hob := hH.obj id _ (by simpa [restr] using hes)
              obtain ⟨h5, _⟩ | ⟨_, b', q', k', hm', _, _, hk, _⟩ := hob
              · exact absurd h5 hne
              rw [hmm] at hm'; cases hm'
              obtain ⟨c0, cs0, rfl⟩ := List.exists_cons_of_ne_nil hne
              rw [← hk 0 (by simp), ← hall c0 (by simp)]; rfl
            · exact h3.elim
        rw [hkk]
        have e3 : q + i * k + (jl.getD 0).toNat * k = q + (i + (jl.getD 0).toNat) * k := by rw [Nat.add_mul]; omega
        rw [e3]
        refine .rsl id _ _ _ b q k e nn hmm (by omega) hsh ?_
        have : (i + (jl.getD 0).toNat) + (cap - (jl.getD 0).toNat) = i + cap := by omega
        rw [this]; exact hin
  · rename_i s jl jh hx' hl hh hm
    obtain ⟨ht, h0, h1, h2, hK⟩ := h
    refine OpS.pure [] _ hK fun w G m a _ hx _ => ⟨_, ?_, .val _⟩
    have hr := hx x (by simp [ho, Op.operands]); rw [hx'] at hr
    generalize hev : a.eval x = ex at hr
    cases hr
    have e1 := io_rep (a := a) hl fun y hy => hx y (hmem y (.inl hy))
    have e2 := io_rep (a := a) hh fun y hy => hx y (hmem y (.inr (.inl hy)))
    have e3 := io_rep (a := a) hm fun y hy => hx y (hmem y (.inr (.inr hy)))
    have hb : ∀ (k : IntKind) (j : Int) (y : Nat) (c : BoundsCode), 0 ≤ j → j ≤ y → (Instr.sliceBound (.int k j) y c).run P w = .ok j.toNat w := fun k j y c h1 h2 => by simp [Instr.sliceBound, asIntOf, h1, h2]
    obtain rfl : mx = none := by simpa [IoV] using e3
    have hbs : ∀ lo' hi', IoV lo' jl → IoV hi' jh → (Instr.sliceBounds false s.size s.size lo' hi' none).run P w = .ok ((jl.getD 0).toNat, (jh.getD s.size).toNat, s.size) w := by
      intro lo' hi' e1 e2
      unfold Instr.sliceBounds
      cases jh with
      | none =>
        obtain rfl : hi' = none := e2
        simp only [Option.getD_none] at *
        cases jl with
        | none => obtain rfl : lo' = none := e1; simp
        | some l => obtain ⟨k, rfl⟩ := e1; simp only [Option.getD_some] at *; simp [hb k l _ _ h0 h1]
      | some h =>
        obtain ⟨kh, rfl⟩ := e2
        simp only [Option.getD_some] at *
        have g1 := hb kh h s.size .sliceAlen (by omega) h2
        cases jl with
        | none => obtain rfl : lo' = none := e1; simp [g1]
        | some l =>
          obtain ⟨k, rfl⟩ := e1; simp only [Option.getD_some] at *
          have g2 := hb k l h.toNat .sliceB h0 (by omega)
          simp [g1, g2]
    simp [execOp, ho, hev, Instr.sliceAt, Instr.slice, run_underlying' (ti_string ht), hbs _ _ e1 e2]
  · exact h.elim
end
end Go.Bw
