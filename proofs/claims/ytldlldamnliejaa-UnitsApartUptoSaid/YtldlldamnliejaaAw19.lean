/- Plain laws: numbers that stay within 64 bits; loops. -/
import Derived.Test.YtldlldamnliejaaAw20
namespace Go.Aw
open Go

theorem wrap_id {l : Int} (h0 : -9223372036854775808 ≤ l) (h1 : l ≤ 9223372036854775807) : IntKind.i64.wrap l = l := by
  have e : IntKind.i64.wrap l = (if l % (2 ^ 64 : Int) ≥ (2 ^ 63 : Int) then l % (2 ^ 64 : Int) - (2 ^ 64 : Int) else l % (2 ^ 64 : Int)) := by
    simp [IntKind.wrap, IntKind.bits, IntKind.signed]
  rw [e]
  have e2 : (2 : Int) ^ 64 = 18446744073709551616 := by decide
  have e3 : (2 : Int) ^ 63 = 9223372036854775808 := by decide
  rw [e2, e3]
  split <;> omega

def body (f : Func) : Code := f.body.getD .skip

/-- A body's walk, begun. -/
theorem Fn.walk {P : Program} {f : FuncId} {fn : Func} {args : List AV} {out : AV} (keep : List Nat) (hf : P.funcs[f]? = some fn) (hname : (fn.name == "runtime.NumGoroutine") = false)
    (hb : fn.body.isSome = true) (hd : dstOk fn.ntmps (body fn) = true) (hn : args.length ≤ fn.ntmps) (hfree : ∀ x ∈ args, Free x)
    (h : W P 0 keep (body fn) [] (retOk P fn out) ⟨enter args, [], 0⟩) : Fn P f args out := by
  obtain ⟨c, hc⟩ := Option.isSome_iff_exists.1 hb
  refine Fn.of_awp (arule_sound P) (keep := keep) hf hname hc (by simpa [body, hc] using hd) hn hfree ?_
  have : body fn = c := by simp [body, hc]
  rw [this] at h
  exact h

theorem FnH.walk {P : Program} {f : FuncId} {fn : Func} {args : List AV} {out : AV} {H : Nat → Option Ob} {H0 ch : Heap} {n0 k : Nat} (keep : List Nat)
    (hf : P.funcs[f]? = some fn) (hname : (fn.name == "runtime.NumGoroutine") = false)
    (hb : fn.body.isSome = true) (hd : dstOk fn.ntmps (body fn) = true) (hn : args.length ≤ fn.ntmps) (hargs : ∀ x ∈ args, Only (keys H0) x)
    (hH : ∀ id ∈ keys H0, H id = hget H0 id ∧ id < n0 ∧ ∃ es, hget H0 id = some (false, es) ∧ es ≠ [] ∧ ∀ x ∈ es, ∀ y ∈ x, Only (keys H0) y)
    (hk1 : ∀ id ∈ keys H0, id ∈ keys ch) (hk2 : ∀ id ∈ frs n0 k, id ∈ keys ch) (hk3 : ∀ id ∈ keys ch, id ∈ keys H0 ∨ id ∈ frs n0 k)
    (h : W P n0 keep (body fn) [] (retOkH P fn n0 out ch) ⟨enter args, H0, n0⟩) : FnH P f args H (keys H0) (frs n0 k) out ch := by
  obtain ⟨c, hc⟩ := Option.isSome_iff_exists.1 hb
  refine FnH.of_awp (arule_sound P) (keep := keep) hf hname hc (by simpa [body, hc] using hd) hn hargs hH hk1 hk2 hk3 ?_
  have : body fn = c := by simp [body, hc]
  rw [this] at h
  exact h

/-- The end of a body: what it returns stands as it is. -/
theorem ret_same {P : Program} {fn : Func} {out : AV} {e : Exit} {S : St} (he : e = .ret ∨ e = .normal) (h : retAV P S fn.results.toList out) (hf : Free out) : retOk P fn out e S :=
  ⟨he, S, Le.refl _ _, h, hf⟩
/-- The end of a body: its objects are not written any more. -/
theorem ret_frozen {P : Program} {fn : Func} {out : AV} {e : Exit} {S : St} (he : e = .ret ∨ e = .normal) (t : List (Nat × AV)) (ht : ∀ p ∈ t, Vw (fun _ => True) (hget S.h) (get S.t p.1) p.2)
    (h : retAV P ⟨t, [], S.nx⟩ fn.results.toList out) (hf : Free out) : retOk P fn out e S :=
  ⟨he, _, Le.freezeAll t ht, h, hf⟩

theorem free_flat {f : Bool} {es sp : List (List AV)} (h : ∀ e ∈ es ++ sp, ∀ c ∈ e, Free c) : Free (.sl f es sp) := free_sl h

/-- Some temporaries and some objects, as they stand. -/
theorem Le.th {n0 : Nat} {S : St} (t : List (Nat × AV)) (h : Heap) (n : Nat) (hn : S.nx ≤ n) (ht : ∀ p ∈ t, get S.t p.1 = p.2) (hh : ∀ p ∈ h, hget S.h p.1 = p.2) : Le n0 S ⟨t, h, n⟩ :=
  Le.sub (fun x => by
    dsimp only
    induction t with
    | nil => exact .inr rfl
    | cons p r ih =>
      obtain ⟨i, v⟩ := p
      simp only [get]
      split
      · rename_i e; subst e; exact .inl (ht (x, v) (by simp)).symm
      · exact ih (fun q hq => ht q (by simp [hq]))) (fun x => by
    dsimp only
    induction h with
    | nil => exact .inr rfl
    | cons p r ih =>
      obtain ⟨i, v⟩ := p
      simp only [hget]
      split
      · rename_i e; subst e; exact .inl (hh (x, v) (by simp)).symm
      · exact ih (fun q hq => hh q (by simp [hq]))) hn

/-- A round's end in a loop without objects. -/
theorem nxt_tmps {n0 n n' : Nat} {I : Nat → St → Prop} {S : St} (t : List (Nat × AV)) (hlt : n' < n) (ht : ∀ p ∈ t, get S.t p.1 = p.2) (hI : I n' ⟨t, [], S.nx⟩) : Nxt n0 I n S :=
  ⟨n', _, hlt, Le.tmps t S.nx (Nat.le_refl _) ht, hI⟩

/-- A function upon an object without elements. -/
theorem FnH.of_nil {P : Program} {f : FuncId} {H : Nat → Option Ob} {id nx : Nat} (h : Fn P f [.sl false [] []] (.tup [])) (hid : H id = some (false, [])) : FnH P f [.rsl id 0 0] H [id] (frs nx 0) (.tup []) [(id, some (false, []))] := by
  have hk : ∀ i ∈ keys [(id, some ((false, []) : Ob))], i = id := fun i hi => by simpa [keys] using hi
  refine ⟨h.enters, fun i hi => .inr ⟨by simp [hk i hi], [], by rw [hk i hi]; exact hid⟩, by simp [frs], fun w G m us hg hlen hr hH _ => ?_⟩
  have hob := hH.obj id (false, []) (by simp [restr, hid])
  have hm : m id = none := by
    obtain ⟨_, e⟩ | ⟨h, _⟩ := hob.out
    · exact e
    · exact absurd rfl h
  have := h.run w G m us hg (by simpa using hlen) (fun j hj => ?_) ⟨fun id x hx => by simp [restr] at hx, fun i j es es' x y hi => by simp [restr] at hi⟩ (by simp)
  · refine Calls.mono this ?_
    rintro e w' ⟨v, G', m', rfl, hres⟩
    have ev := hres.ev
    have hmm : m' = m := funext fun id => hres.ids id (by simp)
    subst hmm
    refine ⟨v, G', m', rfl, ⟨ev.weaken fun b ⟨i, hi, _⟩ => by simp [keys] at hi, hres.rep, fun i x hx => ?_, fun i es x hx => ?_, fun i j es es' x y hx hy hne => ?_, fun _ _ => rfl⟩⟩
    · simp only [hl] at hx
      split at hx
      · rename_i e; subst e; cases hx; exact ⟨.inl ⟨rfl, hm⟩⟩
      · cases hx
    · simp only [hl] at hx
      split at hx
      · rename_i e; subst e; intro h; rw [hm] at h; cases h
      · cases hx
    · simp only [hl] at hx hy
      split at hx
      · rename_i e; split at hy
        · rename_i e'; exact absurd (e.trans e'.symm) hne
        · cases hy
      · cases hx
  · obtain rfl : j = 0 := by simpa using hj
    have h0 := hr 0 (by simp)
    simp only [List.getElem_cons_zero] at h0 ⊢
    generalize us.getD 0 undef = u at h0
    cases h0 with
    | rslz _ _ a =>
      cases a with
      | none => exact .slnil false
      | some ad => exact .slnone false ad 0 (by simp)
    | rsl _ _ _ cap b o k e n hm' => rw [hm] at hm'; cases hm'

/-- A call of a named function. -/
theorem aCall_f {P : Program} {f : FuncId} {args : List AV} {S : St} {K : OK} {out : AV} (h : Fn P f args out) (hK : K [] 0 out []) : aCall P (.clo (.func f) [] []) args S K :=
  aCall_fn (by simpa using h) hK

def avI (a : Int) : AV := .val (.int .i64 a)
def avS (s : ByteArray) : AV := .val (.string s)
def slI (l : List Int) : AV := .sl false (l.map fun a => [avI a]) []
def slS (l : List ByteArray) : AV := .sl false (l.map fun a => [avS a]) []
theorem free_slI {l : List Int} : Free (slI l) := free_sl (by simp only [List.append_nil, List.mem_map]; rintro e ⟨a, _, rfl⟩ c hc; simp only [List.mem_singleton] at hc; subst hc; exact free_val _)
theorem free_slS {l : List ByteArray} : Free (slS l) := free_sl (by simp only [List.append_nil, List.mem_map]; rintro e ⟨a, _, rfl⟩ c hc; simp only [List.mem_singleton] at hc; subst hc; exact free_val _)
theorem free_avI {a : Int} : Free (avI a) := free_val _
theorem free_avS {a : ByteArray} : Free (avS a) := free_val _

end Go.Aw
