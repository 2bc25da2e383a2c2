/- States that say less: temporaries and objects forgotten. -/
import Derived.Test.YtldlldamnliejaaAw10
namespace Go.Aw
open Go

theorem Le.sub {n0 : Nat} {S S' : St} (ht : ∀ t, get S'.t t = get S.t t ∨ get S'.t t = .any) (hh : ∀ id, hget S'.h id = hget S.h id ∨ hget S'.h id = none) (hn : S.nx ≤ S'.nx) : Le n0 S S' := by
  intro N w0 G0 m0 mu0 a w G m _ h
  have hs : ∀ id x, hget S'.h id = some x → hget S.h id = some x := fun id x hx => (hh id).elim (fun e => e ▸ hx) (fun e => by rw [e] at hx; cases hx)
  exact ⟨G, m, h.tmps, h.dfr, h.g, fun t => (ht t).elim (fun e => e ▸ h.rep t) (fun e => e ▸ .any _), ⟨fun id x hx => h.heap.obj id x (hs id x hx), fun i j es es' x y hi hj => h.heap.apart i j es es' x y (hs _ _ hi) (hs _ _ hj)⟩,
    h.ev, fun id es x he => h.own id es x (hs _ _ he), fun id x hx => Nat.lt_of_lt_of_le (h.ids id x hx) hn⟩

/-- Some temporaries, as they stand; no object. -/
theorem Le.tmps {n0 : Nat} {S : St} (t : List (Nat × AV)) (n : Nat) (hn : S.nx ≤ n) (ht : ∀ p ∈ t, get S.t p.1 = p.2) : Le n0 S ⟨t, [], n⟩ :=
  Le.sub (fun x => by
    dsimp only
    induction t with
    | nil => exact .inr rfl
    | cons p r ih =>
      obtain ⟨i, v⟩ := p
      simp only [get]
      split
      · rename_i e; subst e; exact .inl (ht (x, v) (by simp)).symm
      · exact ih (fun q hq => ht q (by simp [hq]))) (fun _ => .inr rfl) hn

/-- Some temporaries, as they stand; all objects. -/
theorem Le.tmpsH {n0 : Nat} {S : St} (t : List (Nat × AV)) (ht : ∀ p ∈ t, get S.t p.1 = p.2) : Le n0 S ⟨t, S.h, S.nx⟩ :=
  Le.sub (fun x => by
    dsimp only
    induction t with
    | nil => exact .inr rfl
    | cons p r ih =>
      obtain ⟨i, v⟩ := p
      simp only [get]
      split
      · rename_i e; subst e; exact .inl (ht (x, v) (by simp)).symm
      · exact ih (fun q hq => ht q (by simp [hq]))) (fun _ => .inl rfl) (Nat.le_refl _)

/-! ### values that stand by themselves -/
theorem free_val (v : Value) : Free (.val v) := fun _ _ _ _ h => by cases h; exact .val v
theorem free_any : Free .any := fun _ _ _ v _ => .any v
theorem free_agg {cs : List AV} (h : ∀ c ∈ cs, Free c) : Free (.agg cs) := fun w G m v hr => by
  cases hr with
  | agg _ vs hl hr => exact .agg _ vs hl fun j hj => h _ (List.getElem_mem hj) w G m _ (hr j hj)
theorem free_tup {cs : List AV} (h : ∀ c ∈ cs, Free c) : Free (.tup cs) := fun w G m v hr => by
  cases hr with
  | tup _ vs hl hr => exact .tup _ vs hl fun j hj => h _ (List.getElem_mem hj) w G m _ (hr j hj)
theorem free_sl {f : Bool} {es sp : List (List AV)} (h : ∀ e ∈ es ++ sp, ∀ c ∈ e, Free c) : Free (.sl f es sp) := fun w G m v hr => by
  cases hr with
  | slnil => exact .slnil f
  | slnone _ a cap hf => exact .slnone f a cap hf
  | sl _ _ _ b o cap k vs hG hcap hf hk hc h1 hr => exact .sl f es sp b o cap k vs hG hcap hf hk hc h1 fun i hi j hj => h _ (List.getElem_mem hi) _ (List.getElem_mem hj) w G m _ (hr i hi j hj)
theorem free_clo {fn : Go.Fn} {fs cs : List AV} (h1 : ∀ c ∈ fs, Free c) (h2 : ∀ c ∈ cs, Free c) : Free (.clo fn fs cs) := fun w G m v hr => by
  cases hr with
  | clo _ _ _ vf vc hf hc hrf hrc => exact .clo fn fs cs vf vc hf hc (fun j hj => h1 _ (List.getElem_mem hj) w G m _ (hrf j hj)) (fun j hj => h2 _ (List.getElem_mem hj) w G m _ (hrc j hj))

end Go.Aw
