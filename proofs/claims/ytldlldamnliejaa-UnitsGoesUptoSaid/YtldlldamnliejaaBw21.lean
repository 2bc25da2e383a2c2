/- Walks begun and ended; loops; loops over sequences; more equations of the walk. -/
import Derived.Test.YtldlldamnliejaaBw20
namespace Go.Bw
open Go

theorem wrap_id {l : Int} (h0 : -9223372036854775808 ≤ l) (h1 : l ≤ 9223372036854775807) : IntKind.i64.wrap l = l := by
  have e : IntKind.i64.wrap l = (if l % (2 ^ 64 : Int) ≥ (2 ^ 63 : Int) then l % (2 ^ 64 : Int) - (2 ^ 64 : Int) else l % (2 ^ 64 : Int)) := by
    simp [IntKind.wrap, IntKind.bits, IntKind.signed]
  rw [e]
  have e2 : (2 : Int) ^ 64 = 18446744073709551616 := by decide
  have e3 : (2 : Int) ^ 63 = 9223372036854775808 := by decide
  rw [e2, e3]
  split <;> omega

def body (f : Func) : Code := f.body.getD .skip

section
variable {P : Program} {f : FuncId} {fn : Func}

/-- How a body ends. -/
def retR (P : Program) (rs : List ResultVar) (out : AV) (e : Exit) (S : St) : Prop := (e = .ret ∨ e = .normal) ∧ ∃ S', Le S S' ∧ retAV P S' rs out ∧ Free out
def retW (P : Program) (rs : List ResultVar) (Post : AV → Heap → Nat → Prop) (e : Exit) (S : St) : Prop := (e = .ret ∨ e = .normal) ∧ ∃ S' out, Le S S' ∧ retAV P S' rs out ∧ Post out S'.h S'.nx

/-- The objects' names are known to lie below. -/
theorem CallV.ids {F : AV} {args : List AV} {h : Heap} {nx : Nat} {Post : AV → Heap → Nat → Prop} (hc : (∀ id p, hget h id = some p → id < nx) → CallV P F args h nx Post) : CallV P F args h nx Post :=
  fun w G m fv vs hg hf hl ha hh hi hi2 => hc hi2 w G m fv vs hg hf hl ha hh hi hi2

/-- A body's walk, begun. -/
theorem Fn.walk {args : List AV} {out : AV} (keep : List Nat) (rs : List ResultVar) (hrs : fn.results.toList = rs) (hf : P.funcs[f]? = some fn) (hname : (fn.name == "runtime.NumGoroutine") = false)
    (hb : fn.body.isSome = true) (hd : dstOk fn.ntmps (body fn) = true) (hn : args.length ≤ fn.ntmps) (hfree : ∀ x ∈ args, Free x)
    (h : W P keep (body fn) [] (retR P rs out) ⟨enter args, [], 0⟩) : Fn P f args out := by
  subst hrs
  obtain ⟨c, hc⟩ := Option.isSome_iff_exists.1 hb
  have e : body fn = c := by simp [body, hc]
  rw [e] at hd h
  exact Fn.of_awp (arule_sound P) (srule_sound P) hf hname hc hd hn hfree h

theorem CallV.walk {fs args cs : List AV} {h : Heap} {nx : Nat} {Post : AV → Heap → Nat → Prop} (keep : List Nat) (rs : List ResultVar) (hrs : fn.results.toList = rs) (hf : P.funcs[f]? = some fn) (hname : (fn.name == "runtime.NumGoroutine") = false)
    (hb : fn.body.isSome = true) (hd : dstOk fn.ntmps (body fn) = true) (hn : (fs ++ args ++ cs).length ≤ fn.ntmps)
    (hW : (∀ id p, hget h id = some p → id < nx) → W P keep (body fn) [] (retW P rs Post) ⟨enter (fs ++ args ++ cs), h, nx⟩) : CallV P (.clo (.func f) fs cs) args h nx Post := by
  refine CallV.ids fun hids => ?_
  have hW := hW hids
  subst hrs
  obtain ⟨c, hc⟩ := Option.isSome_iff_exists.1 hb
  have e : body fn = c := by simp [body, hc]
  rw [e] at hd hW
  exact CallV.of_awp (arule_sound P) (srule_sound P) hf hname hc hd hn hW

variable {rs : List ResultVar}
/-- The end of a body: what it returns stands as it is. -/
theorem ret_same {out : AV} {e : Exit} {S : St} (he : e = .ret ∨ e = .normal) (h : retAV P S rs out) (hf : Free out) : retR P rs out e S :=
  ⟨he, S, Le.refl _, h, hf⟩
/-- The end of a body: its objects are not written any more. -/
theorem ret_frozen {out : AV} {e : Exit} {S : St} (he : e = .ret ∨ e = .normal) (t : List (Nat × AV)) (ht : ∀ p ∈ t, Vw (fun _ => True) (hget S.h) (get S.t p.1) p.2)
    (h : retAV P ⟨t, [], S.nx⟩ rs out) (hf : Free out) : retR P rs out e S :=
  ⟨he, _, Le.freezeAll t ht, h, hf⟩
/-- The same, seen as they are. -/
theorem ret_view {out : AV} {e : Exit} {S : St} (he : e = .ret ∨ e = .normal) (is : List Nat)
    (h : retAV P ⟨is.map fun i => (i, viewA S.h 9 (get S.t i)), [], S.nx⟩ rs out) (hf : Free out) : retR P rs out e S :=
  ret_frozen he _ (fun p hp => by
    obtain ⟨i, _, rfl⟩ := List.mem_map.1 hp
    exact viewA_vw S.h 9 _) h hf
/-- The end of a body that is called by its value. -/
theorem retW_same {Post : AV → Heap → Nat → Prop} {e : Exit} {S : St} (he : e = .ret ∨ e = .normal) {out : AV} (h : retAV P S rs out) (hP : Post out S.h S.nx) : retW P rs Post e S :=
  ⟨he, S, out, Le.refl _, h, hP⟩
theorem retW_le {Post : AV → Heap → Nat → Prop} {e : Exit} {S : St} (he : e = .ret ∨ e = .normal) (S' : St) (hle : Le S S') {out : AV} (h : retAV P S' rs out) (hP : Post out S'.h S'.nx) : retW P rs Post e S :=
  ⟨he, S', out, hle, h, hP⟩

theorem retW_drop {Post : AV → Heap → Nat → Prop} {e : Exit} {S : St} (he : e = .ret ∨ e = .normal) {out : AV} (h : retAV P ⟨S.t, [], S.nx⟩ rs out) (hP : Post out [] S.nx) : retW P rs Post e S :=
  ⟨he, ⟨S.t, [], S.nx⟩, out, Le.sub (fun _ => .inl rfl) (fun _ => .inr rfl) (Nat.le_refl _), h, hP⟩

/-! ### loops -/
def inDom (l : List (Nat × AV)) (i : Nat) : Bool := l.any fun p => p.1 == i
/-- Some temporaries have turned, the others stand. -/
def OnT (f t : List (Nat × AV)) (T : List (Nat × AV)) : Prop := (∀ p ∈ f, get T p.1 = p.2) ∧ ∀ p ∈ t, inDom f p.1 = true ∨ get T p.1 = p.2
theorem get_on {f t T : List (Nat × AV)} (h : OnT f t T) (x : Nat) : get (f ++ t) x = get T x ∨ get (f ++ t) x = .any := by
  obtain ⟨h1, h2⟩ := h
  have key : ∀ f', (∀ p ∈ f', get T p.1 = p.2) → (∀ p ∈ t, inDom f' p.1 = true ∨ p.1 ≠ x ∨ get T p.1 = p.2) → get (f' ++ t) x = get T x ∨ get (f' ++ t) x = .any := by
    intro f'
    induction f' with
    | nil =>
      intro _ h3
      simp only [List.nil_append]
      clear h2
      induction t with
      | nil => exact .inr rfl
      | cons p r ih =>
        obtain ⟨i, v⟩ := p
        simp only [get]
        split
        · rename_i e; subst e
          rcases h3 (x, v) (by simp) with h4 | h4 | h4
          · simp [inDom] at h4
          · exact absurd rfl h4
          · exact .inl h4.symm
        · exact ih (fun q hq => h3 q (by simp [hq]))
    | cons p r ih =>
      intro h3 h4
      obtain ⟨i, v⟩ := p
      simp only [List.cons_append, get]
      split
      · rename_i e; subst e; exact .inl (h3 (x, v) (by simp)).symm
      · rename_i e
        refine ih (fun q hq => h3 q (by simp [hq])) fun q hq => ?_
        rcases h4 q hq with h5 | h5
        · simp only [inDom, List.any_cons, Bool.or_eq_true, beq_iff_eq] at h5
          rcases h5 with h5 | h5
          · exact .inr (.inl fun h => e (h5.trans h).symm)
          · exact .inl h5
        · exact .inr h5
  exact key f h1 (fun p hp => (h2 p hp).imp (fun h => h) .inr)

theorem Le.on {S : St} {f t : List (Nat × AV)} {h : Heap} {n : Nat} (ht : OnT f t S.t) (hh : ∀ p ∈ h, hget S.h p.1 = p.2) (hn : S.nx ≤ n) : Le S ⟨f ++ t, h, n⟩ := Le.sub (get_on ht) (hget_sub h hh) hn

variable {keep : List Nat} {b : Code} {k : List Fr} {Q : Exit → St → Prop} {S : St}

/-- A round's end in a loop without objects. -/
theorem nxt_tmps {n n' : Nat} {I : Nat → St → Prop} {S : St} (t : List (Nat × AV)) (hlt : n' < n) (ht : ∀ p ∈ t, get S.t p.1 = p.2) (hI : I n' ⟨t, [], S.nx⟩) : Nxt I n S :=
  ⟨n', _, hlt, Le.tmps t S.nx (Nat.le_refl _) ht, hI⟩
/-- What holds at the beginning of a round: some temporaries have turned, the others, and the objects, stand. -/
def IT {α : Type} (f : α → List (Nat × AV)) (R : Nat → α → Prop) (t : List (Nat × AV)) (h : Heap) (nx : Nat) (n : Nat) (S : St) : Prop :=
  ∃ a m, R n a ∧ nx ≤ m ∧ S = ⟨f a ++ t, h, m⟩
theorem nxtT {α : Type} {f : α → List (Nat × AV)} {R : Nat → α → Prop} {t : List (Nat × AV)} {h : Heap} {nx n : Nat} {S : St} (n' : Nat) (a : α) (hlt : n' < n) (hR : R n' a) (ht : OnT (f a) t S.t) (hh : ∀ p ∈ h, hget S.h p.1 = p.2) (hn : nx ≤ S.nx) : Nxt (IT f R t h nx) n S :=
  ⟨n', _, hlt, Le.on ht hh (Nat.le_refl _), a, S.nx, hR, hn, rfl⟩
/-- A loop that turns some temporaries, and no object that lay ahead of it. -/
theorem W_loopT {α : Type} (f : α → List (Nat × AV)) (R : Nat → α → Prop) (n : Nat) (a : α) (h0 : R n a) (ht : OnT (f a) (gc keep S.t) S.t) (hh : ∀ p ∈ S.h, hget S.h p.1 = p.2)
    (step : ∀ n a nx, R n a → S.nx ≤ nx → W P keep b (.loop (Nxt (IT f R (gc keep S.t) S.h S.nx) n) :: k) Q ⟨f a ++ gc keep S.t, S.h, nx⟩) : W P keep (.loop b) k Q S := by
  refine W_loop (IT f R (gc keep S.t) S.h S.nx) n _ (Le.on ht hh (Nat.le_refl _)) ⟨a, S.nx, h0, Nat.le_refl _, rfl⟩ ?_
  rintro n S' ⟨a, nx, hR, hnx, rfl⟩
  exact step n a nx hR hnx

/-- What holds at the beginning of a round: some temporaries and all objects have turned. -/
def IH {α : Type} (f : α → List (Nat × AV)) (g : α → Heap) (x : α → Nat) (R : Nat → α → Prop) (t : List (Nat × AV)) (n : Nat) (S : St) : Prop :=
  ∃ a, R n a ∧ S = ⟨f a ++ t, g a, x a⟩
theorem nxtH {α : Type} {f : α → List (Nat × AV)} {g : α → Heap} {x : α → Nat} {R : Nat → α → Prop} {t : List (Nat × AV)} {n : Nat} {S : St} (n' : Nat) (a : α) (hlt : n' < n) (hR : R n' a) (ht : OnT (f a) t S.t) (hh : ∀ p ∈ g a, hget S.h p.1 = p.2) (hn : S.nx ≤ x a) : Nxt (IH f g x R t) n S :=
  ⟨n', _, hlt, Le.on ht hh hn, a, hR, rfl⟩
/-- A loop that turns temporaries and objects. -/
theorem W_loopH {α : Type} (f : α → List (Nat × AV)) (g : α → Heap) (x : α → Nat) (R : Nat → α → Prop) (n : Nat) (a : α) (h0 : R n a) (ht : OnT (f a) (gc keep S.t) S.t) (hh : ∀ p ∈ g a, hget S.h p.1 = p.2) (hn : S.nx ≤ x a)
    (step : ∀ n a, R n a → W P keep b (.loop (Nxt (IH f g x R (gc keep S.t)) n) :: k) Q ⟨f a ++ gc keep S.t, g a, x a⟩) : W P keep (.loop b) k Q S := by
  refine W_loop (IH f g x R (gc keep S.t)) n _ (Le.on ht hh hn) ⟨a, h0, rfl⟩ ?_
  rintro n S' ⟨a, hR, rfl⟩
  exact step n a hR

/-! ### loops over sequences -/
/-- What a sequence hands out: values, new objects with them, and where their names lie. -/
abbrev Give := List AV → Heap → Nat → Nat → Prop
/-- Values without objects. -/
def gives (as : List AV) : Give := fun xs g _ _ => xs = as ∧ g = []
/-- A function value that goes through a sequence: each yield is called with the next values, as long as it answers true. -/
def SeqOk (P : Program) (F : AV) (xs : Nat → Option Give) : Prop := ∀ (Y : AV) (h : Heap) (nx N : Nat) (I J : Nat → Heap → Nat → Prop),
  cellsOf Y = [Y] → Y.one = true → N ≤ 4611686018427387904 → (∀ i h nx, I i h nx → i ≤ N) → (∀ i h nx nx', I i h nx → nx ≤ nx' → I i h nx') → (∀ i h nx, I i h nx → ∀ id ∈ keys h, id < nx) → I 0 h nx →
  (∀ i h nx D, I i h nx → xs i = some D → ∀ as g nx', nx ≤ nx' → D as g nx nx' → CallV P Y as (g ++ h) nx' fun out h' nx' => (out = tt ∧ I (i + 1) h' nx') ∨ (out = ff ∧ J i h' nx')) →
  CallV P F [Y] h nx fun _ h' nx' => (∃ n, xs n = none ∧ I n h' nx') ∨ ∃ i D, xs i = some D ∧ J i h' nx'

/-- The objects between two rounds, with the loop's record. -/
def RI (lid : Nat) (ps : Array Tmp) (asg bd : Code) (M : Nat) (t : List (Nat × AV)) (I : Nat → Heap → Nat → Prop) (i : Nat) (h : Heap) (nx : Nat) : Prop := ∃ h', h = (lid, some (.loop .ready none ps asg bd M t)) :: h' ∧ hget h' lid = none ∧ lid < nx ∧ I i h' nx
/-- The objects behind a round that left the loop. -/
def RJ (lid : Nat) (ps : Array Tmp) (asg bd : Code) (M : Nat) (t : List (Nat × AV)) (Jr : Heap → Nat → Prop) (Je : Nat → Heap → Nat → Prop) (_ : Nat) (h : Heap) (nx : Nat) : Prop :=
  ∃ h', hget h' lid = none ∧ lid < nx ∧ ((h = (lid, some (.loop .done (some .ret) ps asg bd M t)) :: h' ∧ Jr h' nx) ∨ ∃ id, h = (lid, some (.loop .done (some (.exit id)) ps asg bd M t)) :: h' ∧ Je id h' nx)
/-- What a round leaves to the next one, and how it is left. -/
def RQ (lid : Nat) (ps : Array Tmp) (asg bd : Code) (M : Nat) (t : List (Nat × AV)) (I : Nat → Heap → Nat → Prop) (Jr : Heap → Nat → Prop) (Je : Nat → Heap → Nat → Prop) (i : Nat) : Exit → St → Prop :=
  roundQ (fun out h' nx' => (out = tt ∧ RI lid ps asg bd M t I (i + 1) h' nx') ∨ (out = ff ∧ RJ lid ps asg bd M t Jr Je i h' nx')) lid ps asg bd M t
section
variable {lid M i : Nat} {ps : Array Tmp} {asg bd : Code} {t : List (Nat × AV)} {I : Nat → Heap → Nat → Prop} {Jr : Heap → Nat → Prop} {Je : Nat → Heap → Nat → Prop}
theorem RQ.normal (S' : St) (hle : Le S S') (h : hget S'.h lid = none → lid < S'.nx → I (i + 1) S'.h S'.nx) : RQ lid ps asg bd M t I Jr Je i .normal S := ⟨S', hle, fun h1 h2 => .inl ⟨rfl, _, rfl, h1, h2, h h1 h2⟩⟩
theorem RQ.ret (S' : St) (hle : Le S S') (h : hget S'.h lid = none → lid < S'.nx → Jr S'.h S'.nx) : RQ lid ps asg bd M t I Jr Je i .ret S := ⟨S', hle, fun h1 h2 => .inr ⟨rfl, _, h1, h2, .inl ⟨rfl, h h1 h2⟩⟩⟩
theorem RQ.exit (id : Nat) (S' : St) (hle : Le S S') (h : hget S'.h lid = none → lid < S'.nx → Je id S'.h S'.nx) : RQ lid ps asg bd M t I Jr Je i (.exit id) S := ⟨S', hle, fun h1 h2 => .inr ⟨rfl, _, h1, h2, .inr ⟨id, rfl, h h1 h2⟩⟩⟩
end

theorem W_range {fo : Operand} {ps : Array Tmp} {asg bd : Code} {F : AV} {xs : Nat → Option Give} {g : FuncId} {fs cs : List AV} {gn : Func} {S' : St} (S : St) (hle : Le S' S) (hseq : SeqOk P F xs) (hF : F = .clo (.func g) fs cs) (hf : evalA (get S.t) fo = F) (hg : P.funcs[g]? = some gn)
    (hname : (gn.name == "runtime.NumGoroutine") = false) (hb : gn.body.isSome = true) (N : Nat) (I : Nat → Heap → Nat → Prop) (Jr : Heap → Nat → Prop) (Je : Nat → Heap → Nat → Prop)
    (hN0 : N ≤ 4611686018427387904) (hN : ∀ i h nx, I i h nx → i ≤ N) (hmono : ∀ i h nx nx', I i h nx → nx ≤ nx' → I i h nx') (hids : ∀ i h nx, I i h nx → ∀ id ∈ keys h, id < nx) (h0 : hget S.h S.nx = none → I 0 S.h (S.nx + 1))
    (hlen : ∀ i D as g nx nx', xs i = some D → D as g nx nx' → as.length = ps.size ∧ ∀ id ∈ keys g, nx ≤ id)
    (step : ∀ M i h nx D as g nx', I i h nx → xs i = some D → nx ≤ nx' → D as g nx nx' → hget h S.nx = none → S.nx < nx → W P keep asg [] (fun e S1 => e = .normal ∧ W P keep bd [] (RQ S.nx ps asg bd M S.t I Jr Je i) S1) ⟨roundT ps as S.t, g ++ h, nx'⟩)
    (hend : ∀ n h nx, xs n = none → I n h nx → kont P keep k Q .normal ⟨S.t, h, nx⟩) (hret : ∀ h nx, Jr h nx → kont P keep k Q .ret ⟨S.t, h, nx⟩) (hexit : ∀ id h nx, Je id h nx → kont P keep k Q (.exit id) ⟨S.t, h, nx⟩) :
    W P keep (.rangeFunc fo ps asg bd) k Q S' := by
  obtain ⟨c, hc⟩ := Option.isSome_iff_exists.1 hb
  refine ⟨S, hle, g, fs, cs, hf.trans hF, enters_of' hg hname hc, fun hnone M hM => ?_⟩
  simp only [dstOk, Bool.and_eq_true, List.all_eq_true, decide_eq_true_eq] at hM
  have hcall := hseq (.yld S.nx) ((S.nx, some (.loop .ready none ps asg bd M S.t)) :: S.h) (S.nx + 1) N (RI S.nx ps asg bd M S.t I) (RJ S.nx ps asg bd M S.t Jr Je) rfl rfl hN0
    (fun i h nx ⟨h', _, _, _, hI⟩ => hN i h' nx hI) (fun i h nx nx' ⟨h', e, h1, h2, hI⟩ hle => ⟨h', e, h1, Nat.lt_of_lt_of_le h2 hle, hmono i h' nx nx' hI hle⟩) (fun i h nx ⟨h', e, _, h2, hI⟩ id hp => by
      subst e
      rcases List.mem_cons.1 hp with rfl | hp
      · exact h2
      · exact hids i h' nx hI id hp) ⟨S.h, rfl, hnone, Nat.lt_succ_self _, h0 hnone⟩ (by
      rintro i h nx D ⟨h', rfl, hl1, hl2, hI⟩ hx as g nx' hle hD
      obtain ⟨hlen1, hlen2⟩ := hlen i D as g nx nx' hx hD
      have hg2 : S.nx ∉ keys g := fun h => by have := hlen2 _ h; omega
      have hgl : hget (g ++ h') S.nx = none := by
        rw [hget_app, hl_none.2 hg2]; exact hl1
      refine (CallV.round (t := S.t) (nx := nx') (lid := S.nx) (N := M) (Post := fun out h' nx' => (out = tt ∧ RI S.nx ps asg bd M S.t I (i + 1) h' nx') ∨ (out = ff ∧ RJ S.nx ps asg bd M S.t Jr Je i h' nx')) (arule_sound P) (srule_sound P) (keep := keep) hlen1 hM.1.1 hM.1.2 hM.2 hgl (step M i h' nx D as g nx' hI hx hle hD hl1 hl2)).heap ?_
      funext id
      rw [hget_app, hget_cons, hget_cons]
      by_cases e : id = S.nx
      · rw [if_pos e, if_pos e, e, hl_none.2 hg2]
      · rw [if_neg e, if_neg e, hget_app])
  rw [hF] at hcall
  have hsub : ∀ (p : Ob) (h' : Heap), hget h' S.nx = none → ∀ id q, hget h' id = some q → id ≠ S.nx ∧ hget ((S.nx, some p) :: h') id = some q := fun p h' hn id q hq => by
    have hne : id ≠ S.nx := fun e => by rw [e, hn] at hq; cases hq
    exact ⟨hne, by rw [hget_cons, if_neg hne]; exact hq⟩
  refine ⟨_, hcall, fun out h nx hP => ?_⟩
  rcases hP with ⟨n, hn, h', rfl, h1, h2, hI⟩ | ⟨i, D, hx, h', h1, h2, ⟨rfl, hJ⟩ | ⟨id, rfl, hJ⟩⟩
  · exact ⟨h', .ready, none, S.t, by simp [hget], by simp, hsub _ h' h1, hend n h' nx hn hI⟩
  · exact ⟨h', .done, some .ret, S.t, by simp [hget], by simp, hsub _ h' h1, hret h' nx hJ⟩
  · exact ⟨h', .done, some (.exit id), S.t, by simp [hget], by simp, hsub _ h' h1, hexit id h' nx hJ⟩
end
end Go.Bw
