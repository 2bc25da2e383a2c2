/- Lists of plain elements, frozen. -/
import Derived.Test.YtldlldamnliejaaBw22
namespace Go.Bw
open Go

/-- A slice whose elements stand as they are. -/
theorem vw_flat {F : Nat → Prop} {H : Nat → Option Ob} {id n : Nat} {f : Bool} {es : List (List AV)} (hF : f = false → F id) (hid : H id = some (.cells f es)) (hn : n = es.length) : Vw F H (.rsl id 0 n) (.sl false es []) := by
  subst hn
  exact vw_rsl' hF hid (by simp) rfl (fun t h => by simp) fun t h j hj => by simp only [Nat.zero_add]; exact vw_refl _
/-- The end of a body: one result, a slice of plain elements. -/
theorem ret_flat {P : Program} {i : Nat} {e : Exit} {S : St} {id n : Nat} {f : Bool} {es : List (List AV)} (he : e = .ret ∨ e = .normal) (hg : get S.t i = .rsl id 0 n) (hid : hget S.h id = some (.cells f es)) (hn : n = es.length) (hf : ∀ c ∈ es, ∀ x ∈ c, Free x) : retR P [.tmp i] (.sl false es []) e S :=
  ret_frozen he [(i, .sl false es [])] (by simp only [List.mem_singleton, forall_eq, hg]; exact vw_flat (fun _ => trivial) hid hn) (by simp [retAV, resAV, get]) (free_sl (by simpa using hf))
theorem ret_room {P : Program} {i : Nat} {e : Exit} {S : St} {es : List (List AV)} (he : e = .ret ∨ e = .normal) (hg : get S.t i = .sl true es []) (hf : ∀ c ∈ es, ∀ x ∈ c, Free x) : retR P [.tmp i] (.sl false es []) e S :=
  ret_frozen he [(i, .sl false es [])] (by simp only [List.mem_singleton, forall_eq, hg]; exact vw_room) (by simp [retAV, resAV, get]) (free_sl (by simpa using hf))
theorem c_clo2 {fn : Go.Fn} {fs cs : List AV} : cellsOf (.clo fn fs cs) = [.clo fn fs cs] := (rfl)
theorem c_fptr {cs : List AV} : cellsOf (.fptr cs) = [.fptr cs] := (rfl)
theorem c_mp {id : Nat} : cellsOf (.mp id) = [.mp id] := (rfl)
theorem c_it {id : Nat} : cellsOf (.it id) = [.it id] := (rfl)
theorem c_ifc {t : Nat} {v : AV} : cellsOf (.ifc t v) = [.ifc t v] := (rfl)
theorem o_mp {id : Nat} : AV.one (.mp id) = true := (rfl)
theorem o_it {id : Nat} : AV.one (.it id) = true := (rfl)
theorem o_ifc {t : Nat} {v : AV} : AV.one (.ifc t v) = true := (rfl)
theorem o_nilf : AV.one (.val .nilFunc) = true := (rfl)
theorem o_nilp : AV.one (.val (.pointer none)) = true := (rfl)
theorem free_fptr {cs : List AV} (h : ∀ c ∈ cs, Free c) : Free (.fptr cs) := fun w G m v hr => by
  cases hr with
  | fptr _ b o vs hb hc h1 hrr => exact .fptr cs b o vs hb hc h1 fun j hj => h _ (List.getElem_mem hj) w G m _ (hrr j hj)
section
variable {P : Program} {S : St} {K : SK} {F : AV} {args : List AV}
/-- A function value is called, where the objects h lie, and others. -/
theorem sCall_w (r h : Heap) (he : ∀ id, hget S.h id = hget (r ++ h) id) (hr : ∀ id ∈ keys r, hget h id = none) {Post : AV → Heap → Nat → Prop} (hc : CallV P F args h S.nx Post) (hK : ∀ out h' nx', S.nx ≤ nx' → (∀ id, id < S.nx → hget h id = none → hget h' id = none) → Post out h' nx' → K out (r ++ h') nx') : sCall P F args S K :=
  ⟨S.h, Le.refl S, .inr ⟨F, args, r, h, fun out h' nx' => S.nx ≤ nx' ∧ (∀ id, id < S.nx → hget h id = none → hget h' id = none) ∧ Post out h' nx', vw_refl _, rfl, fun _ _ _ => vw_refl _, he, hr, hc.mono' fun _ _ _ hle hid hP => ⟨hle, hid, hP⟩, fun out h' nx' hP => hK out h' nx' hP.1 hP.2.1 hP.2.2⟩⟩
end
/-- A function is called that borrows objects, seen as vs. -/
theorem sCall_bv {P : Program} {S : St} {K : SK} {g : FuncId} {args out} {fs cs : List AV} (vs : List AV) (hl : vs.length = (fs ++ args ++ cs).length) (hv : ∀ j (h1 : j < (fs ++ args ++ cs).length) (h2 : j < vs.length), Vw (fun _ => True) (hget S.h) (fs ++ args ++ cs)[j] vs[j])
    (h : Fn P g vs out) (hfl : Flat out) (hK : K out S.h S.nx) : sCall P (.clo (.func g) fs cs) args S K := by
  refine ⟨S.h, Le.refl S, .inl (aCall_borrow (S := S) (keys S.h) h (by simp [hl]) (fun j h1 h2 => ?_) hfl (by simpa using hK))⟩
  have e : restr (keys S.h) (hget S.h) = hget S.h := by
    funext id
    unfold restr
    split
    · rfl
    · rename_i hn
      rw [hl_hget, hl_none.2 hn]
  rw [e]
  exact hv j h1 h2
theorem hget_fresh {h : Heap} {n : Nat} (hb : ∀ id ∈ keys h, id < n) {id : Nat} (hid : n ≤ id) : hget h id = none := by
  rw [hl_hget, hl_none.2 fun hm => by have := hb id hm; omega]
/-- New objects listed behind, or ahead. -/
theorem hget_swap {a b : Heap} (hd : ∀ id ∈ keys a, id ∉ keys b) (id : Nat) : hget (a ++ b) id = hget (b ++ a) id := by
  rw [hget_app, hget_app]
  by_cases ha : id ∈ keys a
  · rw [hl_none.2 (hd id ha)]
    have : hget a id = match hl a id with | some c => c | none => none := hl_hget
    rw [this]
    cases hl a id with
    | none => simp only; rw [hl_hget, hl_none.2 (hd id ha)]
    | some c => rfl
  · rw [hl_none.2 ha, hl_hget]
    cases hl b id with
    | none => simp only; rw [hl_hget, hl_none.2 ha]
    | some c => rfl
end Go.Bw
