/- An abstract reading of values and memory: what a machine value stands for (Rep), what a block of the call's own holds (ObjOk), how the world may move on (Ev); each is kept as the world moves on. -/
import Derived.WalkKit
namespace Go.Aw
open Go

/-- What a value stands for. 'val': this very value; 'sl': a slice of memory that nobody writes any more, its elements' cells, and those of spare places behind it ('full': there are no other ones); 'ref': a pointer into a block of the call's own; 'rsl': a slice of it; 'fptr': a pointer to cells that nobody writes any more; 'clo': a function value; 'agg': a struct's cells; 'tup': several results; 'ifc': an interface value; 'any': nothing is known. -/
inductive AV where
  | val (v : Value)
  | sl (full : Bool) (elems spare : List (List AV))
  | ref (id i off : Nat)
  | rsl (id i len : Nat)
  | fptr (cells : List AV)
  | clo (fn : Fn) (first captured : List AV)
  | agg (cells : List AV)
  | tup (vs : List AV)
  | ifc (t : Nat) (v : AV)
  | any
deriving Inhabited

/-- Where the blocks of the call's own lie: block, where its first element begins, cells an element. -/
abbrev Where := Nat → Option (Nat × Nat × Nat)

inductive Rep (w : World) (G : Nat → Prop) (m : Where) : AV → Value → Prop
  | val (v : Value) : Rep w G m (.val v) v
  | any (v : Value) : Rep w G m .any v
  | slnil (f : Bool) : Rep w G m (.sl f [] []) (.slice none 0 0)
  | slnone (f : Bool) (a : Addr) (cap : Nat) (hf : f = true → cap = 0) : Rep w G m (.sl f [] []) (.slice (some a) 0 cap)
  | sl (f : Bool) (es sp : List (List AV)) (b o cap k : Nat) (vs : Nat → Nat → Value) (hG : G b) (hcap : es.length + sp.length ≤ cap) (hf : f = true → cap = es.length + sp.length)
      (hk : ∀ i (hi : i < (es ++ sp).length), ((es ++ sp)[i]).length = k)
      (hc : ∀ i (hi : i < (es ++ sp).length) j (_ : j < ((es ++ sp)[i]).length), w.cell? ⟨b, o + i * k + j, none⟩ = some (vs i j))
      (h1 : ∀ i (hi : i < (es ++ sp).length) j (_ : j < ((es ++ sp)[i]).length), (vs i j).oneCell' = true)
      (hr : ∀ i (hi : i < (es ++ sp).length) j (hj : j < ((es ++ sp)[i]).length), Rep w G m (((es ++ sp)[i])[j]) (vs i j)) : Rep w G m (.sl f es sp) (.slice (some ⟨b, o, none⟩) es.length cap)
  | fptr (cs : List AV) (b o : Nat) (vs : Nat → Value) (hG : G b) (hc : ∀ j (_ : j < cs.length), w.cell? ⟨b, o + j, none⟩ = some (vs j)) (h1 : ∀ j (_ : j < cs.length), (vs j).oneCell' = true)
      (hr : ∀ j (hj : j < cs.length), Rep w G m (cs[j]) (vs j)) : Rep w G m (.fptr cs) (.pointer (some ⟨b, o, none⟩))
  | ref (id i off b o k : Nat) (hm : m id = some (b, o, k)) : Rep w G m (.ref id i off) (.pointer (some ⟨b, o + i * k + off, none⟩))
  | rsl (id i len cap b o k e n : Nat) (hm : m id = some (b, o, k)) (hlen : len ≤ cap) (hsh : w.shape? b = some (e, n)) (hin : o + (i + cap) * k ≤ n) :
      Rep w G m (.rsl id i len) (.slice (some ⟨b, o + i * k, none⟩) len cap)
  | rslz (id i : Nat) (a : Option Addr) : Rep w G m (.rsl id i 0) (.slice a 0 0)
  | clo (fn : Fn) (fs cs : List AV) (vf vc : Array Value) (hf : fs.length = vf.size) (hc : cs.length = vc.size)
      (hrf : ∀ j (hj : j < fs.length), Rep w G m (fs[j]) (vf.getD j undef)) (hrc : ∀ j (hj : j < cs.length), Rep w G m (cs[j]) (vc.getD j undef)) :
      Rep w G m (.clo fn fs cs) (.func fn vf vc)
  | agg (cs : List AV) (vs : Array Value) (hl : cs.length = vs.size) (hr : ∀ j (hj : j < cs.length), Rep w G m (cs[j]) (vs.getD j undef)) : Rep w G m (.agg cs) (.agg vs)
  | tup (cs : List AV) (vs : Array Value) (hl : cs.length = vs.size) (hr : ∀ j (hj : j < cs.length), Rep w G m (cs[j]) (vs.getD j undef)) : Rep w G m (.tup cs) (.tuple vs)
  | ifc (t : Nat) (x : AV) (v : Value) (hr : Rep w G m x v) : Rep w G m (.ifc t x) (.iface t v)

/-- How the world may move on: blocks of 'mu' may turn, their sizes not; new blocks come. -/
structure Ev (mu : Nat → Prop) (w : World) (G : Nat → Prop) (m : Where) (w' : World) (G' : Nat → Prop) (m' : Where) : Prop where
  os : w'.os = w.os
  tape : w'.tape = w.tape
  output : w'.output = w.output
  size : w.heap.size ≤ w'.heap.size
  blk : ∀ b, b < w.heap.size → ¬ mu b → w'.heap[b]? = w.heap[b]?
  shp : ∀ b x, w.shape? b = some x → w'.shape? b = some x
  sub : ∀ b, G b → G' b
  new : ∀ b, G' b → G b ∨ w.heap.size ≤ b ∨ mu b
  lt : (∀ b, G b → b < w.heap.size) → ∀ b, G' b → b < w'.heap.size
  ext : ∀ id x, m id = some x → m' id = some x

theorem Ev.refl (mu : Nat → Prop) (w : World) (G : Nat → Prop) (m : Where) : Ev mu w G m w G m :=
  ⟨rfl, rfl, rfl, Nat.le_refl _, fun _ _ _ => rfl, fun _ _ h => h, fun _ h => h, fun _ h => .inl h, fun h => h, fun _ _ h => h⟩

theorem Ev.trans {mu mu2 : Nat → Prop} {w w1 w2 : World} {G G1 G2 : Nat → Prop} {m m1 m2 : Where} (h : Ev mu w G m w1 G1 m1) (h2 : Ev mu2 w1 G1 m1 w2 G2 m2)
    (hm : ∀ b, mu2 b → mu b ∨ w.heap.size ≤ b) : Ev mu w G m w2 G2 m2 where
  os := h2.os.trans h.os
  tape := h2.tape.trans h.tape
  output := h2.output.trans h.output
  size := Nat.le_trans h.size h2.size
  blk b hb hn := by
    rw [h2.blk b (Nat.lt_of_lt_of_le hb h.size) (fun h' => (hm b h').elim hn (fun x => by omega))]
    exact h.blk b hb hn
  shp b x hx := h2.shp b x (h.shp b x hx)
  sub b hb := h2.sub b (h.sub b hb)
  new b hb := by
    rcases h2.new b hb with h' | h' | h'
    · exact h.new b h'
    · exact .inr (.inl (Nat.le_trans h.size h'))
    · rcases hm b h' with h'' | h''
      · exact .inr (.inr h'')
      · exact .inr (.inl h'')
  lt hg := h2.lt (h.lt hg)
  ext id x hx := h2.ext id x (h.ext id x hx)

theorem Ev.weaken {mu mu2 : Nat → Prop} {w w1 : World} {G G1 : Nat → Prop} {m m1 : Where} (h : Ev mu w G m w1 G1 m1) (hm : ∀ b, mu b → mu2 b ∨ w.heap.size ≤ b) :
    Ev mu2 w G m w1 G1 m1 :=
  (Ev.refl mu2 w G m).trans h hm

theorem cell_of_block {w w' : World} {b : Nat} (h : w'.heap[b]? = w.heap[b]?) (o : Nat) : w'.cell? ⟨b, o, none⟩ = w.cell? ⟨b, o, none⟩ := by
  simp only [World.cell?, h]

theorem Rep.mono {mu : Nat → Prop} {w w' : World} {G G' : Nat → Prop} {m m' : Where} (h : Ev mu w G m w' G' m') (hm : ∀ b, mu b → ¬ G b)
    (hg : ∀ b, G b → b < w.heap.size) {x : AV} {v : Value} (hr : Rep w G m x v) : Rep w' G' m' x v := by
  induction hr with
  | val v => exact .val v
  | any v => exact .any v
  | slnil f => exact .slnil f
  | slnone f a cap hf => exact .slnone f a cap hf
  | sl f es sp b o cap k vs hG hcap hf hk hc h1 _ ih =>
    refine .sl f es sp b o cap k vs (h.sub b hG) hcap hf hk (fun i hi j hj => ?_) h1 ih
    rw [cell_of_block (h.blk b (hg b hG) (fun h' => hm b h' hG))]
    exact hc i hi j hj
  | fptr cs b o vs hG hc h1 _ ih =>
    refine .fptr cs b o vs (h.sub b hG) (fun j hj => ?_) h1 ih
    rw [cell_of_block (h.blk b (hg b hG) (fun h' => hm b h' hG))]
    exact hc j hj
  | ref id i off b o k hmm => exact .ref id i off b o k (h.ext _ _ hmm)
  | rsl id i len cap b o k e n hmm hlen hsh hin => exact .rsl id i len cap b o k e n (h.ext _ _ hmm) hlen (h.shp _ _ hsh) hin
  | rslz id i a => exact .rslz id i a
  | clo fn fs cs vf vc hf hc _ _ ih1 ih2 => exact .clo fn fs cs vf vc hf hc ih1 ih2
  | agg cs vs hl _ ih => exact .agg cs vs hl ih
  | tup cs vs hl _ ih => exact .tup cs vs hl ih
  | ifc t x v _ ih => exact .ifc t x v ih

/-- A block of the call's own: is it frozen (nobody writes it any more)? Its elements, as far as they are known. -/
abbrev Ob := Bool × List (List AV)

/-- What a block of the call's own holds, from where it is said to begin: elements of k cells. -/
structure ObjOk (w : World) (G : Nat → Prop) (m : Where) (id : Nat) (x : Ob) : Prop where
  out : (x.2 = [] ∧ m id = none) ∨ x.2 ≠ [] ∧ ∃ b o k, m id = some (b, o, k) ∧ (x.1 = true → G b) ∧ (x.1 = false → ¬ G b ∧ ∃ c e, w.heap[b]? = some (.cells c e (0, 0))) ∧
    (∀ i (hi : i < x.2.length), (x.2[i]).length = k) ∧
    (∀ i (hi : i < x.2.length) j (hj : j < (x.2[i]).length), ∃ v, w.cell? ⟨b, o + i * k + j, none⟩ = some v ∧ v.oneCell' = true ∧ Rep w G m ((x.2[i])[j]) v)

abbrev Heap := List (Nat × Option Ob)
def hget : Heap → Nat → Option Ob
  | [], _ => none
  | (i, x) :: r, j => if j = i then x else hget r j

/-- All blocks of the call's own. -/
structure HeapOk (w : World) (G : Nat → Prop) (m : Where) (H : Nat → Option Ob) : Prop where
  obj : ∀ id x, H id = some x → ObjOk w G m id x
  apart : ∀ i j es es' x y, H i = some (false, es) → H j = some (false, es') → i ≠ j → m i = some x → m j = some y → x.1 ≠ y.1

theorem ObjOk.lt {w : World} {G : Nat → Prop} {m : Where} {id : Nat} {es : List (List AV)} (h : ObjOk w G m id (false, es)) {x : Nat × Nat × Nat} (hx : m id = some x) : x.1 < w.heap.size := by
  obtain ⟨_, hm⟩ | ⟨_, b, o, k, hm, _, h2, _⟩ := h.out
  · rw [hm] at hx; cases hx
  obtain ⟨_, c, e, hb⟩ := h2 rfl
  rw [hm] at hx; cases hx
  exact (Array.getElem?_eq_some_iff.1 hb).1

theorem ObjOk.notG {w : World} {G : Nat → Prop} {m : Where} {id : Nat} {es : List (List AV)} (h : ObjOk w G m id (false, es)) {x : Nat × Nat × Nat} (hx : m id = some x) : ¬ G x.1 := by
  obtain ⟨_, hm⟩ | ⟨_, b, o, k, hm, _, h2, _⟩ := h.out
  · rw [hm] at hx; cases hx
  rw [hm] at hx; cases hx
  exact (h2 rfl).1

theorem ObjOk.mono {mu : Nat → Prop} {w w' : World} {G G' : Nat → Prop} {m m' : Where} (h : Ev mu w G m w' G' m') (hm : ∀ b, mu b → ¬ G b)
    (hg : ∀ b, G b → b < w.heap.size) {id : Nat} {y : Ob} (ho : ObjOk w G m id y) (hn : y.1 = false → ∀ x, m id = some x → ¬ mu x.1) (hid : m' id = m id) : ObjOk w' G' m' id y := by
  obtain ⟨f, es⟩ := y
  obtain ⟨h1, h2⟩ | ⟨hne, b, o, k, hmm, h1, h2, hk, hc⟩ := ho.out
  · exact ⟨.inl ⟨h1, hid.trans h2⟩⟩
  have hb' : w'.heap[b]? = w.heap[b]? := by
    cases f with
    | true => exact h.blk b (hg b (h1 rfl)) (fun h' => hm b h' (h1 rfl))
    | false => exact h.blk b (ObjOk.lt ho hmm) (hn rfl _ hmm)
  refine ⟨.inr ⟨hne, b, o, k, h.ext _ _ hmm, fun hf => h.sub b (h1 hf), fun hf => ⟨fun hG => ?_, ?_⟩, hk, fun i hi j hj => ?_⟩⟩
  · dsimp only at hf; subst hf
    have hlt := ObjOk.lt ho hmm
    rcases h.new b hG with h' | h' | h'
    · exact (h2 rfl).1 h'
    · dsimp only at hlt; omega
    · exact hn rfl _ hmm h'
  · obtain ⟨_, c, e, hb⟩ := h2 hf
    exact ⟨c, e, hb'.trans hb⟩
  · obtain ⟨v, h1, h2, h3⟩ := hc i hi j hj
    exact ⟨v, (cell_of_block hb' _).trans h1, h2, h3.mono h hm hg⟩

end Go.Aw
