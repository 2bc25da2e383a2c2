/- An abstract reading of values and memory: what a machine value stands for (Rep), what a block of the call's own holds (ObjOk), how the world may move on (Ev); each is kept as the world moves on. -/
import Derived.WalkKit
import Derived.RangeFuncRecord
namespace Go.Bw
open Go

/-- What a value stands for. 'val': this very value; 'sl': a slice of memory that nobody writes any more, its elements' cells, and those of spare places behind it ('full': there are no other ones); 'ref': a pointer into a block of the call's own; 'rsl': a slice of it; 'fptr': a pointer to cells that nobody writes any more; 'clo': a function value; 'agg': a struct's cells; 'tup': several results; 'ifc': an interface value; 'any': nothing is known. -/
inductive AV where
  | val (v : Value)
  | sl (full : Bool) (elems spare : List (List AV))
  | ref (id i off : Nat)
  | rsl (id i len : Nat)
  | fptr (cells : List AV)
  | clo (fn : Fn) (first captured : List AV)
  | agg (cells : List AV)
  | tup (vs : List AV)
  | ifc (t : Nat) (v : AV)
  | mp (id : Nat)
  | it (id : Nat)
  | yld (id : Nat)
  | any
deriving Inhabited

/-- Where the blocks of the call's own lie: block, where its first element begins, cells an element. -/
abbrev Where := Nat → Option (Nat × Nat × Nat)

inductive Rep (w : World) (G : Nat → Prop) (m : Where) : AV → Value → Prop
  | val (v : Value) : Rep w G m (.val v) v
  | any (v : Value) : Rep w G m .any v
  | slnil (f : Bool) : Rep w G m (.sl f [] []) (.slice none 0 0)
  | slnone (f : Bool) (a : Addr) (cap : Nat) (hf : f = true → cap = 0) : Rep w G m (.sl f [] []) (.slice (some a) 0 cap)
  | sl (f : Bool) (es sp : List (List AV)) (b o cap k : Nat) (vs : Nat → Nat → Value) (hG : G b) (hcap : es.length + sp.length ≤ cap) (hf : f = true → cap = es.length + sp.length)
      (hk : ∀ i (hi : i < (es ++ sp).length), ((es ++ sp)[i]).length = k)
      (hc : ∀ i (hi : i < (es ++ sp).length) j (_ : j < ((es ++ sp)[i]).length), w.cell? ⟨b, o + i * k + j, none⟩ = some (vs i j))
      (h1 : ∀ i (hi : i < (es ++ sp).length) j (_ : j < ((es ++ sp)[i]).length), (vs i j).oneCell' = true)
      (hr : ∀ i (hi : i < (es ++ sp).length) j (hj : j < ((es ++ sp)[i]).length), Rep w G m (((es ++ sp)[i])[j]) (vs i j)) : Rep w G m (.sl f es sp) (.slice (some ⟨b, o, none⟩) es.length cap)
  | fptr (cs : List AV) (b o : Nat) (vs : Nat → Value) (hG : G b) (hc : ∀ j (_ : j < cs.length), w.cell? ⟨b, o + j, none⟩ = some (vs j)) (h1 : ∀ j (_ : j < cs.length), (vs j).oneCell' = true)
      (hr : ∀ j (hj : j < cs.length), Rep w G m (cs[j]) (vs j)) : Rep w G m (.fptr cs) (.pointer (some ⟨b, o, none⟩))
  | ref (id i off b o k : Nat) (hm : m id = some (b, o, k)) : Rep w G m (.ref id i off) (.pointer (some ⟨b, o + i * k + off, none⟩))
  | rsl (id i len cap b o k e n : Nat) (hm : m id = some (b, o, k)) (hlen : len ≤ cap) (hsh : w.shape? b = some (e, n)) (hin : o + (i + cap) * k ≤ n) :
      Rep w G m (.rsl id i len) (.slice (some ⟨b, o + i * k, none⟩) len cap)
  | rslz (id i : Nat) (a : Option Addr) : Rep w G m (.rsl id i 0) (.slice a 0 0)
  | clo (fn : Fn) (fs cs : List AV) (vf vc : Array Value) (hf : fs.length = vf.size) (hc : cs.length = vc.size)
      (hrf : ∀ j (hj : j < fs.length), Rep w G m (fs[j]) (vf.getD j undef)) (hrc : ∀ j (hj : j < cs.length), Rep w G m (cs[j]) (vc.getD j undef)) :
      Rep w G m (.clo fn fs cs) (.func fn vf vc)
  | agg (cs : List AV) (vs : Array Value) (hl : cs.length = vs.size) (hr : ∀ j (hj : j < cs.length), Rep w G m (cs[j]) (vs.getD j undef)) : Rep w G m (.agg cs) (.agg vs)
  | tup (cs : List AV) (vs : Array Value) (hl : cs.length = vs.size) (hr : ∀ j (hj : j < cs.length), Rep w G m (cs[j]) (vs.getD j undef)) : Rep w G m (.tup cs) (.tuple vs)
  | ifc (t : Nat) (x : AV) (v : Value) (hr : Rep w G m x v) : Rep w G m (.ifc t x) (.iface t v)
  | mp (id b : Nat) (hm : m id = some (b, 0, 0)) : Rep w G m (.mp id) (.map (some b))
  | it (id b : Nat) (hm : m id = some (b, 0, 0)) : Rep w G m (.it id) (.pointer (some ⟨b, 0, none⟩))
  | yld (id b : Nat) (hm : m id = some (b, 0, 0)) : Rep w G m (.yld id) (.func (.yield b) #[] #[])

/-- How the world may move on: blocks of 'mu' may turn, their sizes not; new blocks come. -/
structure Ev (mu : Nat → Prop) (w : World) (G : Nat → Prop) (m : Where) (w' : World) (G' : Nat → Prop) (m' : Where) : Prop where
  os : w'.os = w.os
  tape : w'.tape = w.tape
  output : w'.output = w.output
  size : w.heap.size ≤ w'.heap.size
  blk : ∀ b, b < w.heap.size → ¬ mu b → w'.heap[b]? = w.heap[b]?
  shp : ∀ b x, w.shape? b = some x → w'.shape? b = some x
  sub : ∀ b, G b → G' b
  new : ∀ b, G' b → G b ∨ w.heap.size ≤ b ∨ mu b
  lt : (∀ b, G b → b < w.heap.size) → ∀ b, G' b → b < w'.heap.size
  ext : ∀ id x, m id = some x → m' id = some x

theorem Ev.refl (mu : Nat → Prop) (w : World) (G : Nat → Prop) (m : Where) : Ev mu w G m w G m :=
  ⟨rfl, rfl, rfl, Nat.le_refl _, fun _ _ _ => rfl, fun _ _ h => h, fun _ h => h, fun _ h => .inl h, fun h => h, fun _ _ h => h⟩

theorem Ev.trans {mu mu2 : Nat → Prop} {w w1 w2 : World} {G G1 G2 : Nat → Prop} {m m1 m2 : Where} (h : Ev mu w G m w1 G1 m1) (h2 : Ev mu2 w1 G1 m1 w2 G2 m2)
    (hm : ∀ b, mu2 b → mu b ∨ w.heap.size ≤ b) : Ev mu w G m w2 G2 m2 where
  os := h2.os.trans h.os
  tape := h2.tape.trans h.tape
  output := h2.output.trans h.output
  size := Nat.le_trans h.size h2.size
  blk b hb hn := by
    rw [h2.blk b (Nat.lt_of_lt_of_le hb h.size) (fun h' => (hm b h').elim hn (fun x => by omega))]
    exact h.blk b hb hn
  shp b x hx := h2.shp b x (h.shp b x hx)
  sub b hb := h2.sub b (h.sub b hb)
  new b hb := by
    rcases h2.new b hb with h' | h' | h'
    · exact h.new b h'
    · exact .inr (.inl (Nat.le_trans h.size h'))
    · rcases hm b h' with h'' | h''
      · exact .inr (.inr h'')
      · exact .inr (.inl h'')
  lt hg := h2.lt (h.lt hg)
  ext id x hx := h2.ext id x (h.ext id x hx)

theorem Ev.weaken {mu mu2 : Nat → Prop} {w w1 : World} {G G1 : Nat → Prop} {m m1 : Where} (h : Ev mu w G m w1 G1 m1) (hm : ∀ b, mu b → mu2 b ∨ w.heap.size ≤ b) :
    Ev mu2 w G m w1 G1 m1 :=
  (Ev.refl mu2 w G m).trans h hm

theorem cell_of_block {w w' : World} {b : Nat} (h : w'.heap[b]? = w.heap[b]?) (o : Nat) : w'.cell? ⟨b, o, none⟩ = w.cell? ⟨b, o, none⟩ := by
  simp only [World.cell?, h]

theorem Rep.mono {mu : Nat → Prop} {w w' : World} {G G' : Nat → Prop} {m m' : Where} (h : Ev mu w G m w' G' m') (hm : ∀ b, mu b → ¬ G b)
    (hg : ∀ b, G b → b < w.heap.size) {x : AV} {v : Value} (hr : Rep w G m x v) : Rep w' G' m' x v := by
  induction hr with
  | val v => exact .val v
  | any v => exact .any v
  | slnil f => exact .slnil f
  | slnone f a cap hf => exact .slnone f a cap hf
  | sl f es sp b o cap k vs hG hcap hf hk hc h1 _ ih =>
    refine .sl f es sp b o cap k vs (h.sub b hG) hcap hf hk (fun i hi j hj => ?_) h1 ih
    rw [cell_of_block (h.blk b (hg b hG) (fun h' => hm b h' hG))]
    exact hc i hi j hj
  | fptr cs b o vs hG hc h1 _ ih =>
    refine .fptr cs b o vs (h.sub b hG) (fun j hj => ?_) h1 ih
    rw [cell_of_block (h.blk b (hg b hG) (fun h' => hm b h' hG))]
    exact hc j hj
  | ref id i off b o k hmm => exact .ref id i off b o k (h.ext _ _ hmm)
  | rsl id i len cap b o k e n hmm hlen hsh hin => exact .rsl id i len cap b o k e n (h.ext _ _ hmm) hlen (h.shp _ _ hsh) hin
  | rslz id i a => exact .rslz id i a
  | clo fn fs cs vf vc hf hc _ _ ih1 ih2 => exact .clo fn fs cs vf vc hf hc ih1 ih2
  | agg cs vs hl _ ih => exact .agg cs vs hl ih
  | tup cs vs hl _ ih => exact .tup cs vs hl ih
  | ifc t x v _ ih => exact .ifc t x v ih
  | mp id b hmm => exact .mp id b (h.ext _ _ hmm)
  | it id b hmm => exact .it id b (h.ext _ _ hmm)
  | yld id b hmm => exact .yld id b (h.ext _ _ hmm)

/-- Temporaries. -/
def get : List (Nat × AV) → Nat → AV
  | [], _ => .any
  | (i, v) :: r, j => if j = i then v else get r j

/-- What lies in memory: 'cells': a block of the call's own: is it frozen (nobody writes it any more)? Its elements, as far as they are known. 'loop': the record of a loop over a function. 'strIt': a walk through a string. 'map': its entries, each with its stamp, and its clock. 'mapIt': a walk through a map. -/
inductive Ob where
  | cells (f : Bool) (es : List (List AV))
  | loop (st : LoopState) (pd : Option Code) (ps : Array Tmp) (asg body : Code) (n : Nat) (t : List (Nat × AV))
  | strIt (s : ByteArray) (pos : Nat)
  | map (es : List (Value × AV × Nat)) (clock : Nat)
  | mapIt (mid since : Nat) (seen : List Nat) (stepped : Nat)

/-- May it be written? -/
def Ob.live : Ob → Bool
  | .cells f _ => !f
  | _ => true

/-- What an object that holds no cells is. -/
def SpOk (w : World) (G : Nat → Prop) (m : Where) : Ob → Obj → Prop
  | .loop st pd ps asg body n t, .loop r => r.state = st ∧ r.pending = pd ∧ r.params = ps ∧ r.assign = asg ∧ r.body = body ∧ r.tmps.size = n ∧ ∀ i, Rep w G m (get t i) (r.tmps.getD i undef)
  | .strIt s p, .stringIter s' p' => s' = s ∧ p' = p
  | .map es c, .map es' c' => c' = c ∧ es.length = es'.size ∧ ∀ i (h : i < es.length) (h' : i < es'.size), (es'[i]).key = (es[i]).1 ∧ (es'[i]).born = (es[i]).2.2 ∧ Rep w G m (es[i]).2.1 (es'[i]).val
  | .mapIt mid since seen stepped, .mapIter (some r) since' seen' stepped' => m mid = some (r, 0, 0) ∧ since' = since ∧ seen'.toList = seen ∧ stepped' = stepped
  | _, _ => False

/-- What a block of cells holds, from where it is said to begin: elements of k cells. -/
def CellsOk (w : World) (G : Nat → Prop) (m : Where) (id : Nat) (f : Bool) (es : List (List AV)) : Prop :=
  (es = [] ∧ m id = none) ∨ es ≠ [] ∧ ∃ b o k, m id = some (b, o, k) ∧ (f = true → G b) ∧ (f = false → ¬ G b ∧ ∃ c e, w.heap[b]? = some (.cells c e (0, 0))) ∧
    (∀ i (hi : i < es.length), (es[i]).length = k) ∧
    (∀ i (hi : i < es.length) j (hj : j < (es[i]).length), ∃ v, w.cell? ⟨b, o + i * k + j, none⟩ = some v ∧ v.oneCell' = true ∧ Rep w G m ((es[i])[j]) v)

/-- What an object is. -/
def ObjOk (w : World) (G : Nat → Prop) (m : Where) (id : Nat) : Ob → Prop
  | .cells f es => CellsOk w G m id f es
  | x => ∃ b o, m id = some (b, 0, 0) ∧ ¬ G b ∧ w.heap[b]? = some o ∧ SpOk w G m x o

abbrev Heap := List (Nat × Option Ob)
def hget : Heap → Nat → Option Ob
  | [], _ => none
  | (i, x) :: r, j => if j = i then x else hget r j

/-- All objects. -/
structure HeapOk (w : World) (G : Nat → Prop) (m : Where) (H : Nat → Option Ob) : Prop where
  obj : ∀ id x, H id = some x → ObjOk w G m id x
  apart : ∀ i j p q x y, H i = some p → H j = some q → p.live = true → q.live = true → i ≠ j → m i = some x → m j = some y → x.1 ≠ y.1

theorem ObjOk.block {w : World} {G : Nat → Prop} {m : Where} {id : Nat} {p : Ob} (h : ObjOk w G m id p) (hp : p.live = true) {x : Nat × Nat × Nat} (hx : m id = some x) : ¬ G x.1 ∧ ∃ o, w.heap[x.1]? = some o := by
  cases p with
  | cells f es =>
    obtain ⟨_, hm⟩ | ⟨_, b, o, k, hm, _, h2, _⟩ := h
    · rw [hm] at hx; cases hx
    cases f with
    | true => cases hp
    | false =>
      obtain ⟨h3, c, e, hb⟩ := h2 rfl
      rw [hm] at hx; cases hx
      exact ⟨h3, _, hb⟩
  | _ =>
    obtain ⟨b, o, hm, h3, hb, _⟩ := h
    rw [hm] at hx; cases hx
    exact ⟨h3, _, hb⟩

theorem ObjOk.lt {w : World} {G : Nat → Prop} {m : Where} {id : Nat} {p : Ob} (h : ObjOk w G m id p) (hp : p.live = true) {x : Nat × Nat × Nat} (hx : m id = some x) : x.1 < w.heap.size := by
  obtain ⟨_, o, ho⟩ := h.block hp hx
  exact (Array.getElem?_eq_some_iff.1 ho).1

theorem ObjOk.notG {w : World} {G : Nat → Prop} {m : Where} {id : Nat} {p : Ob} (h : ObjOk w G m id p) (hp : p.live = true) {x : Nat × Nat × Nat} (hx : m id = some x) : ¬ G x.1 := (h.block hp hx).1

theorem SpOk.mono {mu : Nat → Prop} {w w' : World} {G G' : Nat → Prop} {m m' : Where} (h : Ev mu w G m w' G' m') (hm : ∀ b, mu b → ¬ G b)
    (hg : ∀ b, G b → b < w.heap.size) {p : Ob} {o : Obj} (ho : SpOk w G m p o) : SpOk w' G' m' p o := by
  cases p <;> cases o <;> first | exact ho | exact ho.elim | skip
  case loop.loop => exact ⟨ho.1, ho.2.1, ho.2.2.1, ho.2.2.2.1, ho.2.2.2.2.1, ho.2.2.2.2.2.1, fun i => (ho.2.2.2.2.2.2 i).mono h hm hg⟩
  case map.map => exact ⟨ho.1, ho.2.1, fun i h1 h2 => ⟨(ho.2.2 i h1 h2).1, (ho.2.2 i h1 h2).2.1, (ho.2.2 i h1 h2).2.2.mono h hm hg⟩⟩
  case mapIt.mapIter r s se st =>
    cases r with
    | none => exact ho.elim
    | some r => exact ⟨h.ext _ _ ho.1, ho.2⟩

theorem ObjOk.mono {mu : Nat → Prop} {w w' : World} {G G' : Nat → Prop} {m m' : Where} (h : Ev mu w G m w' G' m') (hm : ∀ b, mu b → ¬ G b)
    (hg : ∀ b, G b → b < w.heap.size) {id : Nat} {y : Ob} (ho : ObjOk w G m id y) (hn : y.live = true → ∀ x, m id = some x → ¬ mu x.1) (hid : m' id = m id) : ObjOk w' G' m' id y := by
  have hb' : y.live = true → ∀ x, m id = some x → w'.heap[x.1]? = w.heap[x.1]? := fun hl x hx => h.blk x.1 (ho.lt hl hx) (hn hl x hx)
  have hG' : y.live = true → ∀ x, m id = some x → ¬ G' x.1 := fun hl x hx hG => by
    have hlt := ho.lt hl hx
    rcases h.new x.1 hG with h' | h' | h'
    · exact ho.notG hl hx h'
    · omega
    · exact hn hl x hx h'
  cases y with
  | cells f es =>
    obtain ⟨h1, h2⟩ | ⟨hne, b, o, k, hmm, h1, h2, hk, hc⟩ := ho
    · exact .inl ⟨h1, hid.trans h2⟩
    have hb : w'.heap[b]? = w.heap[b]? := by
      cases f with
      | true => exact h.blk b (hg b (h1 rfl)) (fun h' => hm b h' (h1 rfl))
      | false => exact hb' rfl _ hmm
    refine .inr ⟨hne, b, o, k, h.ext _ _ hmm, fun hf => h.sub b (h1 hf), fun hf => ⟨?_, ?_⟩, hk, fun i hi j hj => ?_⟩
    · subst hf; exact hG' rfl _ hmm
    · obtain ⟨_, c, e, hb2⟩ := h2 hf
      exact ⟨c, e, hb.trans hb2⟩
    · obtain ⟨v, h1, h2, h3⟩ := hc i hi j hj
      exact ⟨v, (cell_of_block hb _).trans h1, h2, h3.mono h hm hg⟩
  | _ =>
    obtain ⟨b, o, hmm, h1, h2, h3⟩ := ho
    exact ⟨b, o, h.ext _ _ hmm, hG' rfl _ hmm, (hb' rfl _ hmm).trans h2, SpOk.mono (p := _) h hm hg h3⟩

end Go.Bw
