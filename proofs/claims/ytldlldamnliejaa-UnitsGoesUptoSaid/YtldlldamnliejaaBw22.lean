/- More equations of the walk; calls; numbers, strings and their slices as values. -/
import Derived.Test.YtldlldamnliejaaBw21
namespace Go.Bw
open Go

section
variable {P : Program} {K : OK} {k : Nat} {v u : AV} {id i off n : Nat} {cs ds fs : List AV} {es sp : List (List AV)} {fn : Go.Fn} {ik ik' : IntKind} {a1 a2 : Int} {s1 s2 : ByteArray} {b : Bool} {t e : TI} {op : BinOp} {H : Heap} {τ : Nat → AV} {f : Bool}
theorem n_int : aNil k op v (.val (.int ik a1)) K = False := by simp [aNil, nilA]
theorem n_str : aNil k op v (.val (.string s1)) K = False := by simp [aNil, nilA]
theorem n_bool : aNil k op v (.val (.bool b)) K = False := by simp [aNil, nilA]
theorem n_ref_eql : aNil 5 .eql (.ref id i off) (.val (.pointer none)) K = K [] 0 (.val (.bool false)) [] := by simp [aNil, nilA]
theorem n_ref_neq : aNil 5 .neq (.ref id i off) (.val (.pointer none)) K = K [] 0 (.val (.bool true)) [] := by simp [aNil, nilA]
theorem n_fptr_eql : aNil 5 .eql (.fptr cs) (.val (.pointer none)) K = K [] 0 (.val (.bool false)) [] := by simp [aNil, nilA]
theorem n_fptr_neq : aNil 5 .neq (.fptr cs) (.val (.pointer none)) K = K [] 0 (.val (.bool true)) [] := by simp [aNil, nilA]
theorem n_nilp_eql : aNil 5 .eql (.val (.pointer none)) (.val (.pointer none)) K = K [] 0 (.val (.bool true)) [] := by simp [aNil, nilA]
theorem n_nilp_neq : aNil 5 .neq (.val (.pointer none)) (.val (.pointer none)) K = K [] 0 (.val (.bool false)) [] := by simp [aNil, nilA]
theorem n_clo_eql : aNil 7 .eql (.clo fn fs cs) (.val .nilFunc) K = K [] 0 (.val (.bool false)) [] := by simp [aNil, nilA]
theorem n_clo_neq : aNil 7 .neq (.clo fn fs cs) (.val .nilFunc) K = K [] 0 (.val (.bool true)) [] := by simp [aNil, nilA]
theorem n_nilf_eql : aNil 7 .eql (.val .nilFunc) (.val .nilFunc) K = K [] 0 (.val (.bool true)) [] := by simp [aNil, nilA]
theorem n_nilf_neq : aNil 7 .neq (.val .nilFunc) (.val .nilFunc) K = K [] 0 (.val (.bool false)) [] := by simp [aNil, nilA]
theorem b_ref : aBin t op (.ref id i off) u K = False := by cases u <;> simp [aBin]
theorem b_fptr : aBin t op (.fptr cs) u K = False := by cases u <;> simp [aBin]
theorem b_clo : aBin t op (.clo fn fs cs) u K = False := by cases u <;> simp [aBin]
theorem b_nilp : aBin t op (.val (.pointer none)) u K = False := by cases u <;> simp [aBin]
theorem b_nilf : aBin t op (.val .nilFunc) u K = False := by cases u <;> simp [aBin]
theorem e_ptr : evalA τ (.const (.pointer none)) = .val (.pointer none) := (rfl)
theorem e_nilf : evalA τ (.const .nilFunc) = .val .nilFunc := (rfl)
theorem l_indexS : aIndexS t (.val (.string s1)) (.val (.int ik a1)) K = (t.kind = 2 ∧ 0 ≤ a1 ∧ a1 < s1.size ∧ K [] 0 (.val (.int .u8 (strAt s1 a1.toNat))) []) := (rfl)
theorem l_conv_i : aConv t (.val (.int ik a1)) K = (t.kind = 8 ∧ K [] 0 (.val (.int t.ik (t.ik.wrap a1))) []) := (rfl)
theorem l_conv_s : aConv t (.val (.string s1)) K = (t.kind = 2 ∧ K [] 0 (.val (.string s1)) []) := (rfl)
theorem ok_ref : okNil (.ref id i off) = true := (rfl)
theorem ok_fptr : okNil (.fptr cs) = true := (rfl)
theorem ok_clo {g : FuncId} : okNil (.clo (.func g) fs cs) = true := (rfl)
theorem io_none : ioA none = some none := (rfl)
theorem io_some : ioA (some (.val (.int ik a1))) = some (some a1) := (rfl)
variable {lo hi mx : Option Int} {l h m : Int}
theorem l_slice_sl : aSliceX t e (.sl f es sp) (some lo) (some hi) (some mx) H K = (t.kind = 1 ∧ e.known = true ∧ aSliceS e f es sp lo hi mx K) := (rfl)
theorem l_slice_rsl : aSliceX t e (.rsl id i n) (some lo) (some hi) (some mx) H K = (t.kind = 1 ∧ e.known = true ∧ aSliceR e id i n H lo hi mx K) := (rfl)
theorem l_slice_str : aSliceX t e (.val (.string s1)) (some lo) (some hi) (some none) H K = (t.kind = 2 ∧ 0 ≤ lo.getD 0 ∧ lo.getD 0 ≤ hi.getD s1.size ∧ hi.getD s1.size ≤ s1.size ∧ K [] 0 (.val (.string (s1.extract (lo.getD 0).toNat (hi.getD s1.size).toNat))) []) := (rfl)
/-- s[l:h], with what is behind it. -/
def cutS (f : Bool) (es sp : List (List AV)) (l h : Nat) : AV := .sl f (((es ++ sp).take h).drop l) ((es ++ sp).drop h)
/-- s[l:h:m] -/
def cutM (es sp : List (List AV)) (l h m : Nat) : AV := .sl true (((es ++ sp).take h).drop l) (((es ++ sp).take m).drop h)
theorem l_sliceS : aSliceS e f es sp lo hi none K = (0 ≤ lo.getD 0 ∧ lo.getD 0 ≤ hi.getD es.length ∧ (∀ c ∈ es ++ sp, c.length = e.sz) ∧ hi.getD es.length ≤ ((es ++ sp).length : Nat) ∧ K [] 0 (cutS f es sp (lo.getD 0).toNat (hi.getD es.length).toNat) []) := (rfl)
theorem l_sliceS3 : aSliceS e f es sp lo (some h) (some m) K = (0 ≤ lo.getD 0 ∧ lo.getD 0 ≤ h ∧ (∀ c ∈ es ++ sp, c.length = e.sz) ∧ h ≤ m ∧ m ≤ ((es ++ sp).length : Nat) ∧ true = true ∧ K [] 0 (cutM es sp (lo.getD 0).toNat h.toNat m.toNat) []) := (rfl)
theorem l_sliceR : aSliceR e id i n H lo hi none K = (none = (none : Option Int) ∧ 0 ≤ lo.getD 0 ∧ lo.getD 0 ≤ hi.getD n ∧ hi.getD n ≤ n ∧ (lo.getD 0 = 0 ∨ allSz (hget H id) e.sz) ∧ K [id] 0 (.rsl id (i + (lo.getD 0).toNat) (hi.getD n - lo.getD 0).toNat) []) := (rfl)
theorem allSz_eq : allSz (some (.cells f es)) k = (es ≠ [] ∧ ∀ c ∈ es, c.length = k) := (rfl)
theorem cutS_nil {l : Nat} (hl : es.length = h.toNat) : cutS f es [] l h.toNat = .sl f (es.drop l) [] := by simp [cutS, ← hl]
theorem cut_all {h : Nat} (hl : es.length = h) : cutS f es sp 0 h = .sl f es sp := by simp [cutS, ← hl]
end

section
variable {P : Program} {K : OK} {S : St} {d : Option Nat} {ty T U i : Nat} {p : String} {af : Array Edge} {g : Option (Nat × Bool)} {x y : Operand} {lo hi mx : Option Operand}
theorem r_index : arule P ⟨d, .index T x y, ty, p, af, g⟩ S K = aIndexS (ti P T) (evalA (get S.t) x) (evalA (get S.t) y) K := (rfl)
theorem r_convert : arule P ⟨d, .convert U T x, ty, p, af, g⟩ S K = (((ti P U).kind = 8 ∨ (ti P U).kind = 2) ∧ aConv (ti P T) (evalA (get S.t) x) K) := (rfl)
theorem r_nilCheck : arule P ⟨d, .nilCheck x, ty, p, af, g⟩ S K = (okNil (evalA (get S.t) x) = true ∧ K [] 0 (evalA (get S.t) x) []) := (rfl)
theorem r_slice : arule P ⟨d, .slice T x lo hi mx, ty, p, af, g⟩ S K = aSliceX (ti P T) (ti P (ti P T).elem) (evalA (get S.t) x) (ioA (lo.map (evalA (get S.t)))) (ioA (hi.map (evalA (get S.t)))) (ioA (mx.map (evalA (get S.t)))) S.h K := (rfl)
end

section
variable {P : Program} {S : St} {K : SK} {T n : Nat} {op : BinOp} {f : Bool} {e : List AV} {es sp : List (List AV)} {id i : Nat}
theorem sNil_cons_eql : sNil P T .eql (.sl f (e :: es) sp) S K = ((ti P T).kind = 1 ∧ K (.val (.bool false)) S.h S.nx) := by simp [sNil]
theorem sNil_cons_neq : sNil P T .neq (.sl f (e :: es) sp) S K = ((ti P T).kind = 1 ∧ K (.val (.bool true)) S.h S.nx) := by simp [sNil]
theorem sNil_nil : sNil P T .eql (.sl f [] sp) S K = ((ti P T).kind = 1 ∧ ∀ b, K (.val (.bool b)) S.h S.nx) := by simp [sNil]
theorem sNil_nil_neq : sNil P T .neq (.sl f [] sp) S K = ((ti P T).kind = 1 ∧ ∀ b, K (.val (.bool b)) S.h S.nx) := by simp [sNil]
/-- A nil test of a slice, its elements being as they are. -/
theorem sNil_eql (h1 : (ti P T).kind = 1) (h2 : es ≠ [] → K (.val (.bool false)) S.h S.nx) (h3 : es = [] → ∀ b, K (.val (.bool b)) S.h S.nx) : sNil P T .eql (.sl f es sp) S K := by
  cases es with
  | nil => rw [sNil_nil]; exact ⟨h1, h3 rfl⟩
  | cons e es => rw [sNil_cons_eql]; exact ⟨h1, h2 (by simp)⟩
theorem sNil_rsl (h1 : (ti P T).kind = 1) (h2 : 0 < n → K (.val (.bool false)) S.h S.nx) (h3 : n = 0 → ∀ b, K (.val (.bool b)) S.h S.nx) : sNil P T .eql (.rsl id i n) S K := by
  refine ⟨h1, .inl rfl, h3, fun h => ?_⟩
  simpa using h2 h

/-! ### calls -/
variable {F : AV} {args fs cs : List AV} {g : FuncId} {out : AV}
theorem aCall_f {K : OK} (h : Fn P g args out) (hK : K [] 0 out []) : aCall P (.clo (.func g) [] []) args S K :=
  aCall_fn (by simpa using h) hK
/-- A function is called that reads and makes what it hands back. -/
theorem sCall_fn (h : Fn P g (fs ++ args ++ cs) out) (hK : K out S.h S.nx) : sCall P (.clo (.func g) fs cs) args S K := ⟨S.h, Le.refl S, .inl (aCall_fn h (by simpa using hK))⟩
theorem sCall_f (h : Fn P g args out) (hK : K out S.h S.nx) : sCall P (.clo (.func g) [] []) args S K := sCall_fn (by simpa using h) hK
/-- A function is called that borrows objects. -/
theorem sCall_b (vs : List AV) (hv : vs = (fs ++ args ++ cs).map (viewA S.h 9)) (h : Fn P g vs out) (hfl : Flat out) (hK : K out S.h S.nx) : sCall P (.clo (.func g) fs cs) args S K := by
  subst hv
  refine ⟨S.h, Le.refl S, .inl (aCall_borrow (S := S) (keys S.h) h (by simp) (fun j h1 h2 => ?_) hfl (by simpa using hK))⟩
  have e : restr (keys S.h) (hget S.h) = hget S.h := by
    funext id
    unfold restr
    split
    · rfl
    · rename_i hn
      rw [hl_hget, hl_none.2 hn]
  rw [e]
  simp only [List.getElem_map]
  exact viewA_vw S.h 9 _
/-- Some of the objects. -/
def hsel (rd : List Nat) : Heap → Heap
  | [] => []
  | (i, x) :: r => if rd.contains i then (i, x) :: hsel rd r else hsel rd r
theorem hget_hsel (rd : List Nat) (h : Heap) : hget (hsel rd h) = restr rd (hget h) := by
  funext id
  induction h with
  | nil => simp [hsel, hget, restr]
  | cons p r ih =>
    obtain ⟨i, x⟩ := p
    simp only [hsel]
    by_cases hc : rd.contains i
    · rw [if_pos hc]
      simp only [hget]
      by_cases e : id = i
      · subst e; simp only [List.contains_eq_mem, decide_eq_true_eq] at hc; simp [restr, hget, hc]
      · rw [if_neg e, ih]; simp [restr, hget, e]
    · rw [if_neg hc, ih]
      by_cases e : id = i
      · subst e; simp only [List.contains_eq_mem, decide_eq_true_eq] at hc; simp [restr, hc]
      · simp [restr, hget, e]
/-- The same where the order is drawn. -/
theorem aCall_b {K : OK} (rd : List Nat) (vs : List AV) (hv : vs = (fs ++ args ++ cs).map (viewA (hsel rd S.h) 9)) (h : Fn P g vs out) (hfl : Flat out) (hK : K rd 0 out []) : aCall P (.clo (.func g) fs cs) args S K := by
  subst hv
  refine aCall_borrow rd h (by simp) (fun j h1 h2 => ?_) hfl hK
  rw [← hget_hsel]
  simp only [List.getElem_map]
  exact viewA_vw _ 9 _
/-- A function value is called, where the objects h lie, and others. -/
theorem sCall_v (r h : Heap) (he : S.h = r ++ h) (hr : ∀ id ∈ keys r, hget h id = none) {Post : AV → Heap → Nat → Prop} (hc : CallV P F args h S.nx Post) (hK : ∀ out h' nx', S.nx ≤ nx' → (∀ id, id < S.nx → hget h id = none → hget h' id = none) → Post out h' nx' → K out (r ++ h') nx') : sCall P F args S K :=
  ⟨S.h, Le.refl S, .inr ⟨F, args, r, h, fun out h' nx' => S.nx ≤ nx' ∧ (∀ id, id < S.nx → hget h id = none → hget h' id = none) ∧ Post out h' nx', vw_refl _, rfl, fun _ _ _ => vw_refl _, fun _ => by rw [he], hr, hc.mono' fun _ _ _ hle hid hP => ⟨hle, hid, hP⟩, fun out h' nx' hP => hK out h' nx' hP.1 hP.2.1 hP.2.2⟩⟩

/-- Some objects frozen where they lie. -/
def hz (ids : List Nat) : Heap → Heap
  | [] => []
  | (i, x) :: r => (i, if ids.contains i then (match x with | some (.cells _ es) => some (.cells true es) | x => x) else x) :: hz ids r
theorem hget_hz (ids : List Nat) (h : Heap) (id : Nat) : hget (hz ids h) id = if ids.contains id then (match hget h id with | some (.cells _ es) => some (.cells true es) | x => x) else hget h id := by
  induction h with
  | nil => simp [hz, hget]
  | cons p r ih =>
    obtain ⟨i, x⟩ := p
    simp only [hz, hget]
    by_cases e : id = i
    · subst e; simp
    · simp only [if_neg e]; exact ih
theorem Le.hz (ids : List Nat) : Le S ⟨S.t, Bw.hz ids S.h, S.nx⟩ := by
  intro c r a w G m hI
  have hlt : ∀ b, blkOf (fun id => ids.contains id = true) m (hget S.h) b → b < w.heap.size := by
    rintro b ⟨id, es, x, _, h1, h2, rfl⟩
    exact (hI.heap.obj id _ h1).lt rfl h2
  have hb : ∀ id p, hget (Bw.hz ids S.h) id = some p → p.live = true → ids.contains id = true ∧ (∃ q, hget S.h id = some q ∧ q.live = true ∧ q = p) ∨ ids.contains id = false ∧ hget S.h id = some p := fun id p hp hl => by
    rw [hget_hz] at hp
    cases hc : ids.contains id with
    | false => rw [hc] at hp; exact .inr ⟨rfl, by simpa using hp⟩
    | true =>
      rw [hc] at hp
      simp only [if_true] at hp
      split at hp
      · cases hp; cases hl
      · exact .inl ⟨rfl, p, hp, hl, rfl⟩
  have hob : ∀ id p, hget (Bw.hz ids S.h) id = some p → ∃ q, hget S.h id = some q ∧ (p = q ∨ ids.contains id = true ∧ ∃ f es, q = .cells f es ∧ p = .cells true es) := fun id p hp => by
    rw [hget_hz] at hp
    cases hc : ids.contains id with
    | false => rw [hc] at hp; exact ⟨p, by simpa using hp, .inl rfl⟩
    | true =>
      rw [hc] at hp
      simp only [if_true] at hp
      split at hp
      · rename_i f es he; cases hp; exact ⟨_, he, .inr ⟨rfl, f, es, rfl, rfl⟩⟩
      · exact ⟨p, hp, .inl rfl⟩
  have hlive : ∀ id p, hget (Bw.hz ids S.h) id = some p → p.live = true → hget S.h id = some p := fun id p hp hl => by
    rcases hb id p hp hl with ⟨_, q, h1, _, rfl⟩ | ⟨_, h1⟩
    · exact h1
    · exact h1
  have hnb : ∀ id p x, hget (Bw.hz ids S.h) id = some p → p.live = true → m id = some x → ¬ (G x.1 ∨ blkOf (fun id => ids.contains id = true) m (hget S.h) x.1) := by
    rintro id p x hp hl hx (hG | ⟨id', es, y, hF, h1, h2, e⟩)
    · exact (hI.heap.obj id p (hlive id p hp hl)).notG hl hx hG
    · by_cases e2 : id' = id
      · subst e2
        rw [hget_hz, hF, h1] at hp
        cases hp; cases hl
      · exact hI.heap.apart id' id _ p y x h1 (hlive id p hp hl) rfl hl e2 h2 hx e
  refine ⟨fun b => G b ∨ blkOf (fun id => ids.contains id = true) m (hget S.h) b, m, hI.tmps, hI.dfr, hI.dsr, hI.dsn, fun p hp => ⟨(hI.res p hp).1, ?_⟩, fun p hp id q x hq hl => hI.resA p hp id q x (hlive id q hq hl) hl, hI.inR, fun b hb => hb.elim (hI.g b) (hlt b), fun t => (hI.rep t).monoG fun _ h => .inl h,
    ⟨fun id p hp => ?_, fun i j p q x y hi hj hp hq => hI.heap.apart i j p q x y (hlive i p hi hp) (hlive j q hj hq) hp hq⟩, ?_, fun id p x hp hl => hI.own id p x (hlive id p hp hl) hl, hI.ids, fun id p hp => ?_, hI.old, hI.unx, fun id p hp => ?_⟩
  · rintro (hG | ⟨id, es, x, _, h1, h2, e⟩)
    · exact (hI.res p hp).2 hG
    · exact hI.resA p hp id _ x h1 rfl h2 e
  · obtain ⟨q, hq, h1⟩ := hob id p hp
    have ho := hI.heap.obj id q hq
    have hup : ∀ {x : AV} {v : Value}, Rep w G m x v → Rep w (fun b => G b ∨ blkOf (fun id => ids.contains id = true) m (hget S.h) b) m x v := fun h => h.monoG fun _ h => .inl h
    rcases h1 with rfl | ⟨hc, f, es, rfl, rfl⟩
    · have hn := hnb id p
      cases p with
      | cells f es =>
        obtain ⟨e1, e2⟩ | ⟨hne, b, o, k, hm, hg, hng, hk, hcc⟩ := ho
        · exact .inl ⟨e1, e2⟩
        refine .inr ⟨hne, b, o, k, hm, fun hf => .inl (hg hf), fun hf => ⟨hn _ hp (by rw [hf]; rfl) hm, (hng hf).2⟩, hk, fun i hi j hj => ?_⟩
        obtain ⟨v, e1, e2, e3⟩ := hcc i hi j hj
        exact ⟨v, e1, e2, hup e3⟩
      | loop st pd ps asg body n t =>
        obtain ⟨b, o, e1, e2, e3, e4⟩ := ho
        refine ⟨b, o, e1, hn _ hp rfl e1, e3, ?_⟩
        cases o <;> first | exact e4.elim | skip
        exact ⟨e4.1, e4.2.1, e4.2.2.1, e4.2.2.2.1, e4.2.2.2.2.1, e4.2.2.2.2.2.1, fun i => hup (e4.2.2.2.2.2.2 i)⟩
      | strIt s p =>
        obtain ⟨b, o, e1, e2, e3, e4⟩ := ho
        exact ⟨b, o, e1, hn _ hp rfl e1, e3, by cases o <;> first | exact e4.elim | exact e4⟩
      | map es cl =>
        obtain ⟨b, o, e1, e2, e3, e4⟩ := ho
        refine ⟨b, o, e1, hn _ hp rfl e1, e3, ?_⟩
        cases o <;> first | exact e4.elim | skip
        exact ⟨e4.1, e4.2.1, fun i h1 h2 => ⟨(e4.2.2 i h1 h2).1, (e4.2.2 i h1 h2).2.1, hup (e4.2.2 i h1 h2).2.2⟩⟩
      | mapIt mid s se st =>
        obtain ⟨b, o, e1, e2, e3, e4⟩ := ho
        refine ⟨b, o, e1, hn _ hp rfl e1, e3, ?_⟩
        cases o <;> first | exact e4.elim | skip
        rename_i q _ _ _
        cases q <;> first | exact e4.elim | exact e4
    · obtain ⟨e1, e2⟩ | ⟨hne, b, o, k, hm, hg, hng, hk, hcc⟩ := ho
      · exact .inl ⟨e1, e2⟩
      refine .inr ⟨hne, b, o, k, hm, fun _ => ?_, (fun h => by cases h), hk, fun i hi j hj => ?_⟩
      · cases f with
        | true => exact .inl (hg rfl)
        | false => exact .inr ⟨id, es, _, hc, hq, hm, rfl⟩
      · obtain ⟨v, e1, e2, e3⟩ := hcc i hi j hj
        exact ⟨v, e1, e2, hup e3⟩
  · have ev := hI.ev
    refine ⟨ev.os, ev.tape, ev.output, ev.size, ev.blk, ev.shp, fun b hb => .inl (ev.sub b hb), fun b hb => ?_, fun hl b hb => hb.elim (ev.lt hl b) (hlt b), ev.ext⟩
    rcases hb with hb | ⟨id, es, x, _, h1, h2, rfl⟩
    · exact ev.new b hb
    · exact (hI.own id _ x h1 rfl h2).elim (fun h => .inr (.inr h)) (fun h => .inr (.inl h))
  · obtain ⟨q, hq, _⟩ := hob id p hp
    exact hI.idh id q hq
  · obtain ⟨q, hq, _⟩ := hob id p hp
    exact hI.new id q hq

/-- What a value is where some objects are frozen. -/
def viewT (h : Heap) : Nat → AV → AV
  | n + 1, .rsl id i len => match hget h id with
    | some (.cells true es) => if i + len ≤ es.length then .sl false (((es.drop i).take len).map fun e => e.map (viewT h n)) [] else .rsl id i len
    | _ => .rsl id i len
  | n + 1, .ref id i off => match hget h id with
    | some (.cells true es) => match es[i]? with
      | some cs => .fptr ((cs.drop off).map (viewT h n))
      | none => .ref id i off
    | _ => .ref id i off
  | n + 1, .agg cs => .agg (cs.map (viewT h n))
  | n + 1, .tup cs => .tup (cs.map (viewT h n))
  | n + 1, .clo f fs cs => .clo f (fs.map (viewT h n)) (cs.map (viewT h n))
  | _, x => x

theorem viewT_vw (h : Heap) : ∀ (n : Nat) (x : AV), Vw (fun _ => False) (hget h) x (viewT h n x) := by
  intro n
  induction n with
  | zero => intro x; cases x <;> exact vw_refl _
  | succ n ih =>
    intro x
    cases x with
    | rsl id i len =>
      unfold viewT
      split
      · rename_i es hes
        split
        · rename_i hle
          refine vw_rsl' (fun h => by cases h) hes hle (by simp; omega) (fun t ht => by simp) fun t ht j hj => ?_
          simp only [List.getElem_map, List.getElem_take, List.getElem_drop]
          exact ih _
        · exact vw_refl _
      · exact vw_refl _
    | ref id i off =>
      unfold viewT
      split
      · rename_i es hes
        split
        · rename_i cs hcs
          refine vw_ref' (fun h => by cases h) hes hcs (by simp) fun j h1 h2 => ?_
          simp only [List.getElem_map]
          exact ih _
        · exact vw_refl _
      · exact vw_refl _
    | agg cs => exact vw_agg (by simp) fun j h1 h2 => by simp only [List.getElem_map]; exact ih _
    | tup cs => exact vw_tup (by simp) fun j h1 h2 => by simp only [List.getElem_map]; exact ih _
    | clo f fs cs => exact vw_clo (by simp) (fun j h1 h2 => by simp only [List.getElem_map]; exact ih _) (by simp) (fun j h1 h2 => by simp only [List.getElem_map]; exact ih _)
    | _ => exact vw_refl _

/-- A function value is called to which objects are given up. -/
theorem sCall_g (ids : List Nat) (F' : AV) (vs : List AV) (r h : Heap) (hF : viewT (hz ids S.h) 9 F = F') (hv : args.map (viewT (hz ids S.h) 9) = vs) (he : hz ids S.h = r ++ h) (hr : ∀ id ∈ keys r, hget h id = none) {Post : AV → Heap → Nat → Prop}
    (hc : CallV P F' vs h S.nx Post) (hK : ∀ out h' nx', S.nx ≤ nx' → Post out h' nx' → K out (r ++ h') nx') : sCall P F args S K := by
  subst hF; subst hv
  exact ⟨hz ids S.h, Le.hz ids, .inr ⟨_, _, r, h, fun out h' nx' => S.nx ≤ nx' ∧ Post out h' nx', viewT_vw _ 9 _, by simp, fun j h1 h2 => by simp only [List.getElem_map]; exact viewT_vw _ 9 _, fun _ => by rw [he], hr, hc.mono fun _ _ _ hle hP => ⟨hle, hP⟩, fun out h' nx' hP => hK out h' nx' hP.1 hP.2⟩⟩
theorem CallV.of_fn {h : Heap} {nx : Nat} (hF : Fn P g (fs ++ args ++ cs) out) : CallV P (.clo (.func g) fs cs) args h nx (fun o h' n => o = out ∧ h' = h ∧ n = nx) := by
  intro w G m fv vs hg hrF hl ha hh hi hi2
  cases hrF with
  | clo _ _ _ vf vc hfl hcl hrf hrc =>
    have := hF.run w G m (vf ++ vs ++ vc) hg (by simp; omega) (reps_append (by simp; omega) (reps_append hfl hrf ha) hrc) ⟨fun id x hx => by simp [restr] at hx, fun i j p q x y hi => by simp [restr] at hi⟩ (by simp)
    refine .inl ⟨g, vf, vc, rfl, hF.enters, Calls.mono this ?_⟩
    rintro e w' ⟨v, G', m', rfl, hres⟩
    have hm : m' = m := funext fun id => hres.ids id (by simp)
    subst hm
    have ev := hres.ev.weaken (mu2 := fun _ => False) (fun b ⟨id, hid, _⟩ => by simp [keys] at hid)
    refine ⟨v, rfl, out, h, nx, G', m', ⟨rfl, rfl, rfl⟩, ⟨Nat.le_refl _, ev.weaken (fun _ h => h.elim), ⟨fun id p hp => (hh.obj id p hp).mono ev (fun _ h => h.elim) hg (fun _ _ _ h => h) rfl, hh.apart⟩, fun id p x hp hl hx => .inl ⟨id, p, x, hp, hl, hx, rfl⟩, fun id x hx => .inl hx, fun id p hp => .inl ⟨p, hp⟩⟩, hres.rep⟩
end

/-- A function is called to which objects are given up. -/
theorem sCall_gf {P : Program} {S : St} {K : SK} {g : FuncId} {args : List AV} {out : AV} (ids : List Nat) (vs : List AV) (hv : args.map (viewT (hz ids S.h) 9) = vs) (h : Fn P g vs out) (hK : K out (hz ids S.h) S.nx) : sCall P (.clo (.func g) [] []) args S K :=
  sCall_g ids (.clo (.func g) [] []) vs [] (hz ids S.h) rfl hv rfl (by simp [keys]) (CallV.of_fn (by simpa using h)) fun _ _ _ _ hp => by obtain ⟨h1, h2, h3⟩ := hp; subst h1; subst h2; subst h3; exact hK

/-- What a function makes, frozen. -/
theorem Fn.of_callV {P : Program} {g : FuncId} {args : List AV} {out : AV} (henter : ∀ args w, (callFunc g args).run P w = .ok (.enter g args) w) (hfree : ∀ x ∈ args, Free x) (hfo : Free out)
    (h : CallV P (.clo (.func g) [] []) args [] 0 fun o h _ => Vw (fun _ => True) (hget h) o out) : Fn P g args out := by
  refine ⟨henter, by simp [keys], by simp, fun w G m vs hg hlen hreps _ _ => ?_⟩
  have hc := h w G (fun _ => none) (.func (.func g) #[] #[]) vs hg (.clo _ _ _ _ _ rfl rfl (fun j hj => by simp at hj) (fun j hj => by simp at hj)) hlen (fun j hj => hfree _ (List.getElem_mem hj) w G m _ (hreps j hj))
    ⟨fun id x hx => by simp [hget] at hx, fun i j p q x y hi => by simp [hget] at hi⟩ (fun id x hx => by cases hx) (fun id p hp => by simp [hget] at hp)
  have hcall : Calls P g vs w fun e w' => ∃ v, e = .returned v ∧ ∃ o h' nx' G' m', Vw (fun _ => True) (hget h') o out ∧ Turn (hget []) 0 w G (fun _ => none) (hget h') nx' w' G' m' ∧ Rep w' G' m' o v := by
    rcases hc with ⟨f', vf', vc', e, _, hc⟩ | ⟨f', vf', vc', e, v, w', hc, _⟩ | ⟨l', L', e, _⟩
    · cases e; simpa using hc
    · cases e; rw [henter] at hc; cases hc
    · cases e
  refine Calls.mono hcall ?_
  rintro e w' ⟨v, rfl, o, h', nx', G', m', hvw, ht, hrep⟩
  have hv := hvw w' G' m' v ht.heap hrep
  have hown : ∀ b, blkOf (fun _ => True) m' (hget h') b → w.heap.size ≤ b := by
    rintro b ⟨id, es, x, _, h1, h2, rfl⟩
    rcases ht.own id _ x h1 rfl h2 with ⟨id', p, y, h3, _⟩ | h3
    · simp [hget] at h3
    · exact h3
  have hlt : ∀ b, blkOf (fun _ => True) m' (hget h') b → b < w'.heap.size := by
    rintro b ⟨id, es, x, _, h1, h2, rfl⟩
    exact (ht.heap.obj id _ h1).lt rfl h2
  have ev := ht.ev
  refine ⟨v, _, m, rfl, ⟨⟨ev.os, ev.tape, ev.output, ev.size, fun b hb _ => ev.blk b hb (fun ⟨id, p, x, h1, _⟩ => by simp [hget] at h1), ev.shp, fun b hb => .inl (ev.sub b hb), fun b hb => ?_, fun hl b hb => hb.elim (ev.lt hl b) (hlt b), fun _ _ h => h⟩,
    (hfo w' _ m' v hv).mapM (by simp), by simp [hl], by simp [hl], by simp [hl], fun _ _ => rfl⟩⟩
  rcases hb with hb | hb
  · rcases ev.new b hb with h1 | h1 | ⟨id, p, x, h1, _⟩
    · exact .inl h1
    · exact .inr (.inl h1)
    · simp [hget] at h1
  · exact .inr (.inl (hown b hb))

/-- A slice that may have room behind. -/
theorem vw_room {F : Nat → Prop} {H : Nat → Option Ob} {es : List (List AV)} : Vw F H (.sl true es []) (.sl false es []) := by
  intro w G m v _ hr
  have hr := hr.monoG (G' := fun b => G b ∨ blkOf F m H b) fun _ hb => .inl hb
  cases hr with
  | slnil => exact .slnil false
  | slnone _ a cap hf => exact .slnone false a cap (by simp)
  | sl _ _ _ b o cap k vs hG hcap hf hk hc h1 hrr => exact .sl false es [] b o cap k vs hG hcap (by simp) hk hc h1 hrr

def avI (a : Int) : AV := .val (.int .i64 a)
def avS (s : ByteArray) : AV := .val (.string s)
def avB (b : Bool) : AV := .val (.bool b)
def slI (l : List Int) : AV := .sl false (l.map fun a => [avI a]) []
def slS (l : List ByteArray) : AV := .sl false (l.map fun a => [avS a]) []
theorem free_slI {l : List Int} : Free (slI l) := free_sl (by simp only [List.append_nil, List.mem_map]; rintro e ⟨a, _, rfl⟩ c hc; simp only [List.mem_singleton] at hc; subst hc; exact free_val _)
theorem free_slS {l : List ByteArray} : Free (slS l) := free_sl (by simp only [List.append_nil, List.mem_map]; rintro e ⟨a, _, rfl⟩ c hc; simp only [List.mem_singleton] at hc; subst hc; exact free_val _)
theorem free_avI {a : Int} : Free (avI a) := free_val _
theorem free_avS {a : ByteArray} : Free (avS a) := free_val _
end Go.Bw
