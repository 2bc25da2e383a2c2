/-
  NARROWER THAN 'FOR EVERY INPUT', by the rows' own cells (each row's printed sentence says how): UnitsOf: loops · UnitsBinds: loops.
  DERIVED. THE GIVEN ROWS OF THIS SEAT. 5 by the template 'for every input the law returns true; each argument reads behind the call as it read before'; 0 by the template 'total and deterministic' (their statements: YtldlldamnliejaaTotals.lean).
  GIVEN WITH THE SEED: the statements are not yours to turn. If you find one false, say at which input.
  Laid BY PROGRAM, IN A SANDBOX (cutbox-rows.mjs): the forced cells as the released guide's own fill.sh prints them over the translation eb7a0a7b9b314dd1… (all of the seat's roots in one cut). By AI agents, Wed Nov 11 2026. No macro, syntax, notation, axiom, sorry.
-/
import Derived.Test.YtldlldamnliejaaChecked
import GoSem.Claim
import GoSem.ClaimJoined
import GoSem.ClaimMapViews
import Derived.JoinedTies
import Derived.KernelRfl
namespace Go.Proofs.Ytldlldamnliejaa
/- THE CELL 'sum', in the pinned program and in every row, IS THE sha256 OF THE DUMP (.gsa) THAT YtldlldamnliejaaProg.lean LOADS. Nothing in Lean hashes anything: it is a label: what it is worth is what the hold of that sum in a sandbox is worth. -/
noncomputable def Try.pinned : Pinned := { name := "ytldlldamnliejaa", sum := "eb7a0a7b9b314dd115e1ff7a6887fbd863f0088bcbc4e0f6adca62ea2541464e", checked := Try.checked }
namespace Rows
def none {H : Type} : Left H := { results := [], args := [] }

/-- 'amalgamlaw17.UnitsWays': WHATEVER THE INPUT: true; the input reads as it did. -/
def unitsWaysSpec : ChangeSpec := { name := "unitsWays", fn := fun _ => fun
  | [d1, d2, d3] => { results := [.lit (.bool true)], args := [d1, d2, d3] }
  | _ => none }
def unitsWaysRow : OpenClaim := { program := "ytldlldamnliejaa", sum := "eb7a0a7b9b314dd115e1ff7a6887fbd863f0088bcbc4e0f6adca62ea2541464e", func := "amalgam/amalgamlaw17.UnitsWays", spec := "unitsWays", recurses := true, apart := false }
def UnitsWaysSaid : Prop := unitsWaysRow.holds Try.pinned (OpenSpec.ofChange unitsWaysSpec)

/-- ITS FALSE NEIGHBOUR: 'it returns false'. Refute it at one input. -/
def unitsWaysWrong : ChangeSpec := { name := "unitsWays", fn := fun _ => fun
  | [d1, d2, d3] => { results := [.lit (.bool false)], args := [d1, d2, d3] }
  | _ => none }
def UnitsWaysWrongFalsely : Prop := unitsWaysRow.holds Try.pinned (OpenSpec.ofChange unitsWaysWrong)

/-- 'amalgamlaw17.UnitsApart': WHATEVER THE INPUT: true; the input reads as it did. -/
def unitsApartSpec : ChangeSpec := { name := "unitsApart", fn := fun _ => fun
  | [d] => { results := [.lit (.bool true)], args := [d] }
  | _ => none }
def unitsApartRow : OpenClaim := { program := "ytldlldamnliejaa", sum := "eb7a0a7b9b314dd115e1ff7a6887fbd863f0088bcbc4e0f6adca62ea2541464e", func := "amalgam/amalgamlaw17.UnitsApart", spec := "unitsApart", recurses := true, apart := false }
def UnitsApartSaid : Prop := unitsApartRow.holds Try.pinned (OpenSpec.ofChange unitsApartSpec)

/-- ITS FALSE NEIGHBOUR: 'it returns false'. Refute it at one input. -/
def unitsApartWrong : ChangeSpec := { name := "unitsApart", fn := fun _ => fun
  | [d] => { results := [.lit (.bool false)], args := [d] }
  | _ => none }
def UnitsApartWrongFalsely : Prop := unitsApartRow.holds Try.pinned (OpenSpec.ofChange unitsApartWrong)

/-- 'amalgamlaw17.UnitsGoes': WHATEVER THE INPUT: true; the input reads as it did. -/
def unitsGoesSpec : ChangeSpec := { name := "unitsGoes", fn := fun _ => fun
  | [d1, d2, d3] => { results := [.lit (.bool true)], args := [d1, d2, d3] }
  | _ => none }
def unitsGoesRow : OpenClaim := { program := "ytldlldamnliejaa", sum := "eb7a0a7b9b314dd115e1ff7a6887fbd863f0088bcbc4e0f6adca62ea2541464e", func := "amalgam/amalgamlaw17.UnitsGoes", spec := "unitsGoes", unfollowed := true, recurses := true, apart := false }
def UnitsGoesSaid : Prop := unitsGoesRow.holds Try.pinned (OpenSpec.ofChange unitsGoesSpec)

/-- ITS FALSE NEIGHBOUR: 'it returns false'. Refute it at one input. -/
def unitsGoesWrong : ChangeSpec := { name := "unitsGoes", fn := fun _ => fun
  | [d1, d2, d3] => { results := [.lit (.bool false)], args := [d1, d2, d3] }
  | _ => none }
def UnitsGoesWrongFalsely : Prop := unitsGoesRow.holds Try.pinned (OpenSpec.ofChange unitsGoesWrong)

/-- 'amalgamlaw17.UnitsOf': WHATEVER THE INPUT: true; the input reads as it did. -/
def unitsOfSpec : ChangeSpec := { name := "unitsOf", fn := fun _ => fun
  | [d1, d2, d3] => { results := [.lit (.bool true)], args := [d1, d2, d3] }
  | _ => none }
def unitsOfRow : OpenClaim := { program := "ytldlldamnliejaa", sum := "eb7a0a7b9b314dd115e1ff7a6887fbd863f0088bcbc4e0f6adca62ea2541464e", func := "amalgam/amalgamlaw17.UnitsOf", spec := "unitsOf", unfollowed := true, recurses := true, loops := true, apart := false }
def UnitsOfSaid : Prop := unitsOfRow.holds Try.pinned (OpenSpec.ofChange unitsOfSpec)

/-- ITS FALSE NEIGHBOUR: 'it returns false'. Refute it at one input. -/
def unitsOfWrong : ChangeSpec := { name := "unitsOf", fn := fun _ => fun
  | [d1, d2, d3] => { results := [.lit (.bool false)], args := [d1, d2, d3] }
  | _ => none }
def UnitsOfWrongFalsely : Prop := unitsOfRow.holds Try.pinned (OpenSpec.ofChange unitsOfWrong)

/-- 'amalgamlaw17.UnitsBinds': WHATEVER THE INPUT: true; the input reads as it did. -/
def unitsBindsSpec : ChangeSpec := { name := "unitsBinds", fn := fun _ => fun
  | [d] => { results := [.lit (.bool true)], args := [d] }
  | _ => none }
def unitsBindsRow : OpenClaim := { program := "ytldlldamnliejaa", sum := "eb7a0a7b9b314dd115e1ff7a6887fbd863f0088bcbc4e0f6adca62ea2541464e", func := "amalgam/amalgamlaw17.UnitsBinds", spec := "unitsBinds", unfollowed := true, recurses := true, loops := true, apart := false }
def UnitsBindsSaid : Prop := unitsBindsRow.holds Try.pinned (OpenSpec.ofChange unitsBindsSpec)

/-- ITS FALSE NEIGHBOUR: 'it returns false'. Refute it at one input. -/
def unitsBindsWrong : ChangeSpec := { name := "unitsBinds", fn := fun _ => fun
  | [d] => { results := [.lit (.bool false)], args := [d] }
  | _ => none }
def UnitsBindsWrongFalsely : Prop := unitsBindsRow.holds Try.pinned (OpenSpec.ofChange unitsBindsWrong)

/- THE SECOND FORM. 'bulk': how many values and letters a reading holds, each counted each time it is reached (what is shared counts as often as it is met; a slice's spare places count too). A statement '..UptoSaid' is the law's where the arguments, and the package variables that the reading takes, are together of bulk at most 1048576: NARROWER than '..Said'. Prove '..Said' where nothing that the law and all that it calls make is longer than what came in: it says more and counts as full. Else prove '..UptoSaid'. A law counts once. -/
mutual
def uptoBulk {H : Type} : DataW H → Nat
  | .lit (.string bytes) => bytes.length + 1
  | .lit _ => 1
  | .nil => 1
  | .ptr d => uptoBulk d + 1
  | .slice elems spare => uptoBulkAll elems + uptoBulkAll spare + 1
  | .agg parts => uptoBulkAll parts + 1
  | .iface _ d => uptoBulk d + 1
  | .map entries => uptoBulkEntries entries + 1
  | .held _ => 1
def uptoBulkAll {H : Type} : List (DataW H) → Nat
  | [] => 0
  | d :: r => uptoBulk d + uptoBulkAll r
def uptoBulkEntries {H : Type} : List (Lit × DataW H) → Nat
  | [] => 0
  | x :: r => uptoBulkEntry x + uptoBulkEntries r
def uptoBulkEntry {H : Type} : Lit × DataW H → Nat
  | (.string bytes, d) => bytes.length + uptoBulk d + 1
  | (_, d) => uptoBulk d + 1
 end
def uptoSmall : (H : Type) → List (DataW H) → Bool := fun _ ds => decide (uptoBulkAll ds ≤ 1048576)
def OpenSpec.upto (s : _root_.Go.ChangeSpec) : _root_.Go.OpenSpec := { _root_.Go.OpenSpec.ofChange s with cond := some uptoSmall }

/-- 'amalgamlaw17.UnitsWays', WHERE WHAT IT READS IS OF BULK AT MOST 1048576: true; the input reads as it did. -/
def unitsWaysUptoRow : OpenClaim := { program := "ytldlldamnliejaa", sum := "eb7a0a7b9b314dd115e1ff7a6887fbd863f0088bcbc4e0f6adca62ea2541464e", func := "amalgam/amalgamlaw17.UnitsWays", spec := "unitsWays", recurses := true, apart := false, narrowed := true }
def UnitsWaysUptoSaid : Prop := unitsWaysUptoRow.holds Try.pinned (OpenSpec.upto unitsWaysSpec)

/-- 'amalgamlaw17.UnitsApart', WHERE WHAT IT READS IS OF BULK AT MOST 1048576: true; the input reads as it did. -/
def unitsApartUptoRow : OpenClaim := { program := "ytldlldamnliejaa", sum := "eb7a0a7b9b314dd115e1ff7a6887fbd863f0088bcbc4e0f6adca62ea2541464e", func := "amalgam/amalgamlaw17.UnitsApart", spec := "unitsApart", recurses := true, apart := false, narrowed := true }
def UnitsApartUptoSaid : Prop := unitsApartUptoRow.holds Try.pinned (OpenSpec.upto unitsApartSpec)

/-- 'amalgamlaw17.UnitsGoes', WHERE WHAT IT READS IS OF BULK AT MOST 1048576: true; the input reads as it did. -/
def unitsGoesUptoRow : OpenClaim := { program := "ytldlldamnliejaa", sum := "eb7a0a7b9b314dd115e1ff7a6887fbd863f0088bcbc4e0f6adca62ea2541464e", func := "amalgam/amalgamlaw17.UnitsGoes", spec := "unitsGoes", unfollowed := true, recurses := true, apart := false, narrowed := true }
def UnitsGoesUptoSaid : Prop := unitsGoesUptoRow.holds Try.pinned (OpenSpec.upto unitsGoesSpec)

/-- 'amalgamlaw17.UnitsOf', WHERE WHAT IT READS IS OF BULK AT MOST 1048576: true; the input reads as it did. -/
def unitsOfUptoRow : OpenClaim := { program := "ytldlldamnliejaa", sum := "eb7a0a7b9b314dd115e1ff7a6887fbd863f0088bcbc4e0f6adca62ea2541464e", func := "amalgam/amalgamlaw17.UnitsOf", spec := "unitsOf", unfollowed := true, recurses := true, loops := true, apart := false, narrowed := true }
def UnitsOfUptoSaid : Prop := unitsOfUptoRow.holds Try.pinned (OpenSpec.upto unitsOfSpec)

/-- 'amalgamlaw17.UnitsBinds', WHERE WHAT IT READS IS OF BULK AT MOST 1048576: true; the input reads as it did. -/
def unitsBindsUptoRow : OpenClaim := { program := "ytldlldamnliejaa", sum := "eb7a0a7b9b314dd115e1ff7a6887fbd863f0088bcbc4e0f6adca62ea2541464e", func := "amalgam/amalgamlaw17.UnitsBinds", spec := "unitsBinds", unfollowed := true, recurses := true, loops := true, apart := false, narrowed := true }
def UnitsBindsUptoSaid : Prop := unitsBindsUptoRow.holds Try.pinned (OpenSpec.upto unitsBindsSpec)

end Rows
end Go.Proofs.Ytldlldamnliejaa
