/-
  NARROWER THAN 'FOR EVERY INPUT', by the rows' own cells (each row's printed sentence says how): UnitRights: loops.
  DERIVED. THE GIVEN ROWS OF THIS SEAT. 2 by the template 'for every input the law returns true; each argument reads behind the call as it read before'; 0 by the template 'total and deterministic' (their statements: YtkdendaohlnlcaaTotals.lean).
  GIVEN WITH THE SEED: the statements are not yours to turn. If you find one false, say at which input.
  Laid BY PROGRAM, IN A SANDBOX (cutbox-rows.mjs): the forced cells as the released guide's own fill.sh prints them over the translation e4c7c6ece0e1d90b… (all of the seat's roots in one cut). By AI agents, Wed Nov 11 2026. No macro, syntax, notation, axiom, sorry.
-/
import Derived.Test.YtkdendaohlnlcaaChecked
import GoSem.Claim
import GoSem.ClaimJoined
import GoSem.ClaimMapViews
import Derived.JoinedTies
import Derived.KernelRfl
namespace Go.Proofs.Ytkdendaohlnlcaa
/- THE CELL 'sum', in the pinned program and in every row, IS THE sha256 OF THE DUMP (.gsa) THAT YtkdendaohlnlcaaProg.lean LOADS. Nothing in Lean hashes anything: it is a label: what it is worth is what the hold of that sum in a sandbox is worth. -/
noncomputable def Try.pinned : Pinned := { name := "ytkdendaohlnlcaa", sum := "e4c7c6ece0e1d90b8b20984f94c176e2376ccb64b0ca8c5891814e8deb9c9eb0", checked := Try.checked }
namespace Rows
def none {H : Type} : Left H := { results := [], args := [] }

/-- 'organonlaw09.UnitNames': WHATEVER THE INPUT: true; the input reads as it did. -/
def unitNamesSpec : ChangeSpec := { name := "unitNames", fn := fun _ => fun
  | [d] => { results := [.lit (.bool true)], args := [d] }
  | _ => none }
def unitNamesRow : OpenClaim := { program := "ytkdendaohlnlcaa", sum := "e4c7c6ece0e1d90b8b20984f94c176e2376ccb64b0ca8c5891814e8deb9c9eb0", func := "organon/organonlaw09.UnitNames", spec := "unitNames", apart := false }
def UnitNamesSaid : Prop := unitNamesRow.holds Try.pinned (OpenSpec.ofChange unitNamesSpec)

/-- ITS FALSE NEIGHBOUR: 'it returns false'. Refute it at one input. -/
def unitNamesWrong : ChangeSpec := { name := "unitNames", fn := fun _ => fun
  | [d] => { results := [.lit (.bool false)], args := [d] }
  | _ => none }
def UnitNamesWrongFalsely : Prop := unitNamesRow.holds Try.pinned (OpenSpec.ofChange unitNamesWrong)

/-- 'organonlaw09.UnitRights': WHATEVER THE INPUT: true; the input reads as it did. -/
def unitRightsSpec : ChangeSpec := { name := "unitRights", fn := fun _ => fun
  | [d] => { results := [.lit (.bool true)], args := [d] }
  | _ => none }
def unitRightsRow : OpenClaim := { program := "ytkdendaohlnlcaa", sum := "e4c7c6ece0e1d90b8b20984f94c176e2376ccb64b0ca8c5891814e8deb9c9eb0", func := "organon/organonlaw09.UnitRights", spec := "unitRights", unfollowed := true, recurses := true, loops := true, apart := false }
def UnitRightsSaid : Prop := unitRightsRow.holds Try.pinned (OpenSpec.ofChange unitRightsSpec)

/-- ITS FALSE NEIGHBOUR: 'it returns false'. Refute it at one input. -/
def unitRightsWrong : ChangeSpec := { name := "unitRights", fn := fun _ => fun
  | [d] => { results := [.lit (.bool false)], args := [d] }
  | _ => none }
def UnitRightsWrongFalsely : Prop := unitRightsRow.holds Try.pinned (OpenSpec.ofChange unitRightsWrong)

/- THE SECOND FORM. 'bulk': how many values and letters a reading holds, each counted each time it is reached (what is shared counts as often as it is met; a slice's spare places count too). A statement '..UptoSaid' is the law's where the arguments, and the package variables that the reading takes, are together of bulk at most 1048576: NARROWER than '..Said'. Prove '..Said' where nothing that the law and all that it calls make is longer than what came in: it says more and counts as full. Else prove '..UptoSaid'. A law counts once. -/
mutual
def uptoBulk {H : Type} : DataW H → Nat
  | .lit (.string bytes) => bytes.length + 1
  | .lit _ => 1
  | .nil => 1
  | .ptr d => uptoBulk d + 1
  | .slice elems spare => uptoBulkAll elems + uptoBulkAll spare + 1
  | .agg parts => uptoBulkAll parts + 1
  | .iface _ d => uptoBulk d + 1
  | .map entries => uptoBulkEntries entries + 1
  | .held _ => 1
def uptoBulkAll {H : Type} : List (DataW H) → Nat
  | [] => 0
  | d :: r => uptoBulk d + uptoBulkAll r
def uptoBulkEntries {H : Type} : List (Lit × DataW H) → Nat
  | [] => 0
  | x :: r => uptoBulkEntry x + uptoBulkEntries r
def uptoBulkEntry {H : Type} : Lit × DataW H → Nat
  | (.string bytes, d) => bytes.length + uptoBulk d + 1
  | (_, d) => uptoBulk d + 1
 end
def uptoSmall : (H : Type) → List (DataW H) → Bool := fun _ ds => decide (uptoBulkAll ds ≤ 1048576)
def OpenSpec.upto (s : _root_.Go.ChangeSpec) : _root_.Go.OpenSpec := { _root_.Go.OpenSpec.ofChange s with cond := some uptoSmall }

/-- 'organonlaw09.UnitNames', WHERE WHAT IT READS IS OF BULK AT MOST 1048576: true; the input reads as it did. -/
def unitNamesUptoRow : OpenClaim := { program := "ytkdendaohlnlcaa", sum := "e4c7c6ece0e1d90b8b20984f94c176e2376ccb64b0ca8c5891814e8deb9c9eb0", func := "organon/organonlaw09.UnitNames", spec := "unitNames", apart := false, narrowed := true }
def UnitNamesUptoSaid : Prop := unitNamesUptoRow.holds Try.pinned (OpenSpec.upto unitNamesSpec)

/-- 'organonlaw09.UnitRights', WHERE WHAT IT READS IS OF BULK AT MOST 1048576: true; the input reads as it did. -/
def unitRightsUptoRow : OpenClaim := { program := "ytkdendaohlnlcaa", sum := "e4c7c6ece0e1d90b8b20984f94c176e2376ccb64b0ca8c5891814e8deb9c9eb0", func := "organon/organonlaw09.UnitRights", spec := "unitRights", unfollowed := true, recurses := true, loops := true, apart := false, narrowed := true }
def UnitRightsUptoSaid : Prop := unitRightsUptoRow.holds Try.pinned (OpenSpec.upto unitRightsSpec)

end Rows
end Go.Proofs.Ytkdendaohlnlcaa
