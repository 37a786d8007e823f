/-
  NARROWER THAN 'FOR EVERY INPUT', by the rows' own cells (each row's printed sentence says how): DeriveRights: loops · DeriveTrims: loops · DeriveShort: loops · DeriveOwn: loops.
  DERIVED. THE GIVEN ROWS OF THIS SEAT. 4 by the template 'for every input the law returns true; each argument reads behind the call as it read before'; 0 by the template 'total and deterministic' (their statements: YtkdendaohlnlcaaGreatTotals.lean).
  GIVEN WITH THE SEED: the statements are not yours to turn. If you find one false, say at which input.
  Laid BY PROGRAM, IN A SANDBOX (cutbox-rows.mjs): the forced cells as the released guide's own fill.sh prints them over the translation 5caa9ebfc0ee568c… (all of the seat's roots in one cut). By AI agents, Wed Nov 11 2026. No macro, syntax, notation, axiom, sorry.
-/
import Derived.Test.YtkdendaohlnlcaaGreatChecked
import GoSem.Claim
import GoSem.ClaimJoined
import GoSem.ClaimMapViews
import Derived.JoinedTies
import Derived.KernelRfl
namespace Go.Proofs.YtkdendaohlnlcaaGreat
/- THE CELL 'sum', in the pinned program and in every row, IS THE sha256 OF THE DUMP (.gsa) THAT YtkdendaohlnlcaaGreatProg.lean LOADS. Nothing in Lean hashes anything: it is a label: what it is worth is what the hold of that sum in a sandbox is worth. -/
noncomputable def Tryz.pinned : Pinned := { name := "ytkdendaohlnlcaagreat", sum := "5caa9ebfc0ee568ca4cb8aa43506e03d3f6294bb3db48347582e467a72de7122", checked := Tryz.checked }
namespace Rows
def none {H : Type} : Left H := { results := [], args := [] }

/-- 'organonlaw22.DeriveRights': WHATEVER THE INPUT: true; the input reads as it did. -/
def deriveRightsSpec : ChangeSpec := { name := "deriveRights", fn := fun _ => fun
  | [d] => { results := [.lit (.bool true)], args := [d] }
  | _ => none }
def deriveRightsRow : OpenClaim := { program := "ytkdendaohlnlcaagreat", sum := "5caa9ebfc0ee568ca4cb8aa43506e03d3f6294bb3db48347582e467a72de7122", func := "organon/organonlaw22.DeriveRights", spec := "deriveRights", unfollowed := true, recurses := true, loops := true, apart := false }
def DeriveRightsSaid : Prop := deriveRightsRow.holds Tryz.pinned (OpenSpec.ofChange deriveRightsSpec)

/-- ITS FALSE NEIGHBOUR: 'it returns false'. Refute it at one input. -/
def deriveRightsWrong : ChangeSpec := { name := "deriveRights", fn := fun _ => fun
  | [d] => { results := [.lit (.bool false)], args := [d] }
  | _ => none }
def DeriveRightsWrongFalsely : Prop := deriveRightsRow.holds Tryz.pinned (OpenSpec.ofChange deriveRightsWrong)

/-- 'organonlaw22.DeriveTrims': WHATEVER THE INPUT: true; the input reads as it did. -/
def deriveTrimsSpec : ChangeSpec := { name := "deriveTrims", fn := fun _ => fun
  | [d] => { results := [.lit (.bool true)], args := [d] }
  | _ => none }
def deriveTrimsRow : OpenClaim := { program := "ytkdendaohlnlcaagreat", sum := "5caa9ebfc0ee568ca4cb8aa43506e03d3f6294bb3db48347582e467a72de7122", func := "organon/organonlaw22.DeriveTrims", spec := "deriveTrims", unfollowed := true, recurses := true, loops := true, apart := false }
def DeriveTrimsSaid : Prop := deriveTrimsRow.holds Tryz.pinned (OpenSpec.ofChange deriveTrimsSpec)

/-- ITS FALSE NEIGHBOUR: 'it returns false'. Refute it at one input. -/
def deriveTrimsWrong : ChangeSpec := { name := "deriveTrims", fn := fun _ => fun
  | [d] => { results := [.lit (.bool false)], args := [d] }
  | _ => none }
def DeriveTrimsWrongFalsely : Prop := deriveTrimsRow.holds Tryz.pinned (OpenSpec.ofChange deriveTrimsWrong)

/-- 'organonlaw22.DeriveShort': WHATEVER THE INPUT: true; the input reads as it did. -/
def deriveShortSpec : ChangeSpec := { name := "deriveShort", fn := fun _ => fun
  | [d] => { results := [.lit (.bool true)], args := [d] }
  | _ => none }
def deriveShortRow : OpenClaim := { program := "ytkdendaohlnlcaagreat", sum := "5caa9ebfc0ee568ca4cb8aa43506e03d3f6294bb3db48347582e467a72de7122", func := "organon/organonlaw22.DeriveShort", spec := "deriveShort", unfollowed := true, recurses := true, loops := true, apart := false }
def DeriveShortSaid : Prop := deriveShortRow.holds Tryz.pinned (OpenSpec.ofChange deriveShortSpec)

/-- ITS FALSE NEIGHBOUR: 'it returns false'. Refute it at one input. -/
def deriveShortWrong : ChangeSpec := { name := "deriveShort", fn := fun _ => fun
  | [d] => { results := [.lit (.bool false)], args := [d] }
  | _ => none }
def DeriveShortWrongFalsely : Prop := deriveShortRow.holds Tryz.pinned (OpenSpec.ofChange deriveShortWrong)

/-- 'organonlaw22.DeriveOwn': WHATEVER THE INPUT: true; the input reads as it did. -/
def deriveOwnSpec : ChangeSpec := { name := "deriveOwn", fn := fun _ => fun
  | [d] => { results := [.lit (.bool true)], args := [d] }
  | _ => none }
def deriveOwnRow : OpenClaim := { program := "ytkdendaohlnlcaagreat", sum := "5caa9ebfc0ee568ca4cb8aa43506e03d3f6294bb3db48347582e467a72de7122", func := "organon/organonlaw22.DeriveOwn", spec := "deriveOwn", unfollowed := true, recurses := true, loops := true, apart := false }
def DeriveOwnSaid : Prop := deriveOwnRow.holds Tryz.pinned (OpenSpec.ofChange deriveOwnSpec)

/-- ITS FALSE NEIGHBOUR: 'it returns false'. Refute it at one input. -/
def deriveOwnWrong : ChangeSpec := { name := "deriveOwn", fn := fun _ => fun
  | [d] => { results := [.lit (.bool false)], args := [d] }
  | _ => none }
def DeriveOwnWrongFalsely : Prop := deriveOwnRow.holds Tryz.pinned (OpenSpec.ofChange deriveOwnWrong)

/- THE SECOND FORM. 'bulk': how many values and letters a reading holds, each counted each time it is reached (what is shared counts as often as it is met; a slice's spare places count too). A statement '..UptoSaid' is the law's where the arguments, and the package variables that the reading takes, are together of bulk at most 1048576: NARROWER than '..Said'. Prove '..Said' where nothing that the law and all that it calls make is longer than what came in: it says more and counts as full. Else prove '..UptoSaid'. A law counts once. -/
mutual
def uptoBulk {H : Type} : DataW H → Nat
  | .lit (.string bytes) => bytes.length + 1
  | .lit _ => 1
  | .nil => 1
  | .ptr d => uptoBulk d + 1
  | .slice elems spare => uptoBulkAll elems + uptoBulkAll spare + 1
  | .agg parts => uptoBulkAll parts + 1
  | .iface _ d => uptoBulk d + 1
  | .map entries => uptoBulkEntries entries + 1
  | .held _ => 1
def uptoBulkAll {H : Type} : List (DataW H) → Nat
  | [] => 0
  | d :: r => uptoBulk d + uptoBulkAll r
def uptoBulkEntries {H : Type} : List (Lit × DataW H) → Nat
  | [] => 0
  | x :: r => uptoBulkEntry x + uptoBulkEntries r
def uptoBulkEntry {H : Type} : Lit × DataW H → Nat
  | (.string bytes, d) => bytes.length + uptoBulk d + 1
  | (_, d) => uptoBulk d + 1
 end
def uptoSmall : (H : Type) → List (DataW H) → Bool := fun _ ds => decide (uptoBulkAll ds ≤ 1048576)
def OpenSpec.upto (s : _root_.Go.ChangeSpec) : _root_.Go.OpenSpec := { _root_.Go.OpenSpec.ofChange s with cond := some uptoSmall }

/-- 'organonlaw22.DeriveRights', WHERE WHAT IT READS IS OF BULK AT MOST 1048576: true; the input reads as it did. -/
def deriveRightsUptoRow : OpenClaim := { program := "ytkdendaohlnlcaagreat", sum := "5caa9ebfc0ee568ca4cb8aa43506e03d3f6294bb3db48347582e467a72de7122", func := "organon/organonlaw22.DeriveRights", spec := "deriveRights", unfollowed := true, recurses := true, loops := true, apart := false, narrowed := true }
def DeriveRightsUptoSaid : Prop := deriveRightsUptoRow.holds Tryz.pinned (OpenSpec.upto deriveRightsSpec)

/-- 'organonlaw22.DeriveTrims', WHERE WHAT IT READS IS OF BULK AT MOST 1048576: true; the input reads as it did. -/
def deriveTrimsUptoRow : OpenClaim := { program := "ytkdendaohlnlcaagreat", sum := "5caa9ebfc0ee568ca4cb8aa43506e03d3f6294bb3db48347582e467a72de7122", func := "organon/organonlaw22.DeriveTrims", spec := "deriveTrims", unfollowed := true, recurses := true, loops := true, apart := false, narrowed := true }
def DeriveTrimsUptoSaid : Prop := deriveTrimsUptoRow.holds Tryz.pinned (OpenSpec.upto deriveTrimsSpec)

/-- 'organonlaw22.DeriveShort', WHERE WHAT IT READS IS OF BULK AT MOST 1048576: true; the input reads as it did. -/
def deriveShortUptoRow : OpenClaim := { program := "ytkdendaohlnlcaagreat", sum := "5caa9ebfc0ee568ca4cb8aa43506e03d3f6294bb3db48347582e467a72de7122", func := "organon/organonlaw22.DeriveShort", spec := "deriveShort", unfollowed := true, recurses := true, loops := true, apart := false, narrowed := true }
def DeriveShortUptoSaid : Prop := deriveShortUptoRow.holds Tryz.pinned (OpenSpec.upto deriveShortSpec)

/-- 'organonlaw22.DeriveOwn', WHERE WHAT IT READS IS OF BULK AT MOST 1048576: true; the input reads as it did. -/
def deriveOwnUptoRow : OpenClaim := { program := "ytkdendaohlnlcaagreat", sum := "5caa9ebfc0ee568ca4cb8aa43506e03d3f6294bb3db48347582e467a72de7122", func := "organon/organonlaw22.DeriveOwn", spec := "deriveOwn", unfollowed := true, recurses := true, loops := true, apart := false, narrowed := true }
def DeriveOwnUptoSaid : Prop := deriveOwnUptoRow.holds Tryz.pinned (OpenSpec.upto deriveOwnSpec)

end Rows
end Go.Proofs.YtkdendaohlnlcaaGreat
