/-
  No cell of these rows narrows 'for every input' (looked for: loops, veiled, ifaces, maps, wideKeys, modest, calm, conditions, laid).
  DERIVED. THE GIVEN ROWS OF THIS SEAT. 6 by the template 'for every input the law returns true; each argument reads behind the call as it read before'; 0 by the template 'total and deterministic' (their statements: YtjibhchnhkjgkaaTotals.lean).
  GIVEN WITH THE SEED: the statements are not yours to turn. If you find one false, say at which input.
  Laid BY PROGRAM, IN A SANDBOX (cutbox-rows.mjs): the forced cells as the released guide's own fill.sh prints them over the translation 28b32db12378fa00… (all of the seat's roots in one cut). By AI agents, Wed Nov 11 2026. No macro, syntax, notation, axiom, sorry.
-/
import Derived.Test.YtjibhchnhkjgkaaChecked
import GoSem.Claim
import GoSem.ClaimJoined
import GoSem.ClaimMapViews
import Derived.JoinedTies
import Derived.KernelRfl
namespace Go.Proofs.Ytjibhchnhkjgkaa
/- THE CELL 'sum', in the pinned program and in every row, IS THE sha256 OF THE DUMP (.gsa) THAT YtjibhchnhkjgkaaProg.lean LOADS. Nothing in Lean hashes anything: it is a label: what it is worth is what the hold of that sum in a sandbox is worth. -/
noncomputable def Try.pinned : Pinned := { name := "ytjibhchnhkjgkaa", sum := "28b32db12378fa009106210d7e2d4684a696e38d4d677ae8132bd54efecca966", checked := Try.checked }
namespace Rows
def none {H : Type} : Left H := { results := [], args := [] }

/-- 'augurlaw10.BuchiNames': WHATEVER THE INPUT: true; the input reads as it did. -/
def buchiNamesSpec : ChangeSpec := { name := "buchiNames", fn := fun _ => fun
  | [] => { results := [.lit (.bool true)], args := [] }
  | _ => none }
def buchiNamesRow : OpenClaim := { program := "ytjibhchnhkjgkaa", sum := "28b32db12378fa009106210d7e2d4684a696e38d4d677ae8132bd54efecca966", func := "augur/augurlaw10.BuchiNames", spec := "buchiNames", unfollowed := true, recurses := true, plainKeys := false, apart := false }
def BuchiNamesSaid : Prop := buchiNamesRow.holds Try.pinned (OpenSpec.ofChange buchiNamesSpec)

/-- ITS FALSE NEIGHBOUR: 'it returns false'. Refute it at one input. -/
def buchiNamesWrong : ChangeSpec := { name := "buchiNames", fn := fun _ => fun
  | [] => { results := [.lit (.bool false)], args := [] }
  | _ => none }
def BuchiNamesWrongFalsely : Prop := buchiNamesRow.holds Try.pinned (OpenSpec.ofChange buchiNamesWrong)

/-- 'augurlaw10.BuchiChecks': WHATEVER THE INPUT: true; the input reads as it did. -/
def buchiChecksSpec : ChangeSpec := { name := "buchiChecks", fn := fun _ => fun
  | [d1, d2] => { results := [.lit (.bool true)], args := [d1, d2] }
  | _ => none }
def buchiChecksRow : OpenClaim := { program := "ytjibhchnhkjgkaa", sum := "28b32db12378fa009106210d7e2d4684a696e38d4d677ae8132bd54efecca966", func := "augur/augurlaw10.BuchiChecks", spec := "buchiChecks", unfollowed := true, recurses := true, plainKeys := false, apart := false }
def BuchiChecksSaid : Prop := buchiChecksRow.holds Try.pinned (OpenSpec.ofChange buchiChecksSpec)

/-- ITS FALSE NEIGHBOUR: 'it returns false'. Refute it at one input. -/
def buchiChecksWrong : ChangeSpec := { name := "buchiChecks", fn := fun _ => fun
  | [d1, d2] => { results := [.lit (.bool false)], args := [d1, d2] }
  | _ => none }
def BuchiChecksWrongFalsely : Prop := buchiChecksRow.holds Try.pinned (OpenSpec.ofChange buchiChecksWrong)

/-- 'augurlaw10.BuchiAccepts': WHATEVER THE INPUT: true; the input reads as it did. -/
def buchiAcceptsSpec : ChangeSpec := { name := "buchiAccepts", fn := fun _ => fun
  | [d1, d2] => { results := [.lit (.bool true)], args := [d1, d2] }
  | _ => none }
def buchiAcceptsRow : OpenClaim := { program := "ytjibhchnhkjgkaa", sum := "28b32db12378fa009106210d7e2d4684a696e38d4d677ae8132bd54efecca966", func := "augur/augurlaw10.BuchiAccepts", spec := "buchiAccepts", unfollowed := true, recurses := true, plainKeys := false, apart := false }
def BuchiAcceptsSaid : Prop := buchiAcceptsRow.holds Try.pinned (OpenSpec.ofChange buchiAcceptsSpec)

/-- ITS FALSE NEIGHBOUR: 'it returns false'. Refute it at one input. -/
def buchiAcceptsWrong : ChangeSpec := { name := "buchiAccepts", fn := fun _ => fun
  | [d1, d2] => { results := [.lit (.bool false)], args := [d1, d2] }
  | _ => none }
def BuchiAcceptsWrongFalsely : Prop := buchiAcceptsRow.holds Try.pinned (OpenSpec.ofChange buchiAcceptsWrong)

/-- 'augurlaw10.BuchiLetters': WHATEVER THE INPUT: true; the input reads as it did. -/
def buchiLettersSpec : ChangeSpec := { name := "buchiLetters", fn := fun _ => fun
  | [d1, d2, d3] => { results := [.lit (.bool true)], args := [d1, d2, d3] }
  | _ => none }
def buchiLettersRow : OpenClaim := { program := "ytjibhchnhkjgkaa", sum := "28b32db12378fa009106210d7e2d4684a696e38d4d677ae8132bd54efecca966", func := "augur/augurlaw10.BuchiLetters", spec := "buchiLetters", unfollowed := true, recurses := true, plainKeys := false, apart := false }
def BuchiLettersSaid : Prop := buchiLettersRow.holds Try.pinned (OpenSpec.ofChange buchiLettersSpec)

/-- ITS FALSE NEIGHBOUR: 'it returns false'. Refute it at one input. -/
def buchiLettersWrong : ChangeSpec := { name := "buchiLetters", fn := fun _ => fun
  | [d1, d2, d3] => { results := [.lit (.bool false)], args := [d1, d2, d3] }
  | _ => none }
def BuchiLettersWrongFalsely : Prop := buchiLettersRow.holds Try.pinned (OpenSpec.ofChange buchiLettersWrong)

/-- 'augurlaw10.BuchiSteps': WHATEVER THE INPUT: true; the input reads as it did. -/
def buchiStepsSpec : ChangeSpec := { name := "buchiSteps", fn := fun _ => fun
  | [d1, d2, d3] => { results := [.lit (.bool true)], args := [d1, d2, d3] }
  | _ => none }
def buchiStepsRow : OpenClaim := { program := "ytjibhchnhkjgkaa", sum := "28b32db12378fa009106210d7e2d4684a696e38d4d677ae8132bd54efecca966", func := "augur/augurlaw10.BuchiSteps", spec := "buchiSteps", unfollowed := true, recurses := true, plainKeys := false, apart := false }
def BuchiStepsSaid : Prop := buchiStepsRow.holds Try.pinned (OpenSpec.ofChange buchiStepsSpec)

/-- ITS FALSE NEIGHBOUR: 'it returns false'. Refute it at one input. -/
def buchiStepsWrong : ChangeSpec := { name := "buchiSteps", fn := fun _ => fun
  | [d1, d2, d3] => { results := [.lit (.bool false)], args := [d1, d2, d3] }
  | _ => none }
def BuchiStepsWrongFalsely : Prop := buchiStepsRow.holds Try.pinned (OpenSpec.ofChange buchiStepsWrong)

/-- 'augurlaw10.BuchiSame': WHATEVER THE INPUT: true; the input reads as it did. -/
def buchiSameSpec : ChangeSpec := { name := "buchiSame", fn := fun _ => fun
  | [d1, d2, d3] => { results := [.lit (.bool true)], args := [d1, d2, d3] }
  | _ => none }
def buchiSameRow : OpenClaim := { program := "ytjibhchnhkjgkaa", sum := "28b32db12378fa009106210d7e2d4684a696e38d4d677ae8132bd54efecca966", func := "augur/augurlaw10.BuchiSame", spec := "buchiSame", unfollowed := true, recurses := true, plainKeys := false, apart := false }
def BuchiSameSaid : Prop := buchiSameRow.holds Try.pinned (OpenSpec.ofChange buchiSameSpec)

/-- ITS FALSE NEIGHBOUR: 'it returns false'. Refute it at one input. -/
def buchiSameWrong : ChangeSpec := { name := "buchiSame", fn := fun _ => fun
  | [d1, d2, d3] => { results := [.lit (.bool false)], args := [d1, d2, d3] }
  | _ => none }
def BuchiSameWrongFalsely : Prop := buchiSameRow.holds Try.pinned (OpenSpec.ofChange buchiSameWrong)

/- THE SECOND FORM. 'bulk': how many values and letters a reading holds, each counted each time it is reached (what is shared counts as often as it is met; a slice's spare places count too). A statement '..UptoSaid' is the law's where the arguments, and the package variables that the reading takes, are together of bulk at most 1048576: NARROWER than '..Said'. Prove '..Said' where nothing that the law and all that it calls make is longer than what came in: it says more and counts as full. Else prove '..UptoSaid'. A law counts once. -/
mutual
def uptoBulk {H : Type} : DataW H → Nat
  | .lit (.string bytes) => bytes.length + 1
  | .lit _ => 1
  | .nil => 1
  | .ptr d => uptoBulk d + 1
  | .slice elems spare => uptoBulkAll elems + uptoBulkAll spare + 1
  | .agg parts => uptoBulkAll parts + 1
  | .iface _ d => uptoBulk d + 1
  | .map entries => uptoBulkEntries entries + 1
  | .held _ => 1
def uptoBulkAll {H : Type} : List (DataW H) → Nat
  | [] => 0
  | d :: r => uptoBulk d + uptoBulkAll r
def uptoBulkEntries {H : Type} : List (Lit × DataW H) → Nat
  | [] => 0
  | x :: r => uptoBulkEntry x + uptoBulkEntries r
def uptoBulkEntry {H : Type} : Lit × DataW H → Nat
  | (.string bytes, d) => bytes.length + uptoBulk d + 1
  | (_, d) => uptoBulk d + 1
 end
def uptoSmall : (H : Type) → List (DataW H) → Bool := fun _ ds => decide (uptoBulkAll ds ≤ 1048576)
def OpenSpec.upto (s : _root_.Go.ChangeSpec) : _root_.Go.OpenSpec := { _root_.Go.OpenSpec.ofChange s with cond := some uptoSmall }

/-- 'augurlaw10.BuchiNames', WHERE WHAT IT READS IS OF BULK AT MOST 1048576: true; the input reads as it did. -/
def buchiNamesUptoRow : OpenClaim := { program := "ytjibhchnhkjgkaa", sum := "28b32db12378fa009106210d7e2d4684a696e38d4d677ae8132bd54efecca966", func := "augur/augurlaw10.BuchiNames", spec := "buchiNames", unfollowed := true, recurses := true, plainKeys := false, apart := false, narrowed := true }
def BuchiNamesUptoSaid : Prop := buchiNamesUptoRow.holds Try.pinned (OpenSpec.upto buchiNamesSpec)

/-- 'augurlaw10.BuchiChecks', WHERE WHAT IT READS IS OF BULK AT MOST 1048576: true; the input reads as it did. -/
def buchiChecksUptoRow : OpenClaim := { program := "ytjibhchnhkjgkaa", sum := "28b32db12378fa009106210d7e2d4684a696e38d4d677ae8132bd54efecca966", func := "augur/augurlaw10.BuchiChecks", spec := "buchiChecks", unfollowed := true, recurses := true, plainKeys := false, apart := false, narrowed := true }
def BuchiChecksUptoSaid : Prop := buchiChecksUptoRow.holds Try.pinned (OpenSpec.upto buchiChecksSpec)

/-- 'augurlaw10.BuchiAccepts', WHERE WHAT IT READS IS OF BULK AT MOST 1048576: true; the input reads as it did. -/
def buchiAcceptsUptoRow : OpenClaim := { program := "ytjibhchnhkjgkaa", sum := "28b32db12378fa009106210d7e2d4684a696e38d4d677ae8132bd54efecca966", func := "augur/augurlaw10.BuchiAccepts", spec := "buchiAccepts", unfollowed := true, recurses := true, plainKeys := false, apart := false, narrowed := true }
def BuchiAcceptsUptoSaid : Prop := buchiAcceptsUptoRow.holds Try.pinned (OpenSpec.upto buchiAcceptsSpec)

/-- 'augurlaw10.BuchiLetters', WHERE WHAT IT READS IS OF BULK AT MOST 1048576: true; the input reads as it did. -/
def buchiLettersUptoRow : OpenClaim := { program := "ytjibhchnhkjgkaa", sum := "28b32db12378fa009106210d7e2d4684a696e38d4d677ae8132bd54efecca966", func := "augur/augurlaw10.BuchiLetters", spec := "buchiLetters", unfollowed := true, recurses := true, plainKeys := false, apart := false, narrowed := true }
def BuchiLettersUptoSaid : Prop := buchiLettersUptoRow.holds Try.pinned (OpenSpec.upto buchiLettersSpec)

/-- 'augurlaw10.BuchiSteps', WHERE WHAT IT READS IS OF BULK AT MOST 1048576: true; the input reads as it did. -/
def buchiStepsUptoRow : OpenClaim := { program := "ytjibhchnhkjgkaa", sum := "28b32db12378fa009106210d7e2d4684a696e38d4d677ae8132bd54efecca966", func := "augur/augurlaw10.BuchiSteps", spec := "buchiSteps", unfollowed := true, recurses := true, plainKeys := false, apart := false, narrowed := true }
def BuchiStepsUptoSaid : Prop := buchiStepsUptoRow.holds Try.pinned (OpenSpec.upto buchiStepsSpec)

/-- 'augurlaw10.BuchiSame', WHERE WHAT IT READS IS OF BULK AT MOST 1048576: true; the input reads as it did. -/
def buchiSameUptoRow : OpenClaim := { program := "ytjibhchnhkjgkaa", sum := "28b32db12378fa009106210d7e2d4684a696e38d4d677ae8132bd54efecca966", func := "augur/augurlaw10.BuchiSame", spec := "buchiSame", unfollowed := true, recurses := true, plainKeys := false, apart := false, narrowed := true }
def BuchiSameUptoSaid : Prop := buchiSameUptoRow.holds Try.pinned (OpenSpec.upto buchiSameSpec)

end Rows
end Go.Proofs.Ytjibhchnhkjgkaa
