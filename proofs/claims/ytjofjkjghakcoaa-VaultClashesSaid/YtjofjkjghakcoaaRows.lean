/-
  No cell of these rows narrows 'for every input' (looked for: loops, veiled, ifaces, maps, wideKeys, modest, calm, conditions, laid).
  DERIVED. THE GIVEN ROWS OF THIS SEAT. 4 by the template 'for every input the law returns true; each argument reads behind the call as it read before'; 0 by the template 'total and deterministic' (their statements: YtjofjkjghakcoaaTotals.lean).
  GIVEN WITH THE SEED: the statements are not yours to turn. If you find one false, say at which input.
  Laid BY PROGRAM, IN A SANDBOX (cutbox-rows.mjs): the forced cells as the released guide's own fill.sh prints them over the translation 5c46889be0f98fed… (all of the seat's roots in one cut). By AI agents, Wed Nov 11 2026. No macro, syntax, notation, axiom, sorry.
-/
import Derived.Test.YtjofjkjghakcoaaChecked
import GoSem.Claim
import GoSem.ClaimJoined
import GoSem.ClaimMapViews
import Derived.JoinedTies
import Derived.KernelRfl
namespace Go.Proofs.Ytjofjkjghakcoaa
/- THE CELL 'sum', in the pinned program and in every row, IS THE sha256 OF THE DUMP (.gsa) THAT YtjofjkjghakcoaaProg.lean LOADS. Nothing in Lean hashes anything: it is a label: what it is worth is what the hold of that sum in a sandbox is worth. -/
noncomputable def Try.pinned : Pinned := { name := "ytjofjkjghakcoaa", sum := "5c46889be0f98fed797359fe8be5c055f942da86a3800ac6685709309b23d681", checked := Try.checked }
namespace Rows
def none {H : Type} : Left H := { results := [], args := [] }

/-- 'coffretlaw10.VaultKeeps': WHATEVER THE INPUT: true; the input reads as it did. -/
def vaultKeepsSpec : ChangeSpec := { name := "vaultKeeps", fn := fun _ => fun
  | [d1, d2, d3] => { results := [.lit (.bool true)], args := [d1, d2, d3] }
  | _ => none }
def vaultKeepsRow : OpenClaim := { program := "ytjofjkjghakcoaa", sum := "5c46889be0f98fed797359fe8be5c055f942da86a3800ac6685709309b23d681", func := "coffret/coffretlaw10.VaultKeeps", spec := "vaultKeeps", unfollowed := true, recurses := true, plainKeys := false, apart := false }
def VaultKeepsSaid : Prop := vaultKeepsRow.holds Try.pinned (OpenSpec.ofChange vaultKeepsSpec)

/-- ITS FALSE NEIGHBOUR: 'it returns false'. Refute it at one input. -/
def vaultKeepsWrong : ChangeSpec := { name := "vaultKeeps", fn := fun _ => fun
  | [d1, d2, d3] => { results := [.lit (.bool false)], args := [d1, d2, d3] }
  | _ => none }
def VaultKeepsWrongFalsely : Prop := vaultKeepsRow.holds Try.pinned (OpenSpec.ofChange vaultKeepsWrong)

/-- 'coffretlaw10.VaultClashes': WHATEVER THE INPUT: true; the input reads as it did. -/
def vaultClashesSpec : ChangeSpec := { name := "vaultClashes", fn := fun _ => fun
  | [d1, d2, d3] => { results := [.lit (.bool true)], args := [d1, d2, d3] }
  | _ => none }
def vaultClashesRow : OpenClaim := { program := "ytjofjkjghakcoaa", sum := "5c46889be0f98fed797359fe8be5c055f942da86a3800ac6685709309b23d681", func := "coffret/coffretlaw10.VaultClashes", spec := "vaultClashes", unfollowed := true, recurses := true, plainKeys := false, apart := false }
def VaultClashesSaid : Prop := vaultClashesRow.holds Try.pinned (OpenSpec.ofChange vaultClashesSpec)

/-- ITS FALSE NEIGHBOUR: 'it returns false'. Refute it at one input. -/
def vaultClashesWrong : ChangeSpec := { name := "vaultClashes", fn := fun _ => fun
  | [d1, d2, d3] => { results := [.lit (.bool false)], args := [d1, d2, d3] }
  | _ => none }
def VaultClashesWrongFalsely : Prop := vaultClashesRow.holds Try.pinned (OpenSpec.ofChange vaultClashesWrong)

/-- 'coffretlaw10.VaultReal': WHATEVER THE INPUT: true; the input reads as it did. -/
def vaultRealSpec : ChangeSpec := { name := "vaultReal", fn := fun _ => fun
  | [d1, d2, d3, d4, d5, d6, d7] => { results := [.lit (.bool true)], args := [d1, d2, d3, d4, d5, d6, d7] }
  | _ => none }
def vaultRealRow : OpenClaim := { program := "ytjofjkjghakcoaa", sum := "5c46889be0f98fed797359fe8be5c055f942da86a3800ac6685709309b23d681", func := "coffret/coffretlaw10.VaultReal", spec := "vaultReal", unfollowed := true, recurses := true, plainKeys := false, apart := false }
def VaultRealSaid : Prop := vaultRealRow.holds Try.pinned (OpenSpec.ofChange vaultRealSpec)

/-- ITS FALSE NEIGHBOUR: 'it returns false'. Refute it at one input. -/
def vaultRealWrong : ChangeSpec := { name := "vaultReal", fn := fun _ => fun
  | [d1, d2, d3, d4, d5, d6, d7] => { results := [.lit (.bool false)], args := [d1, d2, d3, d4, d5, d6, d7] }
  | _ => none }
def VaultRealWrongFalsely : Prop := vaultRealRow.holds Try.pinned (OpenSpec.ofChange vaultRealWrong)

/-- 'coffretlaw10.VaultLimits': WHATEVER THE INPUT: true; the input reads as it did. -/
def vaultLimitsSpec : ChangeSpec := { name := "vaultLimits", fn := fun _ => fun
  | [d1, d2, d3] => { results := [.lit (.bool true)], args := [d1, d2, d3] }
  | _ => none }
def vaultLimitsRow : OpenClaim := { program := "ytjofjkjghakcoaa", sum := "5c46889be0f98fed797359fe8be5c055f942da86a3800ac6685709309b23d681", func := "coffret/coffretlaw10.VaultLimits", spec := "vaultLimits", unfollowed := true, recurses := true, plainKeys := false, apart := false }
def VaultLimitsSaid : Prop := vaultLimitsRow.holds Try.pinned (OpenSpec.ofChange vaultLimitsSpec)

/-- ITS FALSE NEIGHBOUR: 'it returns false'. Refute it at one input. -/
def vaultLimitsWrong : ChangeSpec := { name := "vaultLimits", fn := fun _ => fun
  | [d1, d2, d3] => { results := [.lit (.bool false)], args := [d1, d2, d3] }
  | _ => none }
def VaultLimitsWrongFalsely : Prop := vaultLimitsRow.holds Try.pinned (OpenSpec.ofChange vaultLimitsWrong)

/- THE SECOND FORM. 'bulk': how many values and letters a reading holds, each counted each time it is reached (what is shared counts as often as it is met; a slice's spare places count too). A statement '..UptoSaid' is the law's where the arguments, and the package variables that the reading takes, are together of bulk at most 1048576: NARROWER than '..Said'. Prove '..Said' where nothing that the law and all that it calls make is longer than what came in: it says more and counts as full. Else prove '..UptoSaid'. A law counts once. -/
mutual
def uptoBulk {H : Type} : DataW H → Nat
  | .lit (.string bytes) => bytes.length + 1
  | .lit _ => 1
  | .nil => 1
  | .ptr d => uptoBulk d + 1
  | .slice elems spare => uptoBulkAll elems + uptoBulkAll spare + 1
  | .agg parts => uptoBulkAll parts + 1
  | .iface _ d => uptoBulk d + 1
  | .map entries => uptoBulkEntries entries + 1
  | .held _ => 1
def uptoBulkAll {H : Type} : List (DataW H) → Nat
  | [] => 0
  | d :: r => uptoBulk d + uptoBulkAll r
def uptoBulkEntries {H : Type} : List (Lit × DataW H) → Nat
  | [] => 0
  | x :: r => uptoBulkEntry x + uptoBulkEntries r
def uptoBulkEntry {H : Type} : Lit × DataW H → Nat
  | (.string bytes, d) => bytes.length + uptoBulk d + 1
  | (_, d) => uptoBulk d + 1
 end
def uptoSmall : (H : Type) → List (DataW H) → Bool := fun _ ds => decide (uptoBulkAll ds ≤ 1048576)
def OpenSpec.upto (s : _root_.Go.ChangeSpec) : _root_.Go.OpenSpec := { _root_.Go.OpenSpec.ofChange s with cond := some uptoSmall }

/-- 'coffretlaw10.VaultKeeps', WHERE WHAT IT READS IS OF BULK AT MOST 1048576: true; the input reads as it did. -/
def vaultKeepsUptoRow : OpenClaim := { program := "ytjofjkjghakcoaa", sum := "5c46889be0f98fed797359fe8be5c055f942da86a3800ac6685709309b23d681", func := "coffret/coffretlaw10.VaultKeeps", spec := "vaultKeeps", unfollowed := true, recurses := true, plainKeys := false, apart := false, narrowed := true }
def VaultKeepsUptoSaid : Prop := vaultKeepsUptoRow.holds Try.pinned (OpenSpec.upto vaultKeepsSpec)

/-- 'coffretlaw10.VaultClashes', WHERE WHAT IT READS IS OF BULK AT MOST 1048576: true; the input reads as it did. -/
def vaultClashesUptoRow : OpenClaim := { program := "ytjofjkjghakcoaa", sum := "5c46889be0f98fed797359fe8be5c055f942da86a3800ac6685709309b23d681", func := "coffret/coffretlaw10.VaultClashes", spec := "vaultClashes", unfollowed := true, recurses := true, plainKeys := false, apart := false, narrowed := true }
def VaultClashesUptoSaid : Prop := vaultClashesUptoRow.holds Try.pinned (OpenSpec.upto vaultClashesSpec)

/-- 'coffretlaw10.VaultReal', WHERE WHAT IT READS IS OF BULK AT MOST 1048576: true; the input reads as it did. -/
def vaultRealUptoRow : OpenClaim := { program := "ytjofjkjghakcoaa", sum := "5c46889be0f98fed797359fe8be5c055f942da86a3800ac6685709309b23d681", func := "coffret/coffretlaw10.VaultReal", spec := "vaultReal", unfollowed := true, recurses := true, plainKeys := false, apart := false, narrowed := true }
def VaultRealUptoSaid : Prop := vaultRealUptoRow.holds Try.pinned (OpenSpec.upto vaultRealSpec)

/-- 'coffretlaw10.VaultLimits', WHERE WHAT IT READS IS OF BULK AT MOST 1048576: true; the input reads as it did. -/
def vaultLimitsUptoRow : OpenClaim := { program := "ytjofjkjghakcoaa", sum := "5c46889be0f98fed797359fe8be5c055f942da86a3800ac6685709309b23d681", func := "coffret/coffretlaw10.VaultLimits", spec := "vaultLimits", unfollowed := true, recurses := true, plainKeys := false, apart := false, narrowed := true }
def VaultLimitsUptoSaid : Prop := vaultLimitsUptoRow.holds Try.pinned (OpenSpec.upto vaultLimitsSpec)

end Rows
end Go.Proofs.Ytjofjkjghakcoaa
