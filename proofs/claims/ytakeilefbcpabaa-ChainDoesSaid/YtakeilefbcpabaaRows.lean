/-
  No cell of these rows narrows 'for every input' (looked for: loops, veiled, ifaces, maps, wideKeys, modest, calm, conditions, laid).
  DERIVED. THE GIVEN ROWS OF THIS SEAT. 14 by the template 'for every input the law returns true; each argument reads behind the call as it read before'; 0 by the template 'total and deterministic' (their statements: YtakeilefbcpabaaTotals.lean).
  GIVEN WITH THE SEED: the statements are not yours to turn. If you find one false, say at which input.
  Laid BY PROGRAM, IN A SANDBOX (cutbox-rows.mjs): the forced cells as the released guide's own fill.sh prints them over the translation c9ec16d988e550b5… (all of the seat's roots in one cut). By AI agents, Wed Nov 11 2026. No macro, syntax, notation, axiom, sorry.
-/
import Derived.Test.YtakeilefbcpabaaChecked
import GoSem.Claim
import GoSem.ClaimJoined
import GoSem.ClaimMapViews
import Derived.JoinedTies
import Derived.KernelRfl
namespace Go.Proofs.Ytakeilefbcpabaa
/- THE CELL 'sum', in the pinned program and in every row, IS THE sha256 OF THE DUMP (.gsa) THAT YtakeilefbcpabaaProg.lean LOADS. Nothing in Lean hashes anything: it is a label: what it is worth is what the hold of that sum in a sandbox is worth. -/
noncomputable def Try.pinned : Pinned := { name := "ytakeilefbcpabaa", sum := "c9ec16d988e550b58120f118c24b1dd53d64a92844047534da1ca0115d93b831", checked := Try.checked }
namespace Rows
def none {H : Type} : Left H := { results := [], args := [] }

/-- 'coffretlaw12.MeterSpends': WHATEVER THE INPUT: true; the input reads as it did. -/
def meterSpendsSpec : ChangeSpec := { name := "meterSpends", fn := fun _ => fun
  | [d1, d2] => { results := [.lit (.bool true)], args := [d1, d2] }
  | _ => none }
def meterSpendsRow : OpenClaim := { program := "ytakeilefbcpabaa", sum := "c9ec16d988e550b58120f118c24b1dd53d64a92844047534da1ca0115d93b831", func := "coffret/coffretlaw12.MeterSpends", spec := "meterSpends", apart := false }
def MeterSpendsSaid : Prop := meterSpendsRow.holds Try.pinned (OpenSpec.ofChange meterSpendsSpec)

/-- ITS FALSE NEIGHBOUR: 'it returns false'. Refute it at one input. -/
def meterSpendsWrong : ChangeSpec := { name := "meterSpends", fn := fun _ => fun
  | [d1, d2] => { results := [.lit (.bool false)], args := [d1, d2] }
  | _ => none }
def MeterSpendsWrongFalsely : Prop := meterSpendsRow.holds Try.pinned (OpenSpec.ofChange meterSpendsWrong)

/-- 'coffretlaw12.MeterRises': WHATEVER THE INPUT: true; the input reads as it did. -/
def meterRisesSpec : ChangeSpec := { name := "meterRises", fn := fun _ => fun
  | [d1, d2] => { results := [.lit (.bool true)], args := [d1, d2] }
  | _ => none }
def meterRisesRow : OpenClaim := { program := "ytakeilefbcpabaa", sum := "c9ec16d988e550b58120f118c24b1dd53d64a92844047534da1ca0115d93b831", func := "coffret/coffretlaw12.MeterRises", spec := "meterRises", apart := false }
def MeterRisesSaid : Prop := meterRisesRow.holds Try.pinned (OpenSpec.ofChange meterRisesSpec)

/-- ITS FALSE NEIGHBOUR: 'it returns false'. Refute it at one input. -/
def meterRisesWrong : ChangeSpec := { name := "meterRises", fn := fun _ => fun
  | [d1, d2] => { results := [.lit (.bool false)], args := [d1, d2] }
  | _ => none }
def MeterRisesWrongFalsely : Prop := meterRisesRow.holds Try.pinned (OpenSpec.ofChange meterRisesWrong)

/-- 'coffretlaw11.DiskSizes': WHATEVER THE INPUT: true; the input reads as it did. -/
def diskSizesSpec : ChangeSpec := { name := "diskSizes", fn := fun _ => fun
  | [d1, d2] => { results := [.lit (.bool true)], args := [d1, d2] }
  | _ => none }
def diskSizesRow : OpenClaim := { program := "ytakeilefbcpabaa", sum := "c9ec16d988e550b58120f118c24b1dd53d64a92844047534da1ca0115d93b831", func := "coffret/coffretlaw11.DiskSizes", spec := "diskSizes", apart := false }
def DiskSizesSaid : Prop := diskSizesRow.holds Try.pinned (OpenSpec.ofChange diskSizesSpec)

/-- ITS FALSE NEIGHBOUR: 'it returns false'. Refute it at one input. -/
def diskSizesWrong : ChangeSpec := { name := "diskSizes", fn := fun _ => fun
  | [d1, d2] => { results := [.lit (.bool false)], args := [d1, d2] }
  | _ => none }
def DiskSizesWrongFalsely : Prop := diskSizesRow.holds Try.pinned (OpenSpec.ofChange diskSizesWrong)

/-- 'coffretlaw11.DiskLoses': WHATEVER THE INPUT: true; the input reads as it did. -/
def diskLosesSpec : ChangeSpec := { name := "diskLoses", fn := fun _ => fun
  | [d1, d2, d3, d4, d5] => { results := [.lit (.bool true)], args := [d1, d2, d3, d4, d5] }
  | _ => none }
def diskLosesRow : OpenClaim := { program := "ytakeilefbcpabaa", sum := "c9ec16d988e550b58120f118c24b1dd53d64a92844047534da1ca0115d93b831", func := "coffret/coffretlaw11.DiskLoses", spec := "diskLoses", apart := false }
def DiskLosesSaid : Prop := diskLosesRow.holds Try.pinned (OpenSpec.ofChange diskLosesSpec)

/-- ITS FALSE NEIGHBOUR: 'it returns false'. Refute it at one input. -/
def diskLosesWrong : ChangeSpec := { name := "diskLoses", fn := fun _ => fun
  | [d1, d2, d3, d4, d5] => { results := [.lit (.bool false)], args := [d1, d2, d3, d4, d5] }
  | _ => none }
def DiskLosesWrongFalsely : Prop := diskLosesRow.holds Try.pinned (OpenSpec.ofChange diskLosesWrong)

/-- 'coffretlaw12.MeterShares': WHATEVER THE INPUT: true; the input reads as it did. -/
def meterSharesSpec : ChangeSpec := { name := "meterShares", fn := fun _ => fun
  | [d1, d2] => { results := [.lit (.bool true)], args := [d1, d2] }
  | _ => none }
def meterSharesRow : OpenClaim := { program := "ytakeilefbcpabaa", sum := "c9ec16d988e550b58120f118c24b1dd53d64a92844047534da1ca0115d93b831", func := "coffret/coffretlaw12.MeterShares", spec := "meterShares", apart := false }
def MeterSharesSaid : Prop := meterSharesRow.holds Try.pinned (OpenSpec.ofChange meterSharesSpec)

/-- ITS FALSE NEIGHBOUR: 'it returns false'. Refute it at one input. -/
def meterSharesWrong : ChangeSpec := { name := "meterShares", fn := fun _ => fun
  | [d1, d2] => { results := [.lit (.bool false)], args := [d1, d2] }
  | _ => none }
def MeterSharesWrongFalsely : Prop := meterSharesRow.holds Try.pinned (OpenSpec.ofChange meterSharesWrong)

/-- 'coffretlaw12.MeterDoes': WHATEVER THE INPUT: true; the input reads as it did. -/
def meterDoesSpec : ChangeSpec := { name := "meterDoes", fn := fun _ => fun
  | [d1, d2] => { results := [.lit (.bool true)], args := [d1, d2] }
  | _ => none }
def meterDoesRow : OpenClaim := { program := "ytakeilefbcpabaa", sum := "c9ec16d988e550b58120f118c24b1dd53d64a92844047534da1ca0115d93b831", func := "coffret/coffretlaw12.MeterDoes", spec := "meterDoes", apart := false }
def MeterDoesSaid : Prop := meterDoesRow.holds Try.pinned (OpenSpec.ofChange meterDoesSpec)

/-- ITS FALSE NEIGHBOUR: 'it returns false'. Refute it at one input. -/
def meterDoesWrong : ChangeSpec := { name := "meterDoes", fn := fun _ => fun
  | [d1, d2] => { results := [.lit (.bool false)], args := [d1, d2] }
  | _ => none }
def MeterDoesWrongFalsely : Prop := meterDoesRow.holds Try.pinned (OpenSpec.ofChange meterDoesWrong)

/-- 'coffretlaw11.DiskKeeps': WHATEVER THE INPUT: true; the input reads as it did. -/
def diskKeepsSpec : ChangeSpec := { name := "diskKeeps", fn := fun _ => fun
  | [d] => { results := [.lit (.bool true)], args := [d] }
  | _ => none }
def diskKeepsRow : OpenClaim := { program := "ytakeilefbcpabaa", sum := "c9ec16d988e550b58120f118c24b1dd53d64a92844047534da1ca0115d93b831", func := "coffret/coffretlaw11.DiskKeeps", spec := "diskKeeps", unfollowed := true, recurses := true, apart := false }
def DiskKeepsSaid : Prop := diskKeepsRow.holds Try.pinned (OpenSpec.ofChange diskKeepsSpec)

/-- ITS FALSE NEIGHBOUR: 'it returns false'. Refute it at one input. -/
def diskKeepsWrong : ChangeSpec := { name := "diskKeeps", fn := fun _ => fun
  | [d] => { results := [.lit (.bool false)], args := [d] }
  | _ => none }
def DiskKeepsWrongFalsely : Prop := diskKeepsRow.holds Try.pinned (OpenSpec.ofChange diskKeepsWrong)

/-- 'coffretlaw11.DiskForges': WHATEVER THE INPUT: true; the input reads as it did. -/
def diskForgesSpec : ChangeSpec := { name := "diskForges", fn := fun _ => fun
  | [d1, d2, d3, d4, d5] => { results := [.lit (.bool true)], args := [d1, d2, d3, d4, d5] }
  | _ => none }
def diskForgesRow : OpenClaim := { program := "ytakeilefbcpabaa", sum := "c9ec16d988e550b58120f118c24b1dd53d64a92844047534da1ca0115d93b831", func := "coffret/coffretlaw11.DiskForges", spec := "diskForges", unfollowed := true, recurses := true, apart := false }
def DiskForgesSaid : Prop := diskForgesRow.holds Try.pinned (OpenSpec.ofChange diskForgesSpec)

/-- ITS FALSE NEIGHBOUR: 'it returns false'. Refute it at one input. -/
def diskForgesWrong : ChangeSpec := { name := "diskForges", fn := fun _ => fun
  | [d1, d2, d3, d4, d5] => { results := [.lit (.bool false)], args := [d1, d2, d3, d4, d5] }
  | _ => none }
def DiskForgesWrongFalsely : Prop := diskForgesRow.holds Try.pinned (OpenSpec.ofChange diskForgesWrong)

/-- 'coffretlaw11.DiskTwins': WHATEVER THE INPUT: true; the input reads as it did. -/
def diskTwinsSpec : ChangeSpec := { name := "diskTwins", fn := fun _ => fun
  | [d1, d2] => { results := [.lit (.bool true)], args := [d1, d2] }
  | _ => none }
def diskTwinsRow : OpenClaim := { program := "ytakeilefbcpabaa", sum := "c9ec16d988e550b58120f118c24b1dd53d64a92844047534da1ca0115d93b831", func := "coffret/coffretlaw11.DiskTwins", spec := "diskTwins", unfollowed := true, recurses := true, apart := false }
def DiskTwinsSaid : Prop := diskTwinsRow.holds Try.pinned (OpenSpec.ofChange diskTwinsSpec)

/-- ITS FALSE NEIGHBOUR: 'it returns false'. Refute it at one input. -/
def diskTwinsWrong : ChangeSpec := { name := "diskTwins", fn := fun _ => fun
  | [d1, d2] => { results := [.lit (.bool false)], args := [d1, d2] }
  | _ => none }
def DiskTwinsWrongFalsely : Prop := diskTwinsRow.holds Try.pinned (OpenSpec.ofChange diskTwinsWrong)

/-- 'coffretlaw16.ChainRoom': WHATEVER THE INPUT: true; the input reads as it did. -/
def chainRoomSpec : ChangeSpec := { name := "chainRoom", fn := fun _ => fun
  | [d1, d2, d3] => { results := [.lit (.bool true)], args := [d1, d2, d3] }
  | _ => none }
def chainRoomRow : OpenClaim := { program := "ytakeilefbcpabaa", sum := "c9ec16d988e550b58120f118c24b1dd53d64a92844047534da1ca0115d93b831", func := "coffret/coffretlaw16.ChainRoom", spec := "chainRoom", unfollowed := true, recurses := true, apart := false }
def ChainRoomSaid : Prop := chainRoomRow.holds Try.pinned (OpenSpec.ofChange chainRoomSpec)

/-- ITS FALSE NEIGHBOUR: 'it returns false'. Refute it at one input. -/
def chainRoomWrong : ChangeSpec := { name := "chainRoom", fn := fun _ => fun
  | [d1, d2, d3] => { results := [.lit (.bool false)], args := [d1, d2, d3] }
  | _ => none }
def ChainRoomWrongFalsely : Prop := chainRoomRow.holds Try.pinned (OpenSpec.ofChange chainRoomWrong)

/-- 'coffretlaw16.ChainApart': WHATEVER THE INPUT: true; the input reads as it did. -/
def chainApartSpec : ChangeSpec := { name := "chainApart", fn := fun _ => fun
  | [d1, d2, d3] => { results := [.lit (.bool true)], args := [d1, d2, d3] }
  | _ => none }
def chainApartRow : OpenClaim := { program := "ytakeilefbcpabaa", sum := "c9ec16d988e550b58120f118c24b1dd53d64a92844047534da1ca0115d93b831", func := "coffret/coffretlaw16.ChainApart", spec := "chainApart", unfollowed := true, recurses := true, apart := false }
def ChainApartSaid : Prop := chainApartRow.holds Try.pinned (OpenSpec.ofChange chainApartSpec)

/-- ITS FALSE NEIGHBOUR: 'it returns false'. Refute it at one input. -/
def chainApartWrong : ChangeSpec := { name := "chainApart", fn := fun _ => fun
  | [d1, d2, d3] => { results := [.lit (.bool false)], args := [d1, d2, d3] }
  | _ => none }
def ChainApartWrongFalsely : Prop := chainApartRow.holds Try.pinned (OpenSpec.ofChange chainApartWrong)

/-- 'coffretlaw16.ChainStops': WHATEVER THE INPUT: true; the input reads as it did. -/
def chainStopsSpec : ChangeSpec := { name := "chainStops", fn := fun _ => fun
  | [d1, d2] => { results := [.lit (.bool true)], args := [d1, d2] }
  | _ => none }
def chainStopsRow : OpenClaim := { program := "ytakeilefbcpabaa", sum := "c9ec16d988e550b58120f118c24b1dd53d64a92844047534da1ca0115d93b831", func := "coffret/coffretlaw16.ChainStops", spec := "chainStops", unfollowed := true, recurses := true, apart := false }
def ChainStopsSaid : Prop := chainStopsRow.holds Try.pinned (OpenSpec.ofChange chainStopsSpec)

/-- ITS FALSE NEIGHBOUR: 'it returns false'. Refute it at one input. -/
def chainStopsWrong : ChangeSpec := { name := "chainStops", fn := fun _ => fun
  | [d1, d2] => { results := [.lit (.bool false)], args := [d1, d2] }
  | _ => none }
def ChainStopsWrongFalsely : Prop := chainStopsRow.holds Try.pinned (OpenSpec.ofChange chainStopsWrong)

/-- 'coffretlaw16.ChainBack': WHATEVER THE INPUT: true; the input reads as it did. -/
def chainBackSpec : ChangeSpec := { name := "chainBack", fn := fun _ => fun
  | [d1, d2, d3, d4, d5] => { results := [.lit (.bool true)], args := [d1, d2, d3, d4, d5] }
  | _ => none }
def chainBackRow : OpenClaim := { program := "ytakeilefbcpabaa", sum := "c9ec16d988e550b58120f118c24b1dd53d64a92844047534da1ca0115d93b831", func := "coffret/coffretlaw16.ChainBack", spec := "chainBack", unfollowed := true, recurses := true, apart := false }
def ChainBackSaid : Prop := chainBackRow.holds Try.pinned (OpenSpec.ofChange chainBackSpec)

/-- ITS FALSE NEIGHBOUR: 'it returns false'. Refute it at one input. -/
def chainBackWrong : ChangeSpec := { name := "chainBack", fn := fun _ => fun
  | [d1, d2, d3, d4, d5] => { results := [.lit (.bool false)], args := [d1, d2, d3, d4, d5] }
  | _ => none }
def ChainBackWrongFalsely : Prop := chainBackRow.holds Try.pinned (OpenSpec.ofChange chainBackWrong)

/-- 'coffretlaw16.ChainDoes': WHATEVER THE INPUT: true; the input reads as it did. -/
def chainDoesSpec : ChangeSpec := { name := "chainDoes", fn := fun _ => fun
  | [d1, d2, d3] => { results := [.lit (.bool true)], args := [d1, d2, d3] }
  | _ => none }
def chainDoesRow : OpenClaim := { program := "ytakeilefbcpabaa", sum := "c9ec16d988e550b58120f118c24b1dd53d64a92844047534da1ca0115d93b831", func := "coffret/coffretlaw16.ChainDoes", spec := "chainDoes", unfollowed := true, recurses := true, apart := false }
def ChainDoesSaid : Prop := chainDoesRow.holds Try.pinned (OpenSpec.ofChange chainDoesSpec)

/-- ITS FALSE NEIGHBOUR: 'it returns false'. Refute it at one input. -/
def chainDoesWrong : ChangeSpec := { name := "chainDoes", fn := fun _ => fun
  | [d1, d2, d3] => { results := [.lit (.bool false)], args := [d1, d2, d3] }
  | _ => none }
def ChainDoesWrongFalsely : Prop := chainDoesRow.holds Try.pinned (OpenSpec.ofChange chainDoesWrong)

/- THE SECOND FORM. 'bulk': how many values and letters a reading holds, each counted each time it is reached (what is shared counts as often as it is met; a slice's spare places count too). A statement '..UptoSaid' is the law's where the arguments, and the package variables that the reading takes, are together of bulk at most 1048576: NARROWER than '..Said'. Prove '..Said' where nothing that the law and all that it calls make is longer than what came in: it says more and counts as full. Else prove '..UptoSaid'. A law counts once. -/
mutual
def uptoBulk {H : Type} : DataW H → Nat
  | .lit (.string bytes) => bytes.length + 1
  | .lit _ => 1
  | .nil => 1
  | .ptr d => uptoBulk d + 1
  | .slice elems spare => uptoBulkAll elems + uptoBulkAll spare + 1
  | .agg parts => uptoBulkAll parts + 1
  | .iface _ d => uptoBulk d + 1
  | .map entries => uptoBulkEntries entries + 1
  | .held _ => 1
def uptoBulkAll {H : Type} : List (DataW H) → Nat
  | [] => 0
  | d :: r => uptoBulk d + uptoBulkAll r
def uptoBulkEntries {H : Type} : List (Lit × DataW H) → Nat
  | [] => 0
  | x :: r => uptoBulkEntry x + uptoBulkEntries r
def uptoBulkEntry {H : Type} : Lit × DataW H → Nat
  | (.string bytes, d) => bytes.length + uptoBulk d + 1
  | (_, d) => uptoBulk d + 1
 end
def uptoSmall : (H : Type) → List (DataW H) → Bool := fun _ ds => decide (uptoBulkAll ds ≤ 1048576)
def OpenSpec.upto (s : _root_.Go.ChangeSpec) : _root_.Go.OpenSpec := { _root_.Go.OpenSpec.ofChange s with cond := some uptoSmall }

/-- 'coffretlaw12.MeterSpends', WHERE WHAT IT READS IS OF BULK AT MOST 1048576: true; the input reads as it did. -/
def meterSpendsUptoRow : OpenClaim := { program := "ytakeilefbcpabaa", sum := "c9ec16d988e550b58120f118c24b1dd53d64a92844047534da1ca0115d93b831", func := "coffret/coffretlaw12.MeterSpends", spec := "meterSpends", apart := false, narrowed := true }
def MeterSpendsUptoSaid : Prop := meterSpendsUptoRow.holds Try.pinned (OpenSpec.upto meterSpendsSpec)

/-- 'coffretlaw12.MeterRises', WHERE WHAT IT READS IS OF BULK AT MOST 1048576: true; the input reads as it did. -/
def meterRisesUptoRow : OpenClaim := { program := "ytakeilefbcpabaa", sum := "c9ec16d988e550b58120f118c24b1dd53d64a92844047534da1ca0115d93b831", func := "coffret/coffretlaw12.MeterRises", spec := "meterRises", apart := false, narrowed := true }
def MeterRisesUptoSaid : Prop := meterRisesUptoRow.holds Try.pinned (OpenSpec.upto meterRisesSpec)

/-- 'coffretlaw11.DiskSizes', WHERE WHAT IT READS IS OF BULK AT MOST 1048576: true; the input reads as it did. -/
def diskSizesUptoRow : OpenClaim := { program := "ytakeilefbcpabaa", sum := "c9ec16d988e550b58120f118c24b1dd53d64a92844047534da1ca0115d93b831", func := "coffret/coffretlaw11.DiskSizes", spec := "diskSizes", apart := false, narrowed := true }
def DiskSizesUptoSaid : Prop := diskSizesUptoRow.holds Try.pinned (OpenSpec.upto diskSizesSpec)

/-- 'coffretlaw11.DiskLoses', WHERE WHAT IT READS IS OF BULK AT MOST 1048576: true; the input reads as it did. -/
def diskLosesUptoRow : OpenClaim := { program := "ytakeilefbcpabaa", sum := "c9ec16d988e550b58120f118c24b1dd53d64a92844047534da1ca0115d93b831", func := "coffret/coffretlaw11.DiskLoses", spec := "diskLoses", apart := false, narrowed := true }
def DiskLosesUptoSaid : Prop := diskLosesUptoRow.holds Try.pinned (OpenSpec.upto diskLosesSpec)

/-- 'coffretlaw12.MeterShares', WHERE WHAT IT READS IS OF BULK AT MOST 1048576: true; the input reads as it did. -/
def meterSharesUptoRow : OpenClaim := { program := "ytakeilefbcpabaa", sum := "c9ec16d988e550b58120f118c24b1dd53d64a92844047534da1ca0115d93b831", func := "coffret/coffretlaw12.MeterShares", spec := "meterShares", apart := false, narrowed := true }
def MeterSharesUptoSaid : Prop := meterSharesUptoRow.holds Try.pinned (OpenSpec.upto meterSharesSpec)

/-- 'coffretlaw12.MeterDoes', WHERE WHAT IT READS IS OF BULK AT MOST 1048576: true; the input reads as it did. -/
def meterDoesUptoRow : OpenClaim := { program := "ytakeilefbcpabaa", sum := "c9ec16d988e550b58120f118c24b1dd53d64a92844047534da1ca0115d93b831", func := "coffret/coffretlaw12.MeterDoes", spec := "meterDoes", apart := false, narrowed := true }
def MeterDoesUptoSaid : Prop := meterDoesUptoRow.holds Try.pinned (OpenSpec.upto meterDoesSpec)

/-- 'coffretlaw11.DiskKeeps', WHERE WHAT IT READS IS OF BULK AT MOST 1048576: true; the input reads as it did. -/
def diskKeepsUptoRow : OpenClaim := { program := "ytakeilefbcpabaa", sum := "c9ec16d988e550b58120f118c24b1dd53d64a92844047534da1ca0115d93b831", func := "coffret/coffretlaw11.DiskKeeps", spec := "diskKeeps", unfollowed := true, recurses := true, apart := false, narrowed := true }
def DiskKeepsUptoSaid : Prop := diskKeepsUptoRow.holds Try.pinned (OpenSpec.upto diskKeepsSpec)

/-- 'coffretlaw11.DiskForges', WHERE WHAT IT READS IS OF BULK AT MOST 1048576: true; the input reads as it did. -/
def diskForgesUptoRow : OpenClaim := { program := "ytakeilefbcpabaa", sum := "c9ec16d988e550b58120f118c24b1dd53d64a92844047534da1ca0115d93b831", func := "coffret/coffretlaw11.DiskForges", spec := "diskForges", unfollowed := true, recurses := true, apart := false, narrowed := true }
def DiskForgesUptoSaid : Prop := diskForgesUptoRow.holds Try.pinned (OpenSpec.upto diskForgesSpec)

/-- 'coffretlaw11.DiskTwins', WHERE WHAT IT READS IS OF BULK AT MOST 1048576: true; the input reads as it did. -/
def diskTwinsUptoRow : OpenClaim := { program := "ytakeilefbcpabaa", sum := "c9ec16d988e550b58120f118c24b1dd53d64a92844047534da1ca0115d93b831", func := "coffret/coffretlaw11.DiskTwins", spec := "diskTwins", unfollowed := true, recurses := true, apart := false, narrowed := true }
def DiskTwinsUptoSaid : Prop := diskTwinsUptoRow.holds Try.pinned (OpenSpec.upto diskTwinsSpec)

/-- 'coffretlaw16.ChainRoom', WHERE WHAT IT READS IS OF BULK AT MOST 1048576: true; the input reads as it did. -/
def chainRoomUptoRow : OpenClaim := { program := "ytakeilefbcpabaa", sum := "c9ec16d988e550b58120f118c24b1dd53d64a92844047534da1ca0115d93b831", func := "coffret/coffretlaw16.ChainRoom", spec := "chainRoom", unfollowed := true, recurses := true, apart := false, narrowed := true }
def ChainRoomUptoSaid : Prop := chainRoomUptoRow.holds Try.pinned (OpenSpec.upto chainRoomSpec)

/-- 'coffretlaw16.ChainApart', WHERE WHAT IT READS IS OF BULK AT MOST 1048576: true; the input reads as it did. -/
def chainApartUptoRow : OpenClaim := { program := "ytakeilefbcpabaa", sum := "c9ec16d988e550b58120f118c24b1dd53d64a92844047534da1ca0115d93b831", func := "coffret/coffretlaw16.ChainApart", spec := "chainApart", unfollowed := true, recurses := true, apart := false, narrowed := true }
def ChainApartUptoSaid : Prop := chainApartUptoRow.holds Try.pinned (OpenSpec.upto chainApartSpec)

/-- 'coffretlaw16.ChainStops', WHERE WHAT IT READS IS OF BULK AT MOST 1048576: true; the input reads as it did. -/
def chainStopsUptoRow : OpenClaim := { program := "ytakeilefbcpabaa", sum := "c9ec16d988e550b58120f118c24b1dd53d64a92844047534da1ca0115d93b831", func := "coffret/coffretlaw16.ChainStops", spec := "chainStops", unfollowed := true, recurses := true, apart := false, narrowed := true }
def ChainStopsUptoSaid : Prop := chainStopsUptoRow.holds Try.pinned (OpenSpec.upto chainStopsSpec)

/-- 'coffretlaw16.ChainBack', WHERE WHAT IT READS IS OF BULK AT MOST 1048576: true; the input reads as it did. -/
def chainBackUptoRow : OpenClaim := { program := "ytakeilefbcpabaa", sum := "c9ec16d988e550b58120f118c24b1dd53d64a92844047534da1ca0115d93b831", func := "coffret/coffretlaw16.ChainBack", spec := "chainBack", unfollowed := true, recurses := true, apart := false, narrowed := true }
def ChainBackUptoSaid : Prop := chainBackUptoRow.holds Try.pinned (OpenSpec.upto chainBackSpec)

/-- 'coffretlaw16.ChainDoes', WHERE WHAT IT READS IS OF BULK AT MOST 1048576: true; the input reads as it did. -/
def chainDoesUptoRow : OpenClaim := { program := "ytakeilefbcpabaa", sum := "c9ec16d988e550b58120f118c24b1dd53d64a92844047534da1ca0115d93b831", func := "coffret/coffretlaw16.ChainDoes", spec := "chainDoes", unfollowed := true, recurses := true, apart := false, narrowed := true }
def ChainDoesUptoSaid : Prop := chainDoesUptoRow.holds Try.pinned (OpenSpec.upto chainDoesSpec)

end Rows
end Go.Proofs.Ytakeilefbcpabaa
