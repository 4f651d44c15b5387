/-
  No cell of these rows narrows 'for every input' (looked for: loops, veiled, ifaces, maps, wideKeys, modest, calm, conditions, laid).
  DERIVED. THE GIVEN ROWS OF THIS SEAT. 18 by the template 'for every input the law returns true; each argument reads behind the call as it read before'; 0 by the template 'total and deterministic' (their statements: YtlldpmkdjpmlpaaTotals.lean).
  GIVEN WITH THE SEED: the statements are not yours to turn. If you find one false, say at which input.
  Laid BY PROGRAM, IN A SANDBOX (cutbox-rows.mjs): the forced cells as the released guide's own fill.sh prints them over the translation 0946d5b025c899cb… (all of the seat's roots in one cut). By AI agents, Wed Nov 11 2026. No macro, syntax, notation, axiom, sorry.
-/
import Derived.Test.YtlldpmkdjpmlpaaChecked
import GoSem.Claim
import GoSem.ClaimJoined
import GoSem.ClaimMapViews
import Derived.JoinedTies
import Derived.KernelRfl
namespace Go.Proofs.Ytlldpmkdjpmlpaa
/- THE CELL 'sum', in the pinned program and in every row, IS THE sha256 OF THE DUMP (.gsa) THAT YtlldpmkdjpmlpaaProg.lean LOADS. Nothing in Lean hashes anything: it is a label: what it is worth is what the hold of that sum in a sandbox is worth. -/
noncomputable def Try.pinned : Pinned := { name := "ytlldpmkdjpmlpaa", sum := "0946d5b025c899cba050818ce3f6a5952778c68fca65c7484989ab0b9858d5a5", checked := Try.checked }
namespace Rows
def none {H : Type} : Left H := { results := [], args := [] }

/-- 'sennetlaw04.RowsLeast': WHATEVER THE INPUT: true; the input reads as it did. -/
def rowsLeastSpec : ChangeSpec := { name := "rowsLeast", fn := fun _ => fun
  | [d] => { results := [.lit (.bool true)], args := [d] }
  | _ => none }
def rowsLeastRow : OpenClaim := { program := "ytlldpmkdjpmlpaa", sum := "0946d5b025c899cba050818ce3f6a5952778c68fca65c7484989ab0b9858d5a5", func := "sennet/sennetlaw04.RowsLeast", spec := "rowsLeast", unfollowed := true, recurses := true, plainKeys := false, apart := false }
def RowsLeastSaid : Prop := rowsLeastRow.holds Try.pinned (OpenSpec.ofChange rowsLeastSpec)

/-- ITS FALSE NEIGHBOUR: 'it returns false'. Refute it at one input. -/
def rowsLeastWrong : ChangeSpec := { name := "rowsLeast", fn := fun _ => fun
  | [d] => { results := [.lit (.bool false)], args := [d] }
  | _ => none }
def RowsLeastWrongFalsely : Prop := rowsLeastRow.holds Try.pinned (OpenSpec.ofChange rowsLeastWrong)

/-- 'sennetlaw04.RowsSpares': WHATEVER THE INPUT: true; the input reads as it did. -/
def rowsSparesSpec : ChangeSpec := { name := "rowsSpares", fn := fun _ => fun
  | [d1, d2] => { results := [.lit (.bool true)], args := [d1, d2] }
  | _ => none }
def rowsSparesRow : OpenClaim := { program := "ytlldpmkdjpmlpaa", sum := "0946d5b025c899cba050818ce3f6a5952778c68fca65c7484989ab0b9858d5a5", func := "sennet/sennetlaw04.RowsSpares", spec := "rowsSpares", unfollowed := true, recurses := true, plainKeys := false, apart := false }
def RowsSparesSaid : Prop := rowsSparesRow.holds Try.pinned (OpenSpec.ofChange rowsSparesSpec)

/-- ITS FALSE NEIGHBOUR: 'it returns false'. Refute it at one input. -/
def rowsSparesWrong : ChangeSpec := { name := "rowsSpares", fn := fun _ => fun
  | [d1, d2] => { results := [.lit (.bool false)], args := [d1, d2] }
  | _ => none }
def RowsSparesWrongFalsely : Prop := rowsSparesRow.holds Try.pinned (OpenSpec.ofChange rowsSparesWrong)

/-- 'sennetlaw04.RowsFewer': WHATEVER THE INPUT: true; the input reads as it did. -/
def rowsFewerSpec : ChangeSpec := { name := "rowsFewer", fn := fun _ => fun
  | [d1, d2, d3] => { results := [.lit (.bool true)], args := [d1, d2, d3] }
  | _ => none }
def rowsFewerRow : OpenClaim := { program := "ytlldpmkdjpmlpaa", sum := "0946d5b025c899cba050818ce3f6a5952778c68fca65c7484989ab0b9858d5a5", func := "sennet/sennetlaw04.RowsFewer", spec := "rowsFewer", unfollowed := true, recurses := true, plainKeys := false, apart := false }
def RowsFewerSaid : Prop := rowsFewerRow.holds Try.pinned (OpenSpec.ofChange rowsFewerSpec)

/-- ITS FALSE NEIGHBOUR: 'it returns false'. Refute it at one input. -/
def rowsFewerWrong : ChangeSpec := { name := "rowsFewer", fn := fun _ => fun
  | [d1, d2, d3] => { results := [.lit (.bool false)], args := [d1, d2, d3] }
  | _ => none }
def RowsFewerWrongFalsely : Prop := rowsFewerRow.holds Try.pinned (OpenSpec.ofChange rowsFewerWrong)

/-- 'sennetlaw04.RowsCopies': WHATEVER THE INPUT: true; the input reads as it did. -/
def rowsCopiesSpec : ChangeSpec := { name := "rowsCopies", fn := fun _ => fun
  | [d] => { results := [.lit (.bool true)], args := [d] }
  | _ => none }
def rowsCopiesRow : OpenClaim := { program := "ytlldpmkdjpmlpaa", sum := "0946d5b025c899cba050818ce3f6a5952778c68fca65c7484989ab0b9858d5a5", func := "sennet/sennetlaw04.RowsCopies", spec := "rowsCopies", unfollowed := true, recurses := true, plainKeys := false, apart := false }
def RowsCopiesSaid : Prop := rowsCopiesRow.holds Try.pinned (OpenSpec.ofChange rowsCopiesSpec)

/-- ITS FALSE NEIGHBOUR: 'it returns false'. Refute it at one input. -/
def rowsCopiesWrong : ChangeSpec := { name := "rowsCopies", fn := fun _ => fun
  | [d] => { results := [.lit (.bool false)], args := [d] }
  | _ => none }
def RowsCopiesWrongFalsely : Prop := rowsCopiesRow.holds Try.pinned (OpenSpec.ofChange rowsCopiesWrong)

/-- 'sennetlaw04.RowsOffends': WHATEVER THE INPUT: true; the input reads as it did. -/
def rowsOffendsSpec : ChangeSpec := { name := "rowsOffends", fn := fun _ => fun
  | [d1, d2, d3] => { results := [.lit (.bool true)], args := [d1, d2, d3] }
  | _ => none }
def rowsOffendsRow : OpenClaim := { program := "ytlldpmkdjpmlpaa", sum := "0946d5b025c899cba050818ce3f6a5952778c68fca65c7484989ab0b9858d5a5", func := "sennet/sennetlaw04.RowsOffends", spec := "rowsOffends", unfollowed := true, recurses := true, plainKeys := false, apart := false }
def RowsOffendsSaid : Prop := rowsOffendsRow.holds Try.pinned (OpenSpec.ofChange rowsOffendsSpec)

/-- ITS FALSE NEIGHBOUR: 'it returns false'. Refute it at one input. -/
def rowsOffendsWrong : ChangeSpec := { name := "rowsOffends", fn := fun _ => fun
  | [d1, d2, d3] => { results := [.lit (.bool false)], args := [d1, d2, d3] }
  | _ => none }
def RowsOffendsWrongFalsely : Prop := rowsOffendsRow.holds Try.pinned (OpenSpec.ofChange rowsOffendsWrong)

/-- 'sennetlaw04.RowsCircles': WHATEVER THE INPUT: true; the input reads as it did. -/
def rowsCirclesSpec : ChangeSpec := { name := "rowsCircles", fn := fun _ => fun
  | [d] => { results := [.lit (.bool true)], args := [d] }
  | _ => none }
def rowsCirclesRow : OpenClaim := { program := "ytlldpmkdjpmlpaa", sum := "0946d5b025c899cba050818ce3f6a5952778c68fca65c7484989ab0b9858d5a5", func := "sennet/sennetlaw04.RowsCircles", spec := "rowsCircles", unfollowed := true, recurses := true, plainKeys := false, apart := false }
def RowsCirclesSaid : Prop := rowsCirclesRow.holds Try.pinned (OpenSpec.ofChange rowsCirclesSpec)

/-- ITS FALSE NEIGHBOUR: 'it returns false'. Refute it at one input. -/
def rowsCirclesWrong : ChangeSpec := { name := "rowsCircles", fn := fun _ => fun
  | [d] => { results := [.lit (.bool false)], args := [d] }
  | _ => none }
def RowsCirclesWrongFalsely : Prop := rowsCirclesRow.holds Try.pinned (OpenSpec.ofChange rowsCirclesWrong)

/-- 'sennetlaw04.RowsMust': WHATEVER THE INPUT: true; the input reads as it did. -/
def rowsMustSpec : ChangeSpec := { name := "rowsMust", fn := fun _ => fun
  | [d1, d2] => { results := [.lit (.bool true)], args := [d1, d2] }
  | _ => none }
def rowsMustRow : OpenClaim := { program := "ytlldpmkdjpmlpaa", sum := "0946d5b025c899cba050818ce3f6a5952778c68fca65c7484989ab0b9858d5a5", func := "sennet/sennetlaw04.RowsMust", spec := "rowsMust", unfollowed := true, recurses := true, plainKeys := false, apart := false }
def RowsMustSaid : Prop := rowsMustRow.holds Try.pinned (OpenSpec.ofChange rowsMustSpec)

/-- ITS FALSE NEIGHBOUR: 'it returns false'. Refute it at one input. -/
def rowsMustWrong : ChangeSpec := { name := "rowsMust", fn := fun _ => fun
  | [d1, d2] => { results := [.lit (.bool false)], args := [d1, d2] }
  | _ => none }
def RowsMustWrongFalsely : Prop := rowsMustRow.holds Try.pinned (OpenSpec.ofChange rowsMustWrong)

/-- 'sennetlaw04.RowsBest': WHATEVER THE INPUT: true; the input reads as it did. -/
def rowsBestSpec : ChangeSpec := { name := "rowsBest", fn := fun _ => fun
  | [d1, d2] => { results := [.lit (.bool true)], args := [d1, d2] }
  | _ => none }
def rowsBestRow : OpenClaim := { program := "ytlldpmkdjpmlpaa", sum := "0946d5b025c899cba050818ce3f6a5952778c68fca65c7484989ab0b9858d5a5", func := "sennet/sennetlaw04.RowsBest", spec := "rowsBest", unfollowed := true, recurses := true, plainKeys := false, apart := false }
def RowsBestSaid : Prop := rowsBestRow.holds Try.pinned (OpenSpec.ofChange rowsBestSpec)

/-- ITS FALSE NEIGHBOUR: 'it returns false'. Refute it at one input. -/
def rowsBestWrong : ChangeSpec := { name := "rowsBest", fn := fun _ => fun
  | [d1, d2] => { results := [.lit (.bool false)], args := [d1, d2] }
  | _ => none }
def RowsBestWrongFalsely : Prop := rowsBestRow.holds Try.pinned (OpenSpec.ofChange rowsBestWrong)

/-- 'sennetlaw04.RowsSpots': WHATEVER THE INPUT: true; the input reads as it did. -/
def rowsSpotsSpec : ChangeSpec := { name := "rowsSpots", fn := fun _ => fun
  | [d1, d2, d3, d4] => { results := [.lit (.bool true)], args := [d1, d2, d3, d4] }
  | _ => none }
def rowsSpotsRow : OpenClaim := { program := "ytlldpmkdjpmlpaa", sum := "0946d5b025c899cba050818ce3f6a5952778c68fca65c7484989ab0b9858d5a5", func := "sennet/sennetlaw04.RowsSpots", spec := "rowsSpots", unfollowed := true, recurses := true, plainKeys := false, apart := false }
def RowsSpotsSaid : Prop := rowsSpotsRow.holds Try.pinned (OpenSpec.ofChange rowsSpotsSpec)

/-- ITS FALSE NEIGHBOUR: 'it returns false'. Refute it at one input. -/
def rowsSpotsWrong : ChangeSpec := { name := "rowsSpots", fn := fun _ => fun
  | [d1, d2, d3, d4] => { results := [.lit (.bool false)], args := [d1, d2, d3, d4] }
  | _ => none }
def RowsSpotsWrongFalsely : Prop := rowsSpotsRow.holds Try.pinned (OpenSpec.ofChange rowsSpotsWrong)

/-- 'sennetlaw04.RowsMirrors': WHATEVER THE INPUT: true; the input reads as it did. -/
def rowsMirrorsSpec : ChangeSpec := { name := "rowsMirrors", fn := fun _ => fun
  | [d] => { results := [.lit (.bool true)], args := [d] }
  | _ => none }
def rowsMirrorsRow : OpenClaim := { program := "ytlldpmkdjpmlpaa", sum := "0946d5b025c899cba050818ce3f6a5952778c68fca65c7484989ab0b9858d5a5", func := "sennet/sennetlaw04.RowsMirrors", spec := "rowsMirrors", unfollowed := true, recurses := true, plainKeys := false, apart := false }
def RowsMirrorsSaid : Prop := rowsMirrorsRow.holds Try.pinned (OpenSpec.ofChange rowsMirrorsSpec)

/-- ITS FALSE NEIGHBOUR: 'it returns false'. Refute it at one input. -/
def rowsMirrorsWrong : ChangeSpec := { name := "rowsMirrors", fn := fun _ => fun
  | [d] => { results := [.lit (.bool false)], args := [d] }
  | _ => none }
def RowsMirrorsWrongFalsely : Prop := rowsMirrorsRow.holds Try.pinned (OpenSpec.ofChange rowsMirrorsWrong)

/-- 'sennetlaw04.RowsSorts': WHATEVER THE INPUT: true; the input reads as it did. -/
def rowsSortsSpec : ChangeSpec := { name := "rowsSorts", fn := fun _ => fun
  | [d1, d2] => { results := [.lit (.bool true)], args := [d1, d2] }
  | _ => none }
def rowsSortsRow : OpenClaim := { program := "ytlldpmkdjpmlpaa", sum := "0946d5b025c899cba050818ce3f6a5952778c68fca65c7484989ab0b9858d5a5", func := "sennet/sennetlaw04.RowsSorts", spec := "rowsSorts", unfollowed := true, recurses := true, plainKeys := false, apart := false }
def RowsSortsSaid : Prop := rowsSortsRow.holds Try.pinned (OpenSpec.ofChange rowsSortsSpec)

/-- ITS FALSE NEIGHBOUR: 'it returns false'. Refute it at one input. -/
def rowsSortsWrong : ChangeSpec := { name := "rowsSorts", fn := fun _ => fun
  | [d1, d2] => { results := [.lit (.bool false)], args := [d1, d2] }
  | _ => none }
def RowsSortsWrongFalsely : Prop := rowsSortsRow.holds Try.pinned (OpenSpec.ofChange rowsSortsWrong)

/-- 'sennetlaw04.RowsSorting': WHATEVER THE INPUT: true; the input reads as it did. -/
def rowsSortingSpec : ChangeSpec := { name := "rowsSorting", fn := fun _ => fun
  | [d1, d2, d3] => { results := [.lit (.bool true)], args := [d1, d2, d3] }
  | _ => none }
def rowsSortingRow : OpenClaim := { program := "ytlldpmkdjpmlpaa", sum := "0946d5b025c899cba050818ce3f6a5952778c68fca65c7484989ab0b9858d5a5", func := "sennet/sennetlaw04.RowsSorting", spec := "rowsSorting", unfollowed := true, recurses := true, plainKeys := false, apart := false }
def RowsSortingSaid : Prop := rowsSortingRow.holds Try.pinned (OpenSpec.ofChange rowsSortingSpec)

/-- ITS FALSE NEIGHBOUR: 'it returns false'. Refute it at one input. -/
def rowsSortingWrong : ChangeSpec := { name := "rowsSorting", fn := fun _ => fun
  | [d1, d2, d3] => { results := [.lit (.bool false)], args := [d1, d2, d3] }
  | _ => none }
def RowsSortingWrongFalsely : Prop := rowsSortingRow.holds Try.pinned (OpenSpec.ofChange rowsSortingWrong)

/-- 'sennetlaw04.RowsHonours': WHATEVER THE INPUT: true; the input reads as it did. -/
def rowsHonoursSpec : ChangeSpec := { name := "rowsHonours", fn := fun _ => fun
  | [d1, d2, d3] => { results := [.lit (.bool true)], args := [d1, d2, d3] }
  | _ => none }
def rowsHonoursRow : OpenClaim := { program := "ytlldpmkdjpmlpaa", sum := "0946d5b025c899cba050818ce3f6a5952778c68fca65c7484989ab0b9858d5a5", func := "sennet/sennetlaw04.RowsHonours", spec := "rowsHonours", unfollowed := true, recurses := true, plainKeys := false, apart := false }
def RowsHonoursSaid : Prop := rowsHonoursRow.holds Try.pinned (OpenSpec.ofChange rowsHonoursSpec)

/-- ITS FALSE NEIGHBOUR: 'it returns false'. Refute it at one input. -/
def rowsHonoursWrong : ChangeSpec := { name := "rowsHonours", fn := fun _ => fun
  | [d1, d2, d3] => { results := [.lit (.bool false)], args := [d1, d2, d3] }
  | _ => none }
def RowsHonoursWrongFalsely : Prop := rowsHonoursRow.holds Try.pinned (OpenSpec.ofChange rowsHonoursWrong)

/-- 'sennetlaw04.RowsSeats': WHATEVER THE INPUT: true; the input reads as it did. -/
def rowsSeatsSpec : ChangeSpec := { name := "rowsSeats", fn := fun _ => fun
  | [d1, d2, d3] => { results := [.lit (.bool true)], args := [d1, d2, d3] }
  | _ => none }
def rowsSeatsRow : OpenClaim := { program := "ytlldpmkdjpmlpaa", sum := "0946d5b025c899cba050818ce3f6a5952778c68fca65c7484989ab0b9858d5a5", func := "sennet/sennetlaw04.RowsSeats", spec := "rowsSeats", unfollowed := true, recurses := true, plainKeys := false, apart := false }
def RowsSeatsSaid : Prop := rowsSeatsRow.holds Try.pinned (OpenSpec.ofChange rowsSeatsSpec)

/-- ITS FALSE NEIGHBOUR: 'it returns false'. Refute it at one input. -/
def rowsSeatsWrong : ChangeSpec := { name := "rowsSeats", fn := fun _ => fun
  | [d1, d2, d3] => { results := [.lit (.bool false)], args := [d1, d2, d3] }
  | _ => none }
def RowsSeatsWrongFalsely : Prop := rowsSeatsRow.holds Try.pinned (OpenSpec.ofChange rowsSeatsWrong)

/-- 'sennetlaw04.RowsTreaties': WHATEVER THE INPUT: true; the input reads as it did. -/
def rowsTreatiesSpec : ChangeSpec := { name := "rowsTreaties", fn := fun _ => fun
  | [d1, d2, d3] => { results := [.lit (.bool true)], args := [d1, d2, d3] }
  | _ => none }
def rowsTreatiesRow : OpenClaim := { program := "ytlldpmkdjpmlpaa", sum := "0946d5b025c899cba050818ce3f6a5952778c68fca65c7484989ab0b9858d5a5", func := "sennet/sennetlaw04.RowsTreaties", spec := "rowsTreaties", unfollowed := true, recurses := true, plainKeys := false, apart := false }
def RowsTreatiesSaid : Prop := rowsTreatiesRow.holds Try.pinned (OpenSpec.ofChange rowsTreatiesSpec)

/-- ITS FALSE NEIGHBOUR: 'it returns false'. Refute it at one input. -/
def rowsTreatiesWrong : ChangeSpec := { name := "rowsTreaties", fn := fun _ => fun
  | [d1, d2, d3] => { results := [.lit (.bool false)], args := [d1, d2, d3] }
  | _ => none }
def RowsTreatiesWrongFalsely : Prop := rowsTreatiesRow.holds Try.pinned (OpenSpec.ofChange rowsTreatiesWrong)

/-- 'sennetlaw04.RowsChecks': WHATEVER THE INPUT: true; the input reads as it did. -/
def rowsChecksSpec : ChangeSpec := { name := "rowsChecks", fn := fun _ => fun
  | [d1, d2] => { results := [.lit (.bool true)], args := [d1, d2] }
  | _ => none }
def rowsChecksRow : OpenClaim := { program := "ytlldpmkdjpmlpaa", sum := "0946d5b025c899cba050818ce3f6a5952778c68fca65c7484989ab0b9858d5a5", func := "sennet/sennetlaw04.RowsChecks", spec := "rowsChecks", unfollowed := true, recurses := true, plainKeys := false, apart := false }
def RowsChecksSaid : Prop := rowsChecksRow.holds Try.pinned (OpenSpec.ofChange rowsChecksSpec)

/-- ITS FALSE NEIGHBOUR: 'it returns false'. Refute it at one input. -/
def rowsChecksWrong : ChangeSpec := { name := "rowsChecks", fn := fun _ => fun
  | [d1, d2] => { results := [.lit (.bool false)], args := [d1, d2] }
  | _ => none }
def RowsChecksWrongFalsely : Prop := rowsChecksRow.holds Try.pinned (OpenSpec.ofChange rowsChecksWrong)

/-- 'sennetlaw04.RowsMemory': WHATEVER THE INPUT: true; the input reads as it did. -/
def rowsMemorySpec : ChangeSpec := { name := "rowsMemory", fn := fun _ => fun
  | [d1, d2] => { results := [.lit (.bool true)], args := [d1, d2] }
  | _ => none }
def rowsMemoryRow : OpenClaim := { program := "ytlldpmkdjpmlpaa", sum := "0946d5b025c899cba050818ce3f6a5952778c68fca65c7484989ab0b9858d5a5", func := "sennet/sennetlaw04.RowsMemory", spec := "rowsMemory", unfollowed := true, recurses := true, plainKeys := false, apart := false }
def RowsMemorySaid : Prop := rowsMemoryRow.holds Try.pinned (OpenSpec.ofChange rowsMemorySpec)

/-- ITS FALSE NEIGHBOUR: 'it returns false'. Refute it at one input. -/
def rowsMemoryWrong : ChangeSpec := { name := "rowsMemory", fn := fun _ => fun
  | [d1, d2] => { results := [.lit (.bool false)], args := [d1, d2] }
  | _ => none }
def RowsMemoryWrongFalsely : Prop := rowsMemoryRow.holds Try.pinned (OpenSpec.ofChange rowsMemoryWrong)

/-- 'sennetlaw04.RowsNoLess': WHATEVER THE INPUT: true; the input reads as it did. -/
def rowsNoLessSpec : ChangeSpec := { name := "rowsNoLess", fn := fun _ => fun
  | [d1, d2, d3] => { results := [.lit (.bool true)], args := [d1, d2, d3] }
  | _ => none }
def rowsNoLessRow : OpenClaim := { program := "ytlldpmkdjpmlpaa", sum := "0946d5b025c899cba050818ce3f6a5952778c68fca65c7484989ab0b9858d5a5", func := "sennet/sennetlaw04.RowsNoLess", spec := "rowsNoLess", unfollowed := true, recurses := true, plainKeys := false, apart := false }
def RowsNoLessSaid : Prop := rowsNoLessRow.holds Try.pinned (OpenSpec.ofChange rowsNoLessSpec)

/-- ITS FALSE NEIGHBOUR: 'it returns false'. Refute it at one input. -/
def rowsNoLessWrong : ChangeSpec := { name := "rowsNoLess", fn := fun _ => fun
  | [d1, d2, d3] => { results := [.lit (.bool false)], args := [d1, d2, d3] }
  | _ => none }
def RowsNoLessWrongFalsely : Prop := rowsNoLessRow.holds Try.pinned (OpenSpec.ofChange rowsNoLessWrong)

/- THE SECOND FORM. 'bulk': how many values and letters a reading holds, each counted each time it is reached (what is shared counts as often as it is met; a slice's spare places count too). A statement '..UptoSaid' is the law's where the arguments, and the package variables that the reading takes, are together of bulk at most 1048576: NARROWER than '..Said'. Prove '..Said' where nothing that the law and all that it calls make is longer than what came in: it says more and counts as full. Else prove '..UptoSaid'. A law counts once. -/
mutual
def uptoBulk {H : Type} : DataW H → Nat
  | .lit (.string bytes) => bytes.length + 1
  | .lit _ => 1
  | .nil => 1
  | .ptr d => uptoBulk d + 1
  | .slice elems spare => uptoBulkAll elems + uptoBulkAll spare + 1
  | .agg parts => uptoBulkAll parts + 1
  | .iface _ d => uptoBulk d + 1
  | .map entries => uptoBulkEntries entries + 1
  | .held _ => 1
def uptoBulkAll {H : Type} : List (DataW H) → Nat
  | [] => 0
  | d :: r => uptoBulk d + uptoBulkAll r
def uptoBulkEntries {H : Type} : List (Lit × DataW H) → Nat
  | [] => 0
  | x :: r => uptoBulkEntry x + uptoBulkEntries r
def uptoBulkEntry {H : Type} : Lit × DataW H → Nat
  | (.string bytes, d) => bytes.length + uptoBulk d + 1
  | (_, d) => uptoBulk d + 1
 end
def uptoSmall : (H : Type) → List (DataW H) → Bool := fun _ ds => decide (uptoBulkAll ds ≤ 1048576)
def OpenSpec.upto (s : _root_.Go.ChangeSpec) : _root_.Go.OpenSpec := { _root_.Go.OpenSpec.ofChange s with cond := some uptoSmall }

/-- 'sennetlaw04.RowsLeast', WHERE WHAT IT READS IS OF BULK AT MOST 1048576: true; the input reads as it did. -/
def rowsLeastUptoRow : OpenClaim := { program := "ytlldpmkdjpmlpaa", sum := "0946d5b025c899cba050818ce3f6a5952778c68fca65c7484989ab0b9858d5a5", func := "sennet/sennetlaw04.RowsLeast", spec := "rowsLeast", unfollowed := true, recurses := true, plainKeys := false, apart := false, narrowed := true }
def RowsLeastUptoSaid : Prop := rowsLeastUptoRow.holds Try.pinned (OpenSpec.upto rowsLeastSpec)

/-- 'sennetlaw04.RowsSpares', WHERE WHAT IT READS IS OF BULK AT MOST 1048576: true; the input reads as it did. -/
def rowsSparesUptoRow : OpenClaim := { program := "ytlldpmkdjpmlpaa", sum := "0946d5b025c899cba050818ce3f6a5952778c68fca65c7484989ab0b9858d5a5", func := "sennet/sennetlaw04.RowsSpares", spec := "rowsSpares", unfollowed := true, recurses := true, plainKeys := false, apart := false, narrowed := true }
def RowsSparesUptoSaid : Prop := rowsSparesUptoRow.holds Try.pinned (OpenSpec.upto rowsSparesSpec)

/-- 'sennetlaw04.RowsFewer', WHERE WHAT IT READS IS OF BULK AT MOST 1048576: true; the input reads as it did. -/
def rowsFewerUptoRow : OpenClaim := { program := "ytlldpmkdjpmlpaa", sum := "0946d5b025c899cba050818ce3f6a5952778c68fca65c7484989ab0b9858d5a5", func := "sennet/sennetlaw04.RowsFewer", spec := "rowsFewer", unfollowed := true, recurses := true, plainKeys := false, apart := false, narrowed := true }
def RowsFewerUptoSaid : Prop := rowsFewerUptoRow.holds Try.pinned (OpenSpec.upto rowsFewerSpec)

/-- 'sennetlaw04.RowsCopies', WHERE WHAT IT READS IS OF BULK AT MOST 1048576: true; the input reads as it did. -/
def rowsCopiesUptoRow : OpenClaim := { program := "ytlldpmkdjpmlpaa", sum := "0946d5b025c899cba050818ce3f6a5952778c68fca65c7484989ab0b9858d5a5", func := "sennet/sennetlaw04.RowsCopies", spec := "rowsCopies", unfollowed := true, recurses := true, plainKeys := false, apart := false, narrowed := true }
def RowsCopiesUptoSaid : Prop := rowsCopiesUptoRow.holds Try.pinned (OpenSpec.upto rowsCopiesSpec)

/-- 'sennetlaw04.RowsOffends', WHERE WHAT IT READS IS OF BULK AT MOST 1048576: true; the input reads as it did. -/
def rowsOffendsUptoRow : OpenClaim := { program := "ytlldpmkdjpmlpaa", sum := "0946d5b025c899cba050818ce3f6a5952778c68fca65c7484989ab0b9858d5a5", func := "sennet/sennetlaw04.RowsOffends", spec := "rowsOffends", unfollowed := true, recurses := true, plainKeys := false, apart := false, narrowed := true }
def RowsOffendsUptoSaid : Prop := rowsOffendsUptoRow.holds Try.pinned (OpenSpec.upto rowsOffendsSpec)

/-- 'sennetlaw04.RowsCircles', WHERE WHAT IT READS IS OF BULK AT MOST 1048576: true; the input reads as it did. -/
def rowsCirclesUptoRow : OpenClaim := { program := "ytlldpmkdjpmlpaa", sum := "0946d5b025c899cba050818ce3f6a5952778c68fca65c7484989ab0b9858d5a5", func := "sennet/sennetlaw04.RowsCircles", spec := "rowsCircles", unfollowed := true, recurses := true, plainKeys := false, apart := false, narrowed := true }
def RowsCirclesUptoSaid : Prop := rowsCirclesUptoRow.holds Try.pinned (OpenSpec.upto rowsCirclesSpec)

/-- 'sennetlaw04.RowsMust', WHERE WHAT IT READS IS OF BULK AT MOST 1048576: true; the input reads as it did. -/
def rowsMustUptoRow : OpenClaim := { program := "ytlldpmkdjpmlpaa", sum := "0946d5b025c899cba050818ce3f6a5952778c68fca65c7484989ab0b9858d5a5", func := "sennet/sennetlaw04.RowsMust", spec := "rowsMust", unfollowed := true, recurses := true, plainKeys := false, apart := false, narrowed := true }
def RowsMustUptoSaid : Prop := rowsMustUptoRow.holds Try.pinned (OpenSpec.upto rowsMustSpec)

/-- 'sennetlaw04.RowsBest', WHERE WHAT IT READS IS OF BULK AT MOST 1048576: true; the input reads as it did. -/
def rowsBestUptoRow : OpenClaim := { program := "ytlldpmkdjpmlpaa", sum := "0946d5b025c899cba050818ce3f6a5952778c68fca65c7484989ab0b9858d5a5", func := "sennet/sennetlaw04.RowsBest", spec := "rowsBest", unfollowed := true, recurses := true, plainKeys := false, apart := false, narrowed := true }
def RowsBestUptoSaid : Prop := rowsBestUptoRow.holds Try.pinned (OpenSpec.upto rowsBestSpec)

/-- 'sennetlaw04.RowsSpots', WHERE WHAT IT READS IS OF BULK AT MOST 1048576: true; the input reads as it did. -/
def rowsSpotsUptoRow : OpenClaim := { program := "ytlldpmkdjpmlpaa", sum := "0946d5b025c899cba050818ce3f6a5952778c68fca65c7484989ab0b9858d5a5", func := "sennet/sennetlaw04.RowsSpots", spec := "rowsSpots", unfollowed := true, recurses := true, plainKeys := false, apart := false, narrowed := true }
def RowsSpotsUptoSaid : Prop := rowsSpotsUptoRow.holds Try.pinned (OpenSpec.upto rowsSpotsSpec)

/-- 'sennetlaw04.RowsMirrors', WHERE WHAT IT READS IS OF BULK AT MOST 1048576: true; the input reads as it did. -/
def rowsMirrorsUptoRow : OpenClaim := { program := "ytlldpmkdjpmlpaa", sum := "0946d5b025c899cba050818ce3f6a5952778c68fca65c7484989ab0b9858d5a5", func := "sennet/sennetlaw04.RowsMirrors", spec := "rowsMirrors", unfollowed := true, recurses := true, plainKeys := false, apart := false, narrowed := true }
def RowsMirrorsUptoSaid : Prop := rowsMirrorsUptoRow.holds Try.pinned (OpenSpec.upto rowsMirrorsSpec)

/-- 'sennetlaw04.RowsSorts', WHERE WHAT IT READS IS OF BULK AT MOST 1048576: true; the input reads as it did. -/
def rowsSortsUptoRow : OpenClaim := { program := "ytlldpmkdjpmlpaa", sum := "0946d5b025c899cba050818ce3f6a5952778c68fca65c7484989ab0b9858d5a5", func := "sennet/sennetlaw04.RowsSorts", spec := "rowsSorts", unfollowed := true, recurses := true, plainKeys := false, apart := false, narrowed := true }
def RowsSortsUptoSaid : Prop := rowsSortsUptoRow.holds Try.pinned (OpenSpec.upto rowsSortsSpec)

/-- 'sennetlaw04.RowsSorting', WHERE WHAT IT READS IS OF BULK AT MOST 1048576: true; the input reads as it did. -/
def rowsSortingUptoRow : OpenClaim := { program := "ytlldpmkdjpmlpaa", sum := "0946d5b025c899cba050818ce3f6a5952778c68fca65c7484989ab0b9858d5a5", func := "sennet/sennetlaw04.RowsSorting", spec := "rowsSorting", unfollowed := true, recurses := true, plainKeys := false, apart := false, narrowed := true }
def RowsSortingUptoSaid : Prop := rowsSortingUptoRow.holds Try.pinned (OpenSpec.upto rowsSortingSpec)

/-- 'sennetlaw04.RowsHonours', WHERE WHAT IT READS IS OF BULK AT MOST 1048576: true; the input reads as it did. -/
def rowsHonoursUptoRow : OpenClaim := { program := "ytlldpmkdjpmlpaa", sum := "0946d5b025c899cba050818ce3f6a5952778c68fca65c7484989ab0b9858d5a5", func := "sennet/sennetlaw04.RowsHonours", spec := "rowsHonours", unfollowed := true, recurses := true, plainKeys := false, apart := false, narrowed := true }
def RowsHonoursUptoSaid : Prop := rowsHonoursUptoRow.holds Try.pinned (OpenSpec.upto rowsHonoursSpec)

/-- 'sennetlaw04.RowsSeats', WHERE WHAT IT READS IS OF BULK AT MOST 1048576: true; the input reads as it did. -/
def rowsSeatsUptoRow : OpenClaim := { program := "ytlldpmkdjpmlpaa", sum := "0946d5b025c899cba050818ce3f6a5952778c68fca65c7484989ab0b9858d5a5", func := "sennet/sennetlaw04.RowsSeats", spec := "rowsSeats", unfollowed := true, recurses := true, plainKeys := false, apart := false, narrowed := true }
def RowsSeatsUptoSaid : Prop := rowsSeatsUptoRow.holds Try.pinned (OpenSpec.upto rowsSeatsSpec)

/-- 'sennetlaw04.RowsTreaties', WHERE WHAT IT READS IS OF BULK AT MOST 1048576: true; the input reads as it did. -/
def rowsTreatiesUptoRow : OpenClaim := { program := "ytlldpmkdjpmlpaa", sum := "0946d5b025c899cba050818ce3f6a5952778c68fca65c7484989ab0b9858d5a5", func := "sennet/sennetlaw04.RowsTreaties", spec := "rowsTreaties", unfollowed := true, recurses := true, plainKeys := false, apart := false, narrowed := true }
def RowsTreatiesUptoSaid : Prop := rowsTreatiesUptoRow.holds Try.pinned (OpenSpec.upto rowsTreatiesSpec)

/-- 'sennetlaw04.RowsChecks', WHERE WHAT IT READS IS OF BULK AT MOST 1048576: true; the input reads as it did. -/
def rowsChecksUptoRow : OpenClaim := { program := "ytlldpmkdjpmlpaa", sum := "0946d5b025c899cba050818ce3f6a5952778c68fca65c7484989ab0b9858d5a5", func := "sennet/sennetlaw04.RowsChecks", spec := "rowsChecks", unfollowed := true, recurses := true, plainKeys := false, apart := false, narrowed := true }
def RowsChecksUptoSaid : Prop := rowsChecksUptoRow.holds Try.pinned (OpenSpec.upto rowsChecksSpec)

/-- 'sennetlaw04.RowsMemory', WHERE WHAT IT READS IS OF BULK AT MOST 1048576: true; the input reads as it did. -/
def rowsMemoryUptoRow : OpenClaim := { program := "ytlldpmkdjpmlpaa", sum := "0946d5b025c899cba050818ce3f6a5952778c68fca65c7484989ab0b9858d5a5", func := "sennet/sennetlaw04.RowsMemory", spec := "rowsMemory", unfollowed := true, recurses := true, plainKeys := false, apart := false, narrowed := true }
def RowsMemoryUptoSaid : Prop := rowsMemoryUptoRow.holds Try.pinned (OpenSpec.upto rowsMemorySpec)

/-- 'sennetlaw04.RowsNoLess', WHERE WHAT IT READS IS OF BULK AT MOST 1048576: true; the input reads as it did. -/
def rowsNoLessUptoRow : OpenClaim := { program := "ytlldpmkdjpmlpaa", sum := "0946d5b025c899cba050818ce3f6a5952778c68fca65c7484989ab0b9858d5a5", func := "sennet/sennetlaw04.RowsNoLess", spec := "rowsNoLess", unfollowed := true, recurses := true, plainKeys := false, apart := false, narrowed := true }
def RowsNoLessUptoSaid : Prop := rowsNoLessUptoRow.holds Try.pinned (OpenSpec.upto rowsNoLessSpec)

end Rows
end Go.Proofs.Ytlldpmkdjpmlpaa
