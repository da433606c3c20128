/-
  No cell of these rows narrows 'for every input' (looked for: loops, veiled, ifaces, maps, wideKeys, modest, calm, conditions, laid).
  DERIVED. THE GIVEN ROWS OF THIS SEAT. 12 by the template 'for every input the law returns true; each argument reads behind the call as it read before'; 0 by the template 'total and deterministic' (their statements: YtoeeilbpgckhlaaTotals.lean).
  GIVEN WITH THE SEED: the statements are not yours to turn. If you find one false, say at which input.
  Laid BY PROGRAM, IN A SANDBOX (cutbox-rows.mjs): the forced cells as the released guide's own fill.sh prints them over the translation c4c7edb41e08f6c1… (all of the seat's roots in one cut). By AI agents, Wed Nov 11 2026. No macro, syntax, notation, axiom, sorry.
-/
import Derived.Test.YtoeeilbpgckhlaaChecked
import GoSem.Claim
import GoSem.ClaimJoined
import GoSem.ClaimMapViews
import Derived.JoinedTies
import Derived.KernelRfl
namespace Go.Proofs.Ytoeeilbpgckhlaa
/- THE CELL 'sum', in the pinned program and in every row, IS THE sha256 OF THE DUMP (.gsa) THAT YtoeeilbpgckhlaaProg.lean LOADS. Nothing in Lean hashes anything: it is a label: what it is worth is what the hold of that sum in a sandbox is worth. -/
noncomputable def Try.pinned : Pinned := { name := "ytoeeilbpgckhlaa", sum := "c4c7edb41e08f6c19f91c982ee98138577d012f52861be9ce0f95a68e1ada056", checked := Try.checked }
namespace Rows
def none {H : Type} : Left H := { results := [], args := [] }

/-- 'belfrylaw19.AlertPlays': WHATEVER THE INPUT: true; the input reads as it did. -/
def alertPlaysSpec : ChangeSpec := { name := "alertPlays", fn := fun _ => fun
  | [d1, d2, d3] => { results := [.lit (.bool true)], args := [d1, d2, d3] }
  | _ => none }
def alertPlaysRow : OpenClaim := { program := "ytoeeilbpgckhlaa", sum := "c4c7edb41e08f6c19f91c982ee98138577d012f52861be9ce0f95a68e1ada056", func := "belfry/belfrylaw19.AlertPlays", spec := "alertPlays", apart := false }
def AlertPlaysSaid : Prop := alertPlaysRow.holds Try.pinned (OpenSpec.ofChange alertPlaysSpec)

/-- ITS FALSE NEIGHBOUR: 'it returns false'. Refute it at one input. -/
def alertPlaysWrong : ChangeSpec := { name := "alertPlays", fn := fun _ => fun
  | [d1, d2, d3] => { results := [.lit (.bool false)], args := [d1, d2, d3] }
  | _ => none }
def AlertPlaysWrongFalsely : Prop := alertPlaysRow.holds Try.pinned (OpenSpec.ofChange alertPlaysWrong)

/-- 'belfrylaw19.AlertAny': WHATEVER THE INPUT: true; the input reads as it did. -/
def alertAnySpec : ChangeSpec := { name := "alertAny", fn := fun _ => fun
  | [d1, d2, d3, d4, d5] => { results := [.lit (.bool true)], args := [d1, d2, d3, d4, d5] }
  | _ => none }
def alertAnyRow : OpenClaim := { program := "ytoeeilbpgckhlaa", sum := "c4c7edb41e08f6c19f91c982ee98138577d012f52861be9ce0f95a68e1ada056", func := "belfry/belfrylaw19.AlertAny", spec := "alertAny", apart := false }
def AlertAnySaid : Prop := alertAnyRow.holds Try.pinned (OpenSpec.ofChange alertAnySpec)

/-- ITS FALSE NEIGHBOUR: 'it returns false'. Refute it at one input. -/
def alertAnyWrong : ChangeSpec := { name := "alertAny", fn := fun _ => fun
  | [d1, d2, d3, d4, d5] => { results := [.lit (.bool false)], args := [d1, d2, d3, d4, d5] }
  | _ => none }
def AlertAnyWrongFalsely : Prop := alertAnyRow.holds Try.pinned (OpenSpec.ofChange alertAnyWrong)

/-- 'belfrylaw19.AlertWaits': WHATEVER THE INPUT: true; the input reads as it did. -/
def alertWaitsSpec : ChangeSpec := { name := "alertWaits", fn := fun _ => fun
  | [d1, d2, d3] => { results := [.lit (.bool true)], args := [d1, d2, d3] }
  | _ => none }
def alertWaitsRow : OpenClaim := { program := "ytoeeilbpgckhlaa", sum := "c4c7edb41e08f6c19f91c982ee98138577d012f52861be9ce0f95a68e1ada056", func := "belfry/belfrylaw19.AlertWaits", spec := "alertWaits", apart := false }
def AlertWaitsSaid : Prop := alertWaitsRow.holds Try.pinned (OpenSpec.ofChange alertWaitsSpec)

/-- ITS FALSE NEIGHBOUR: 'it returns false'. Refute it at one input. -/
def alertWaitsWrong : ChangeSpec := { name := "alertWaits", fn := fun _ => fun
  | [d1, d2, d3] => { results := [.lit (.bool false)], args := [d1, d2, d3] }
  | _ => none }
def AlertWaitsWrongFalsely : Prop := alertWaitsRow.holds Try.pinned (OpenSpec.ofChange alertWaitsWrong)

/-- 'belfrylaw19.AlertTurns': WHATEVER THE INPUT: true; the input reads as it did. -/
def alertTurnsSpec : ChangeSpec := { name := "alertTurns", fn := fun _ => fun
  | [d1, d2, d3] => { results := [.lit (.bool true)], args := [d1, d2, d3] }
  | _ => none }
def alertTurnsRow : OpenClaim := { program := "ytoeeilbpgckhlaa", sum := "c4c7edb41e08f6c19f91c982ee98138577d012f52861be9ce0f95a68e1ada056", func := "belfry/belfrylaw19.AlertTurns", spec := "alertTurns", apart := false }
def AlertTurnsSaid : Prop := alertTurnsRow.holds Try.pinned (OpenSpec.ofChange alertTurnsSpec)

/-- ITS FALSE NEIGHBOUR: 'it returns false'. Refute it at one input. -/
def alertTurnsWrong : ChangeSpec := { name := "alertTurns", fn := fun _ => fun
  | [d1, d2, d3] => { results := [.lit (.bool false)], args := [d1, d2, d3] }
  | _ => none }
def AlertTurnsWrongFalsely : Prop := alertTurnsRow.holds Try.pinned (OpenSpec.ofChange alertTurnsWrong)

/-- 'belfrylaw13.HistAny': WHATEVER THE INPUT: true; the input reads as it did. -/
def histAnySpec : ChangeSpec := { name := "histAny", fn := fun _ => fun
  | [d1, d2, d3] => { results := [.lit (.bool true)], args := [d1, d2, d3] }
  | _ => none }
def histAnyRow : OpenClaim := { program := "ytoeeilbpgckhlaa", sum := "c4c7edb41e08f6c19f91c982ee98138577d012f52861be9ce0f95a68e1ada056", func := "belfry/belfrylaw13.HistAny", spec := "histAny", unfollowed := true, recurses := true, apart := false }
def HistAnySaid : Prop := histAnyRow.holds Try.pinned (OpenSpec.ofChange histAnySpec)

/-- ITS FALSE NEIGHBOUR: 'it returns false'. Refute it at one input. -/
def histAnyWrong : ChangeSpec := { name := "histAny", fn := fun _ => fun
  | [d1, d2, d3] => { results := [.lit (.bool false)], args := [d1, d2, d3] }
  | _ => none }
def HistAnyWrongFalsely : Prop := histAnyRow.holds Try.pinned (OpenSpec.ofChange histAnyWrong)

/-- 'belfrylaw13.HistCounts': WHATEVER THE INPUT: true; the input reads as it did. -/
def histCountsSpec : ChangeSpec := { name := "histCounts", fn := fun _ => fun
  | [d1, d2, d3] => { results := [.lit (.bool true)], args := [d1, d2, d3] }
  | _ => none }
def histCountsRow : OpenClaim := { program := "ytoeeilbpgckhlaa", sum := "c4c7edb41e08f6c19f91c982ee98138577d012f52861be9ce0f95a68e1ada056", func := "belfry/belfrylaw13.HistCounts", spec := "histCounts", unfollowed := true, recurses := true, apart := false }
def HistCountsSaid : Prop := histCountsRow.holds Try.pinned (OpenSpec.ofChange histCountsSpec)

/-- ITS FALSE NEIGHBOUR: 'it returns false'. Refute it at one input. -/
def histCountsWrong : ChangeSpec := { name := "histCounts", fn := fun _ => fun
  | [d1, d2, d3] => { results := [.lit (.bool false)], args := [d1, d2, d3] }
  | _ => none }
def HistCountsWrongFalsely : Prop := histCountsRow.holds Try.pinned (OpenSpec.ofChange histCountsWrong)

/-- 'belfrylaw13.HistBounds': WHATEVER THE INPUT: true; the input reads as it did. -/
def histBoundsSpec : ChangeSpec := { name := "histBounds", fn := fun _ => fun
  | [d1, d2] => { results := [.lit (.bool true)], args := [d1, d2] }
  | _ => none }
def histBoundsRow : OpenClaim := { program := "ytoeeilbpgckhlaa", sum := "c4c7edb41e08f6c19f91c982ee98138577d012f52861be9ce0f95a68e1ada056", func := "belfry/belfrylaw13.HistBounds", spec := "histBounds", unfollowed := true, recurses := true, apart := false }
def HistBoundsSaid : Prop := histBoundsRow.holds Try.pinned (OpenSpec.ofChange histBoundsSpec)

/-- ITS FALSE NEIGHBOUR: 'it returns false'. Refute it at one input. -/
def histBoundsWrong : ChangeSpec := { name := "histBounds", fn := fun _ => fun
  | [d1, d2] => { results := [.lit (.bool false)], args := [d1, d2] }
  | _ => none }
def HistBoundsWrongFalsely : Prop := histBoundsRow.holds Try.pinned (OpenSpec.ofChange histBoundsWrong)

/-- 'belfrylaw13.HistRanks': WHATEVER THE INPUT: true; the input reads as it did. -/
def histRanksSpec : ChangeSpec := { name := "histRanks", fn := fun _ => fun
  | [d1, d2] => { results := [.lit (.bool true)], args := [d1, d2] }
  | _ => none }
def histRanksRow : OpenClaim := { program := "ytoeeilbpgckhlaa", sum := "c4c7edb41e08f6c19f91c982ee98138577d012f52861be9ce0f95a68e1ada056", func := "belfry/belfrylaw13.HistRanks", spec := "histRanks", unfollowed := true, recurses := true, apart := false }
def HistRanksSaid : Prop := histRanksRow.holds Try.pinned (OpenSpec.ofChange histRanksSpec)

/-- ITS FALSE NEIGHBOUR: 'it returns false'. Refute it at one input. -/
def histRanksWrong : ChangeSpec := { name := "histRanks", fn := fun _ => fun
  | [d1, d2] => { results := [.lit (.bool false)], args := [d1, d2] }
  | _ => none }
def HistRanksWrongFalsely : Prop := histRanksRow.holds Try.pinned (OpenSpec.ofChange histRanksWrong)

/-- 'belfrylaw16.QueuePlays': WHATEVER THE INPUT: true; the input reads as it did. -/
def queuePlaysSpec : ChangeSpec := { name := "queuePlays", fn := fun _ => fun
  | [d1, d2] => { results := [.lit (.bool true)], args := [d1, d2] }
  | _ => none }
def queuePlaysRow : OpenClaim := { program := "ytoeeilbpgckhlaa", sum := "c4c7edb41e08f6c19f91c982ee98138577d012f52861be9ce0f95a68e1ada056", func := "belfry/belfrylaw16.QueuePlays", spec := "queuePlays", unfollowed := true, recurses := true, apart := false }
def QueuePlaysSaid : Prop := queuePlaysRow.holds Try.pinned (OpenSpec.ofChange queuePlaysSpec)

/-- ITS FALSE NEIGHBOUR: 'it returns false'. Refute it at one input. -/
def queuePlaysWrong : ChangeSpec := { name := "queuePlays", fn := fun _ => fun
  | [d1, d2] => { results := [.lit (.bool false)], args := [d1, d2] }
  | _ => none }
def QueuePlaysWrongFalsely : Prop := queuePlaysRow.holds Try.pinned (OpenSpec.ofChange queuePlaysWrong)

/-- 'belfrylaw16.QueueNumbers': WHATEVER THE INPUT: true; the input reads as it did. -/
def queueNumbersSpec : ChangeSpec := { name := "queueNumbers", fn := fun _ => fun
  | [d1, d2] => { results := [.lit (.bool true)], args := [d1, d2] }
  | _ => none }
def queueNumbersRow : OpenClaim := { program := "ytoeeilbpgckhlaa", sum := "c4c7edb41e08f6c19f91c982ee98138577d012f52861be9ce0f95a68e1ada056", func := "belfry/belfrylaw16.QueueNumbers", spec := "queueNumbers", unfollowed := true, recurses := true, apart := false }
def QueueNumbersSaid : Prop := queueNumbersRow.holds Try.pinned (OpenSpec.ofChange queueNumbersSpec)

/-- ITS FALSE NEIGHBOUR: 'it returns false'. Refute it at one input. -/
def queueNumbersWrong : ChangeSpec := { name := "queueNumbers", fn := fun _ => fun
  | [d1, d2] => { results := [.lit (.bool false)], args := [d1, d2] }
  | _ => none }
def QueueNumbersWrongFalsely : Prop := queueNumbersRow.holds Try.pinned (OpenSpec.ofChange queueNumbersWrong)

/-- 'belfrylaw16.QueueFull': WHATEVER THE INPUT: true; the input reads as it did. -/
def queueFullSpec : ChangeSpec := { name := "queueFull", fn := fun _ => fun
  | [d1, d2] => { results := [.lit (.bool true)], args := [d1, d2] }
  | _ => none }
def queueFullRow : OpenClaim := { program := "ytoeeilbpgckhlaa", sum := "c4c7edb41e08f6c19f91c982ee98138577d012f52861be9ce0f95a68e1ada056", func := "belfry/belfrylaw16.QueueFull", spec := "queueFull", unfollowed := true, recurses := true, apart := false }
def QueueFullSaid : Prop := queueFullRow.holds Try.pinned (OpenSpec.ofChange queueFullSpec)

/-- ITS FALSE NEIGHBOUR: 'it returns false'. Refute it at one input. -/
def queueFullWrong : ChangeSpec := { name := "queueFull", fn := fun _ => fun
  | [d1, d2] => { results := [.lit (.bool false)], args := [d1, d2] }
  | _ => none }
def QueueFullWrongFalsely : Prop := queueFullRow.holds Try.pinned (OpenSpec.ofChange queueFullWrong)

/-- 'belfrylaw10.DiskKeeps': WHATEVER THE INPUT: true; the input reads as it did. -/
def diskKeepsSpec : ChangeSpec := { name := "diskKeeps", fn := fun _ => fun
  | [d1, d2, d3] => { results := [.lit (.bool true)], args := [d1, d2, d3] }
  | _ => none }
def diskKeepsRow : OpenClaim := { program := "ytoeeilbpgckhlaa", sum := "c4c7edb41e08f6c19f91c982ee98138577d012f52861be9ce0f95a68e1ada056", func := "belfry/belfrylaw10.DiskKeeps", spec := "diskKeeps", unfollowed := true, recurses := true, apart := false }
def DiskKeepsSaid : Prop := diskKeepsRow.holds Try.pinned (OpenSpec.ofChange diskKeepsSpec)

/-- ITS FALSE NEIGHBOUR: 'it returns false'. Refute it at one input. -/
def diskKeepsWrong : ChangeSpec := { name := "diskKeeps", fn := fun _ => fun
  | [d1, d2, d3] => { results := [.lit (.bool false)], args := [d1, d2, d3] }
  | _ => none }
def DiskKeepsWrongFalsely : Prop := diskKeepsRow.holds Try.pinned (OpenSpec.ofChange diskKeepsWrong)

/- THE SECOND FORM. 'bulk': how many values and letters a reading holds, each counted each time it is reached (what is shared counts as often as it is met; a slice's spare places count too). A statement '..UptoSaid' is the law's where the arguments, and the package variables that the reading takes, are together of bulk at most 1048576: NARROWER than '..Said'. Prove '..Said' where nothing that the law and all that it calls make is longer than what came in: it says more and counts as full. Else prove '..UptoSaid'. A law counts once. -/
mutual
def uptoBulk {H : Type} : DataW H → Nat
  | .lit (.string bytes) => bytes.length + 1
  | .lit _ => 1
  | .nil => 1
  | .ptr d => uptoBulk d + 1
  | .slice elems spare => uptoBulkAll elems + uptoBulkAll spare + 1
  | .agg parts => uptoBulkAll parts + 1
  | .iface _ d => uptoBulk d + 1
  | .map entries => uptoBulkEntries entries + 1
  | .held _ => 1
def uptoBulkAll {H : Type} : List (DataW H) → Nat
  | [] => 0
  | d :: r => uptoBulk d + uptoBulkAll r
def uptoBulkEntries {H : Type} : List (Lit × DataW H) → Nat
  | [] => 0
  | x :: r => uptoBulkEntry x + uptoBulkEntries r
def uptoBulkEntry {H : Type} : Lit × DataW H → Nat
  | (.string bytes, d) => bytes.length + uptoBulk d + 1
  | (_, d) => uptoBulk d + 1
 end
def uptoSmall : (H : Type) → List (DataW H) → Bool := fun _ ds => decide (uptoBulkAll ds ≤ 1048576)
def OpenSpec.upto (s : _root_.Go.ChangeSpec) : _root_.Go.OpenSpec := { _root_.Go.OpenSpec.ofChange s with cond := some uptoSmall }

/-- 'belfrylaw19.AlertPlays', WHERE WHAT IT READS IS OF BULK AT MOST 1048576: true; the input reads as it did. -/
def alertPlaysUptoRow : OpenClaim := { program := "ytoeeilbpgckhlaa", sum := "c4c7edb41e08f6c19f91c982ee98138577d012f52861be9ce0f95a68e1ada056", func := "belfry/belfrylaw19.AlertPlays", spec := "alertPlays", apart := false, narrowed := true }
def AlertPlaysUptoSaid : Prop := alertPlaysUptoRow.holds Try.pinned (OpenSpec.upto alertPlaysSpec)

/-- 'belfrylaw19.AlertAny', WHERE WHAT IT READS IS OF BULK AT MOST 1048576: true; the input reads as it did. -/
def alertAnyUptoRow : OpenClaim := { program := "ytoeeilbpgckhlaa", sum := "c4c7edb41e08f6c19f91c982ee98138577d012f52861be9ce0f95a68e1ada056", func := "belfry/belfrylaw19.AlertAny", spec := "alertAny", apart := false, narrowed := true }
def AlertAnyUptoSaid : Prop := alertAnyUptoRow.holds Try.pinned (OpenSpec.upto alertAnySpec)

/-- 'belfrylaw19.AlertWaits', WHERE WHAT IT READS IS OF BULK AT MOST 1048576: true; the input reads as it did. -/
def alertWaitsUptoRow : OpenClaim := { program := "ytoeeilbpgckhlaa", sum := "c4c7edb41e08f6c19f91c982ee98138577d012f52861be9ce0f95a68e1ada056", func := "belfry/belfrylaw19.AlertWaits", spec := "alertWaits", apart := false, narrowed := true }
def AlertWaitsUptoSaid : Prop := alertWaitsUptoRow.holds Try.pinned (OpenSpec.upto alertWaitsSpec)

/-- 'belfrylaw19.AlertTurns', WHERE WHAT IT READS IS OF BULK AT MOST 1048576: true; the input reads as it did. -/
def alertTurnsUptoRow : OpenClaim := { program := "ytoeeilbpgckhlaa", sum := "c4c7edb41e08f6c19f91c982ee98138577d012f52861be9ce0f95a68e1ada056", func := "belfry/belfrylaw19.AlertTurns", spec := "alertTurns", apart := false, narrowed := true }
def AlertTurnsUptoSaid : Prop := alertTurnsUptoRow.holds Try.pinned (OpenSpec.upto alertTurnsSpec)

/-- 'belfrylaw13.HistAny', WHERE WHAT IT READS IS OF BULK AT MOST 1048576: true; the input reads as it did. -/
def histAnyUptoRow : OpenClaim := { program := "ytoeeilbpgckhlaa", sum := "c4c7edb41e08f6c19f91c982ee98138577d012f52861be9ce0f95a68e1ada056", func := "belfry/belfrylaw13.HistAny", spec := "histAny", unfollowed := true, recurses := true, apart := false, narrowed := true }
def HistAnyUptoSaid : Prop := histAnyUptoRow.holds Try.pinned (OpenSpec.upto histAnySpec)

/-- 'belfrylaw13.HistCounts', WHERE WHAT IT READS IS OF BULK AT MOST 1048576: true; the input reads as it did. -/
def histCountsUptoRow : OpenClaim := { program := "ytoeeilbpgckhlaa", sum := "c4c7edb41e08f6c19f91c982ee98138577d012f52861be9ce0f95a68e1ada056", func := "belfry/belfrylaw13.HistCounts", spec := "histCounts", unfollowed := true, recurses := true, apart := false, narrowed := true }
def HistCountsUptoSaid : Prop := histCountsUptoRow.holds Try.pinned (OpenSpec.upto histCountsSpec)

/-- 'belfrylaw13.HistBounds', WHERE WHAT IT READS IS OF BULK AT MOST 1048576: true; the input reads as it did. -/
def histBoundsUptoRow : OpenClaim := { program := "ytoeeilbpgckhlaa", sum := "c4c7edb41e08f6c19f91c982ee98138577d012f52861be9ce0f95a68e1ada056", func := "belfry/belfrylaw13.HistBounds", spec := "histBounds", unfollowed := true, recurses := true, apart := false, narrowed := true }
def HistBoundsUptoSaid : Prop := histBoundsUptoRow.holds Try.pinned (OpenSpec.upto histBoundsSpec)

/-- 'belfrylaw13.HistRanks', WHERE WHAT IT READS IS OF BULK AT MOST 1048576: true; the input reads as it did. -/
def histRanksUptoRow : OpenClaim := { program := "ytoeeilbpgckhlaa", sum := "c4c7edb41e08f6c19f91c982ee98138577d012f52861be9ce0f95a68e1ada056", func := "belfry/belfrylaw13.HistRanks", spec := "histRanks", unfollowed := true, recurses := true, apart := false, narrowed := true }
def HistRanksUptoSaid : Prop := histRanksUptoRow.holds Try.pinned (OpenSpec.upto histRanksSpec)

/-- 'belfrylaw16.QueuePlays', WHERE WHAT IT READS IS OF BULK AT MOST 1048576: true; the input reads as it did. -/
def queuePlaysUptoRow : OpenClaim := { program := "ytoeeilbpgckhlaa", sum := "c4c7edb41e08f6c19f91c982ee98138577d012f52861be9ce0f95a68e1ada056", func := "belfry/belfrylaw16.QueuePlays", spec := "queuePlays", unfollowed := true, recurses := true, apart := false, narrowed := true }
def QueuePlaysUptoSaid : Prop := queuePlaysUptoRow.holds Try.pinned (OpenSpec.upto queuePlaysSpec)

/-- 'belfrylaw16.QueueNumbers', WHERE WHAT IT READS IS OF BULK AT MOST 1048576: true; the input reads as it did. -/
def queueNumbersUptoRow : OpenClaim := { program := "ytoeeilbpgckhlaa", sum := "c4c7edb41e08f6c19f91c982ee98138577d012f52861be9ce0f95a68e1ada056", func := "belfry/belfrylaw16.QueueNumbers", spec := "queueNumbers", unfollowed := true, recurses := true, apart := false, narrowed := true }
def QueueNumbersUptoSaid : Prop := queueNumbersUptoRow.holds Try.pinned (OpenSpec.upto queueNumbersSpec)

/-- 'belfrylaw16.QueueFull', WHERE WHAT IT READS IS OF BULK AT MOST 1048576: true; the input reads as it did. -/
def queueFullUptoRow : OpenClaim := { program := "ytoeeilbpgckhlaa", sum := "c4c7edb41e08f6c19f91c982ee98138577d012f52861be9ce0f95a68e1ada056", func := "belfry/belfrylaw16.QueueFull", spec := "queueFull", unfollowed := true, recurses := true, apart := false, narrowed := true }
def QueueFullUptoSaid : Prop := queueFullUptoRow.holds Try.pinned (OpenSpec.upto queueFullSpec)

/-- 'belfrylaw10.DiskKeeps', WHERE WHAT IT READS IS OF BULK AT MOST 1048576: true; the input reads as it did. -/
def diskKeepsUptoRow : OpenClaim := { program := "ytoeeilbpgckhlaa", sum := "c4c7edb41e08f6c19f91c982ee98138577d012f52861be9ce0f95a68e1ada056", func := "belfry/belfrylaw10.DiskKeeps", spec := "diskKeeps", unfollowed := true, recurses := true, apart := false, narrowed := true }
def DiskKeepsUptoSaid : Prop := diskKeepsUptoRow.holds Try.pinned (OpenSpec.upto diskKeepsSpec)

end Rows
end Go.Proofs.Ytoeeilbpgckhlaa
