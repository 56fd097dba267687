/-
  No cell of these rows narrows 'for every input' (looked for: loops, veiled, ifaces, maps, wideKeys, modest, calm, conditions, laid).
  DERIVED. THE GIVEN ROWS OF THIS SEAT. 4 by the template 'for every input the law returns true; each argument reads behind the call as it read before'; 0 by the template 'total and deterministic' (their statements: YtcchcifcfcpjiaaTotals.lean).
  GIVEN WITH THE SEED: the statements are not yours to turn. If you find one false, say at which input.
  Laid BY PROGRAM, IN A SANDBOX (cutbox-rows.mjs): the forced cells as the released guide's own fill.sh prints them over the translation 34bcb23d5a1bfb5b… (all of the seat's roots in one cut). By AI agents, Wed Nov 11 2026. No macro, syntax, notation, axiom, sorry.
-/
import Derived.Test.YtcchcifcfcpjiaaChecked
import GoSem.Claim
import GoSem.ClaimJoined
import GoSem.ClaimMapViews
import Derived.JoinedTies
import Derived.KernelRfl
namespace Go.Proofs.Ytcchcifcfcpjiaa
/- THE CELL 'sum', in the pinned program and in every row, IS THE sha256 OF THE DUMP (.gsa) THAT YtcchcifcfcpjiaaProg.lean LOADS. Nothing in Lean hashes anything: it is a label: what it is worth is what the hold of that sum in a sandbox is worth. -/
noncomputable def Try.pinned : Pinned := { name := "ytcchcifcfcpjiaa", sum := "34bcb23d5a1bfb5b29242edc47e1e455430a3ab3bbf65a864b5594de99aee546", checked := Try.checked }
namespace Rows
def none {H : Type} : Left H := { results := [], args := [] }

/-- 'rhizomelaw05.ImagePlays': WHATEVER THE INPUT: true; the input reads as it did. -/
def imagePlaysSpec : ChangeSpec := { name := "imagePlays", fn := fun _ => fun
  | [d1, d2] => { results := [.lit (.bool true)], args := [d1, d2] }
  | _ => none }
def imagePlaysRow : OpenClaim := { program := "ytcchcifcfcpjiaa", sum := "34bcb23d5a1bfb5b29242edc47e1e455430a3ab3bbf65a864b5594de99aee546", func := "rhizome/rhizomelaw05.ImagePlays", spec := "imagePlays", inPlace := ["maps.clone"], unfollowed := true, recurses := true, plainKeys := false, apart := false }
def ImagePlaysSaid : Prop := imagePlaysRow.holds Try.pinned (OpenSpec.ofChange imagePlaysSpec)

/-- ITS FALSE NEIGHBOUR: 'it returns false'. Refute it at one input. -/
def imagePlaysWrong : ChangeSpec := { name := "imagePlays", fn := fun _ => fun
  | [d1, d2] => { results := [.lit (.bool false)], args := [d1, d2] }
  | _ => none }
def ImagePlaysWrongFalsely : Prop := imagePlaysRow.holds Try.pinned (OpenSpec.ofChange imagePlaysWrong)

/-- 'rhizomelaw11.JoinRows': WHATEVER THE INPUT: true; the input reads as it did. -/
def joinRowsSpec : ChangeSpec := { name := "joinRows", fn := fun _ => fun
  | [d1, d2] => { results := [.lit (.bool true)], args := [d1, d2] }
  | _ => none }
def joinRowsRow : OpenClaim := { program := "ytcchcifcfcpjiaa", sum := "34bcb23d5a1bfb5b29242edc47e1e455430a3ab3bbf65a864b5594de99aee546", func := "rhizome/rhizomelaw11.JoinRows", spec := "joinRows", unfollowed := true, recurses := true, plainKeys := false, apart := false }
def JoinRowsSaid : Prop := joinRowsRow.holds Try.pinned (OpenSpec.ofChange joinRowsSpec)

/-- ITS FALSE NEIGHBOUR: 'it returns false'. Refute it at one input. -/
def joinRowsWrong : ChangeSpec := { name := "joinRows", fn := fun _ => fun
  | [d1, d2] => { results := [.lit (.bool false)], args := [d1, d2] }
  | _ => none }
def JoinRowsWrongFalsely : Prop := joinRowsRow.holds Try.pinned (OpenSpec.ofChange joinRowsWrong)

/-- 'rhizomelaw11.JoinHolds': WHATEVER THE INPUT: true; the input reads as it did. -/
def joinHoldsSpec : ChangeSpec := { name := "joinHolds", fn := fun _ => fun
  | [d1, d2, d3] => { results := [.lit (.bool true)], args := [d1, d2, d3] }
  | _ => none }
def joinHoldsRow : OpenClaim := { program := "ytcchcifcfcpjiaa", sum := "34bcb23d5a1bfb5b29242edc47e1e455430a3ab3bbf65a864b5594de99aee546", func := "rhizome/rhizomelaw11.JoinHolds", spec := "joinHolds", unfollowed := true, recurses := true, plainKeys := false, apart := false }
def JoinHoldsSaid : Prop := joinHoldsRow.holds Try.pinned (OpenSpec.ofChange joinHoldsSpec)

/-- ITS FALSE NEIGHBOUR: 'it returns false'. Refute it at one input. -/
def joinHoldsWrong : ChangeSpec := { name := "joinHolds", fn := fun _ => fun
  | [d1, d2, d3] => { results := [.lit (.bool false)], args := [d1, d2, d3] }
  | _ => none }
def JoinHoldsWrongFalsely : Prop := joinHoldsRow.holds Try.pinned (OpenSpec.ofChange joinHoldsWrong)

/-- 'rhizomelaw13.SpanRow': WHATEVER THE INPUT: true; the input reads as it did. -/
def spanRowSpec : ChangeSpec := { name := "spanRow", fn := fun _ => fun
  | [d1, d2, d3] => { results := [.lit (.bool true)], args := [d1, d2, d3] }
  | _ => none }
def spanRowRow : OpenClaim := { program := "ytcchcifcfcpjiaa", sum := "34bcb23d5a1bfb5b29242edc47e1e455430a3ab3bbf65a864b5594de99aee546", func := "rhizome/rhizomelaw13.SpanRow", spec := "spanRow", unfollowed := true, recurses := true, plainKeys := false, apart := false }
def SpanRowSaid : Prop := spanRowRow.holds Try.pinned (OpenSpec.ofChange spanRowSpec)

/-- ITS FALSE NEIGHBOUR: 'it returns false'. Refute it at one input. -/
def spanRowWrong : ChangeSpec := { name := "spanRow", fn := fun _ => fun
  | [d1, d2, d3] => { results := [.lit (.bool false)], args := [d1, d2, d3] }
  | _ => none }
def SpanRowWrongFalsely : Prop := spanRowRow.holds Try.pinned (OpenSpec.ofChange spanRowWrong)

/- THE SECOND FORM. 'bulk': how many values and letters a reading holds, each counted each time it is reached (what is shared counts as often as it is met; a slice's spare places count too). A statement '..UptoSaid' is the law's where the arguments, and the package variables that the reading takes, are together of bulk at most 1048576: NARROWER than '..Said'. Prove '..Said' where nothing that the law and all that it calls make is longer than what came in: it says more and counts as full. Else prove '..UptoSaid'. A law counts once. -/
mutual
def uptoBulk {H : Type} : DataW H → Nat
  | .lit (.string bytes) => bytes.length + 1
  | .lit _ => 1
  | .nil => 1
  | .ptr d => uptoBulk d + 1
  | .slice elems spare => uptoBulkAll elems + uptoBulkAll spare + 1
  | .agg parts => uptoBulkAll parts + 1
  | .iface _ d => uptoBulk d + 1
  | .map entries => uptoBulkEntries entries + 1
  | .held _ => 1
def uptoBulkAll {H : Type} : List (DataW H) → Nat
  | [] => 0
  | d :: r => uptoBulk d + uptoBulkAll r
def uptoBulkEntries {H : Type} : List (Lit × DataW H) → Nat
  | [] => 0
  | x :: r => uptoBulkEntry x + uptoBulkEntries r
def uptoBulkEntry {H : Type} : Lit × DataW H → Nat
  | (.string bytes, d) => bytes.length + uptoBulk d + 1
  | (_, d) => uptoBulk d + 1
 end
def uptoSmall : (H : Type) → List (DataW H) → Bool := fun _ ds => decide (uptoBulkAll ds ≤ 1048576)
def OpenSpec.upto (s : _root_.Go.ChangeSpec) : _root_.Go.OpenSpec := { _root_.Go.OpenSpec.ofChange s with cond := some uptoSmall }

/-- 'rhizomelaw05.ImagePlays', WHERE WHAT IT READS IS OF BULK AT MOST 1048576: true; the input reads as it did. -/
def imagePlaysUptoRow : OpenClaim := { program := "ytcchcifcfcpjiaa", sum := "34bcb23d5a1bfb5b29242edc47e1e455430a3ab3bbf65a864b5594de99aee546", func := "rhizome/rhizomelaw05.ImagePlays", spec := "imagePlays", inPlace := ["maps.clone"], unfollowed := true, recurses := true, plainKeys := false, apart := false, narrowed := true }
def ImagePlaysUptoSaid : Prop := imagePlaysUptoRow.holds Try.pinned (OpenSpec.upto imagePlaysSpec)

/-- 'rhizomelaw11.JoinRows', WHERE WHAT IT READS IS OF BULK AT MOST 1048576: true; the input reads as it did. -/
def joinRowsUptoRow : OpenClaim := { program := "ytcchcifcfcpjiaa", sum := "34bcb23d5a1bfb5b29242edc47e1e455430a3ab3bbf65a864b5594de99aee546", func := "rhizome/rhizomelaw11.JoinRows", spec := "joinRows", unfollowed := true, recurses := true, plainKeys := false, apart := false, narrowed := true }
def JoinRowsUptoSaid : Prop := joinRowsUptoRow.holds Try.pinned (OpenSpec.upto joinRowsSpec)

/-- 'rhizomelaw11.JoinHolds', WHERE WHAT IT READS IS OF BULK AT MOST 1048576: true; the input reads as it did. -/
def joinHoldsUptoRow : OpenClaim := { program := "ytcchcifcfcpjiaa", sum := "34bcb23d5a1bfb5b29242edc47e1e455430a3ab3bbf65a864b5594de99aee546", func := "rhizome/rhizomelaw11.JoinHolds", spec := "joinHolds", unfollowed := true, recurses := true, plainKeys := false, apart := false, narrowed := true }
def JoinHoldsUptoSaid : Prop := joinHoldsUptoRow.holds Try.pinned (OpenSpec.upto joinHoldsSpec)

/-- 'rhizomelaw13.SpanRow', WHERE WHAT IT READS IS OF BULK AT MOST 1048576: true; the input reads as it did. -/
def spanRowUptoRow : OpenClaim := { program := "ytcchcifcfcpjiaa", sum := "34bcb23d5a1bfb5b29242edc47e1e455430a3ab3bbf65a864b5594de99aee546", func := "rhizome/rhizomelaw13.SpanRow", spec := "spanRow", unfollowed := true, recurses := true, plainKeys := false, apart := false, narrowed := true }
def SpanRowUptoSaid : Prop := spanRowUptoRow.holds Try.pinned (OpenSpec.upto spanRowSpec)

end Rows
end Go.Proofs.Ytcchcifcfcpjiaa
