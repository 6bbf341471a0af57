/-
  No cell of these rows narrows 'for every input' (looked for: loops, veiled, ifaces, maps, wideKeys, modest, calm, conditions, laid).
  DERIVED. THE GIVEN ROWS OF THIS SEAT. 5 by the template 'for every input the law returns true; each argument reads behind the call as it read before'; 0 by the template 'total and deterministic' (their statements: YtocchdbmeokmhaaTotals.lean).
  GIVEN WITH THE SEED: the statements are not yours to turn. If you find one false, say at which input.
  Laid BY PROGRAM, IN A SANDBOX (cutbox-rows.mjs): the forced cells as the released guide's own fill.sh prints them over the translation 6087fe3e88d8b092… (all of the seat's roots in one cut). By AI agents, Wed Nov 11 2026. No macro, syntax, notation, axiom, sorry.
-/
import Derived.Test.YtocchdbmeokmhaaChecked
import GoSem.Claim
import GoSem.ClaimJoined
import GoSem.ClaimMapViews
import Derived.JoinedTies
import Derived.KernelRfl
namespace Go.Proofs.Ytocchdbmeokmhaa
/- THE CELL 'sum', in the pinned program and in every row, IS THE sha256 OF THE DUMP (.gsa) THAT YtocchdbmeokmhaaProg.lean LOADS. Nothing in Lean hashes anything: it is a label: what it is worth is what the hold of that sum in a sandbox is worth. -/
noncomputable def Try.pinned : Pinned := { name := "ytocchdbmeokmhaa", sum := "6087fe3e88d8b092e5d85b23abf5e281fdbe0ced8dc97b4d0558bc7d78125501", checked := Try.checked }
namespace Rows
def none {H : Type} : Left H := { results := [], args := [] }

/-- 'turnstilelaw05.WindowAll': WHATEVER THE INPUT: true; the input reads as it did. -/
def windowAllSpec : ChangeSpec := { name := "windowAll", fn := fun _ => fun
  | [d] => { results := [.lit (.bool true)], args := [d] }
  | _ => none }
def windowAllRow : OpenClaim := { program := "ytocchdbmeokmhaa", sum := "6087fe3e88d8b092e5d85b23abf5e281fdbe0ced8dc97b4d0558bc7d78125501", func := "turnstile/turnstilelaw05.WindowAll", spec := "windowAll", apart := false }
def WindowAllSaid : Prop := windowAllRow.holds Try.pinned (OpenSpec.ofChange windowAllSpec)

/-- ITS FALSE NEIGHBOUR: 'it returns false'. Refute it at one input. -/
def windowAllWrong : ChangeSpec := { name := "windowAll", fn := fun _ => fun
  | [d] => { results := [.lit (.bool false)], args := [d] }
  | _ => none }
def WindowAllWrongFalsely : Prop := windowAllRow.holds Try.pinned (OpenSpec.ofChange windowAllWrong)

/-- 'turnstilelaw05.WindowLeast': WHATEVER THE INPUT: true; the input reads as it did. -/
def windowLeastSpec : ChangeSpec := { name := "windowLeast", fn := fun _ => fun
  | [d1, d2] => { results := [.lit (.bool true)], args := [d1, d2] }
  | _ => none }
def windowLeastRow : OpenClaim := { program := "ytocchdbmeokmhaa", sum := "6087fe3e88d8b092e5d85b23abf5e281fdbe0ced8dc97b4d0558bc7d78125501", func := "turnstile/turnstilelaw05.WindowLeast", spec := "windowLeast", apart := false }
def WindowLeastSaid : Prop := windowLeastRow.holds Try.pinned (OpenSpec.ofChange windowLeastSpec)

/-- ITS FALSE NEIGHBOUR: 'it returns false'. Refute it at one input. -/
def windowLeastWrong : ChangeSpec := { name := "windowLeast", fn := fun _ => fun
  | [d1, d2] => { results := [.lit (.bool false)], args := [d1, d2] }
  | _ => none }
def WindowLeastWrongFalsely : Prop := windowLeastRow.holds Try.pinned (OpenSpec.ofChange windowLeastWrong)

/-- 'turnstilelaw05.WindowMost': WHATEVER THE INPUT: true; the input reads as it did. -/
def windowMostSpec : ChangeSpec := { name := "windowMost", fn := fun _ => fun
  | [d1, d2] => { results := [.lit (.bool true)], args := [d1, d2] }
  | _ => none }
def windowMostRow : OpenClaim := { program := "ytocchdbmeokmhaa", sum := "6087fe3e88d8b092e5d85b23abf5e281fdbe0ced8dc97b4d0558bc7d78125501", func := "turnstile/turnstilelaw05.WindowMost", spec := "windowMost", apart := false }
def WindowMostSaid : Prop := windowMostRow.holds Try.pinned (OpenSpec.ofChange windowMostSpec)

/-- ITS FALSE NEIGHBOUR: 'it returns false'. Refute it at one input. -/
def windowMostWrong : ChangeSpec := { name := "windowMost", fn := fun _ => fun
  | [d1, d2] => { results := [.lit (.bool false)], args := [d1, d2] }
  | _ => none }
def WindowMostWrongFalsely : Prop := windowMostRow.holds Try.pinned (OpenSpec.ofChange windowMostWrong)

/-- 'turnstilelaw05.WindowStarts': WHATEVER THE INPUT: true; the input reads as it did. -/
def windowStartsSpec : ChangeSpec := { name := "windowStarts", fn := fun _ => fun
  | [d1, d2, d3] => { results := [.lit (.bool true)], args := [d1, d2, d3] }
  | _ => none }
def windowStartsRow : OpenClaim := { program := "ytocchdbmeokmhaa", sum := "6087fe3e88d8b092e5d85b23abf5e281fdbe0ced8dc97b4d0558bc7d78125501", func := "turnstile/turnstilelaw05.WindowStarts", spec := "windowStarts", apart := false }
def WindowStartsSaid : Prop := windowStartsRow.holds Try.pinned (OpenSpec.ofChange windowStartsSpec)

/-- ITS FALSE NEIGHBOUR: 'it returns false'. Refute it at one input. -/
def windowStartsWrong : ChangeSpec := { name := "windowStarts", fn := fun _ => fun
  | [d1, d2, d3] => { results := [.lit (.bool false)], args := [d1, d2, d3] }
  | _ => none }
def WindowStartsWrongFalsely : Prop := windowStartsRow.holds Try.pinned (OpenSpec.ofChange windowStartsWrong)

/-- 'turnstilelaw05.WindowSums': WHATEVER THE INPUT: true; the input reads as it did. -/
def windowSumsSpec : ChangeSpec := { name := "windowSums", fn := fun _ => fun
  | [d1, d2, d3] => { results := [.lit (.bool true)], args := [d1, d2, d3] }
  | _ => none }
def windowSumsRow : OpenClaim := { program := "ytocchdbmeokmhaa", sum := "6087fe3e88d8b092e5d85b23abf5e281fdbe0ced8dc97b4d0558bc7d78125501", func := "turnstile/turnstilelaw05.WindowSums", spec := "windowSums", apart := false }
def WindowSumsSaid : Prop := windowSumsRow.holds Try.pinned (OpenSpec.ofChange windowSumsSpec)

/-- ITS FALSE NEIGHBOUR: 'it returns false'. Refute it at one input. -/
def windowSumsWrong : ChangeSpec := { name := "windowSums", fn := fun _ => fun
  | [d1, d2, d3] => { results := [.lit (.bool false)], args := [d1, d2, d3] }
  | _ => none }
def WindowSumsWrongFalsely : Prop := windowSumsRow.holds Try.pinned (OpenSpec.ofChange windowSumsWrong)

/- THE SECOND FORM. 'bulk': how many values and letters a reading holds, each counted each time it is reached (what is shared counts as often as it is met; a slice's spare places count too). A statement '..UptoSaid' is the law's where the arguments, and the package variables that the reading takes, are together of bulk at most 1048576: NARROWER than '..Said'. Prove '..Said' where nothing that the law and all that it calls make is longer than what came in: it says more and counts as full. Else prove '..UptoSaid'. A law counts once. -/
mutual
def uptoBulk {H : Type} : DataW H → Nat
  | .lit (.string bytes) => bytes.length + 1
  | .lit _ => 1
  | .nil => 1
  | .ptr d => uptoBulk d + 1
  | .slice elems spare => uptoBulkAll elems + uptoBulkAll spare + 1
  | .agg parts => uptoBulkAll parts + 1
  | .iface _ d => uptoBulk d + 1
  | .map entries => uptoBulkEntries entries + 1
  | .held _ => 1
def uptoBulkAll {H : Type} : List (DataW H) → Nat
  | [] => 0
  | d :: r => uptoBulk d + uptoBulkAll r
def uptoBulkEntries {H : Type} : List (Lit × DataW H) → Nat
  | [] => 0
  | x :: r => uptoBulkEntry x + uptoBulkEntries r
def uptoBulkEntry {H : Type} : Lit × DataW H → Nat
  | (.string bytes, d) => bytes.length + uptoBulk d + 1
  | (_, d) => uptoBulk d + 1
 end
def uptoSmall : (H : Type) → List (DataW H) → Bool := fun _ ds => decide (uptoBulkAll ds ≤ 1048576)
def OpenSpec.upto (s : _root_.Go.ChangeSpec) : _root_.Go.OpenSpec := { _root_.Go.OpenSpec.ofChange s with cond := some uptoSmall }

/-- 'turnstilelaw05.WindowAll', WHERE WHAT IT READS IS OF BULK AT MOST 1048576: true; the input reads as it did. -/
def windowAllUptoRow : OpenClaim := { program := "ytocchdbmeokmhaa", sum := "6087fe3e88d8b092e5d85b23abf5e281fdbe0ced8dc97b4d0558bc7d78125501", func := "turnstile/turnstilelaw05.WindowAll", spec := "windowAll", apart := false, narrowed := true }
def WindowAllUptoSaid : Prop := windowAllUptoRow.holds Try.pinned (OpenSpec.upto windowAllSpec)

/-- 'turnstilelaw05.WindowLeast', WHERE WHAT IT READS IS OF BULK AT MOST 1048576: true; the input reads as it did. -/
def windowLeastUptoRow : OpenClaim := { program := "ytocchdbmeokmhaa", sum := "6087fe3e88d8b092e5d85b23abf5e281fdbe0ced8dc97b4d0558bc7d78125501", func := "turnstile/turnstilelaw05.WindowLeast", spec := "windowLeast", apart := false, narrowed := true }
def WindowLeastUptoSaid : Prop := windowLeastUptoRow.holds Try.pinned (OpenSpec.upto windowLeastSpec)

/-- 'turnstilelaw05.WindowMost', WHERE WHAT IT READS IS OF BULK AT MOST 1048576: true; the input reads as it did. -/
def windowMostUptoRow : OpenClaim := { program := "ytocchdbmeokmhaa", sum := "6087fe3e88d8b092e5d85b23abf5e281fdbe0ced8dc97b4d0558bc7d78125501", func := "turnstile/turnstilelaw05.WindowMost", spec := "windowMost", apart := false, narrowed := true }
def WindowMostUptoSaid : Prop := windowMostUptoRow.holds Try.pinned (OpenSpec.upto windowMostSpec)

/-- 'turnstilelaw05.WindowStarts', WHERE WHAT IT READS IS OF BULK AT MOST 1048576: true; the input reads as it did. -/
def windowStartsUptoRow : OpenClaim := { program := "ytocchdbmeokmhaa", sum := "6087fe3e88d8b092e5d85b23abf5e281fdbe0ced8dc97b4d0558bc7d78125501", func := "turnstile/turnstilelaw05.WindowStarts", spec := "windowStarts", apart := false, narrowed := true }
def WindowStartsUptoSaid : Prop := windowStartsUptoRow.holds Try.pinned (OpenSpec.upto windowStartsSpec)

/-- 'turnstilelaw05.WindowSums', WHERE WHAT IT READS IS OF BULK AT MOST 1048576: true; the input reads as it did. -/
def windowSumsUptoRow : OpenClaim := { program := "ytocchdbmeokmhaa", sum := "6087fe3e88d8b092e5d85b23abf5e281fdbe0ced8dc97b4d0558bc7d78125501", func := "turnstile/turnstilelaw05.WindowSums", spec := "windowSums", apart := false, narrowed := true }
def WindowSumsUptoSaid : Prop := windowSumsUptoRow.holds Try.pinned (OpenSpec.upto windowSumsSpec)

end Rows
end Go.Proofs.Ytocchdbmeokmhaa
