/-
  No cell of these rows narrows 'for every input' (looked for: loops, veiled, ifaces, maps, wideKeys, modest, calm, conditions, laid).
  DERIVED. THE GIVEN ROWS OF THIS SEAT. 5 by the template 'for every input the law returns true; each argument reads behind the call as it read before'; 0 by the template 'total and deterministic' (their statements: YtenkglbnlealbaaTotals.lean).
  GIVEN WITH THE SEED: the statements are not yours to turn. If you find one false, say at which input.
  Laid BY PROGRAM, IN A SANDBOX (cutbox-rows.mjs): the forced cells as the released guide's own fill.sh prints them over the translation 06c8e863ccf12c23… (all of the seat's roots in one cut). By AI agents, Wed Nov 11 2026. No macro, syntax, notation, axiom, sorry.
-/
import Derived.Test.YtenkglbnlealbaaChecked
import GoSem.Claim
import GoSem.ClaimJoined
import GoSem.ClaimMapViews
import Derived.JoinedTies
import Derived.KernelRfl
namespace Go.Proofs.Ytenkglbnlealbaa
/- THE CELL 'sum', in the pinned program and in every row, IS THE sha256 OF THE DUMP (.gsa) THAT YtenkglbnlealbaaProg.lean LOADS. Nothing in Lean hashes anything: it is a label: what it is worth is what the hold of that sum in a sandbox is worth. -/
noncomputable def Try.pinned : Pinned := { name := "ytenkglbnlealbaa", sum := "06c8e863ccf12c2369859bdd8cbb5b2eabd905cf8db89729cfa68a26221a5c11", checked := Try.checked }
namespace Rows
def none {H : Type} : Left H := { results := [], args := [] }

/-- 'lessorlaw18.OutboxOnce': WHATEVER THE INPUT: true; the input reads as it did. -/
def outboxOnceSpec : ChangeSpec := { name := "outboxOnce", fn := fun _ => fun
  | [d] => { results := [.lit (.bool true)], args := [d] }
  | _ => none }
def outboxOnceRow : OpenClaim := { program := "ytenkglbnlealbaa", sum := "06c8e863ccf12c2369859bdd8cbb5b2eabd905cf8db89729cfa68a26221a5c11", func := "lessor/lessorlaw18.OutboxOnce", spec := "outboxOnce", unfollowed := true, recurses := true, apart := false }
def OutboxOnceSaid : Prop := outboxOnceRow.holds Try.pinned (OpenSpec.ofChange outboxOnceSpec)

/-- ITS FALSE NEIGHBOUR: 'it returns false'. Refute it at one input. -/
def outboxOnceWrong : ChangeSpec := { name := "outboxOnce", fn := fun _ => fun
  | [d] => { results := [.lit (.bool false)], args := [d] }
  | _ => none }
def OutboxOnceWrongFalsely : Prop := outboxOnceRow.holds Try.pinned (OpenSpec.ofChange outboxOnceWrong)

/-- 'lessorlaw18.OutboxSeen': WHATEVER THE INPUT: true; the input reads as it did. -/
def outboxSeenSpec : ChangeSpec := { name := "outboxSeen", fn := fun _ => fun
  | [d1, d2] => { results := [.lit (.bool true)], args := [d1, d2] }
  | _ => none }
def outboxSeenRow : OpenClaim := { program := "ytenkglbnlealbaa", sum := "06c8e863ccf12c2369859bdd8cbb5b2eabd905cf8db89729cfa68a26221a5c11", func := "lessor/lessorlaw18.OutboxSeen", spec := "outboxSeen", unfollowed := true, recurses := true, apart := false }
def OutboxSeenSaid : Prop := outboxSeenRow.holds Try.pinned (OpenSpec.ofChange outboxSeenSpec)

/-- ITS FALSE NEIGHBOUR: 'it returns false'. Refute it at one input. -/
def outboxSeenWrong : ChangeSpec := { name := "outboxSeen", fn := fun _ => fun
  | [d1, d2] => { results := [.lit (.bool false)], args := [d1, d2] }
  | _ => none }
def OutboxSeenWrongFalsely : Prop := outboxSeenRow.holds Try.pinned (OpenSpec.ofChange outboxSeenWrong)

/-- 'lessorlaw18.OutboxLast': WHATEVER THE INPUT: true; the input reads as it did. -/
def outboxLastSpec : ChangeSpec := { name := "outboxLast", fn := fun _ => fun
  | [d] => { results := [.lit (.bool true)], args := [d] }
  | _ => none }
def outboxLastRow : OpenClaim := { program := "ytenkglbnlealbaa", sum := "06c8e863ccf12c2369859bdd8cbb5b2eabd905cf8db89729cfa68a26221a5c11", func := "lessor/lessorlaw18.OutboxLast", spec := "outboxLast", unfollowed := true, recurses := true, apart := false }
def OutboxLastSaid : Prop := outboxLastRow.holds Try.pinned (OpenSpec.ofChange outboxLastSpec)

/-- ITS FALSE NEIGHBOUR: 'it returns false'. Refute it at one input. -/
def outboxLastWrong : ChangeSpec := { name := "outboxLast", fn := fun _ => fun
  | [d] => { results := [.lit (.bool false)], args := [d] }
  | _ => none }
def OutboxLastWrongFalsely : Prop := outboxLastRow.holds Try.pinned (OpenSpec.ofChange outboxLastWrong)

/-- 'lessorlaw18.OutboxScripts': WHATEVER THE INPUT: true; the input reads as it did. -/
def outboxScriptsSpec : ChangeSpec := { name := "outboxScripts", fn := fun _ => fun
  | [d] => { results := [.lit (.bool true)], args := [d] }
  | _ => none }
def outboxScriptsRow : OpenClaim := { program := "ytenkglbnlealbaa", sum := "06c8e863ccf12c2369859bdd8cbb5b2eabd905cf8db89729cfa68a26221a5c11", func := "lessor/lessorlaw18.OutboxScripts", spec := "outboxScripts", unfollowed := true, recurses := true, apart := false }
def OutboxScriptsSaid : Prop := outboxScriptsRow.holds Try.pinned (OpenSpec.ofChange outboxScriptsSpec)

/-- ITS FALSE NEIGHBOUR: 'it returns false'. Refute it at one input. -/
def outboxScriptsWrong : ChangeSpec := { name := "outboxScripts", fn := fun _ => fun
  | [d] => { results := [.lit (.bool false)], args := [d] }
  | _ => none }
def OutboxScriptsWrongFalsely : Prop := outboxScriptsRow.holds Try.pinned (OpenSpec.ofChange outboxScriptsWrong)

/-- 'lessorlaw18.OutboxAnswers': WHATEVER THE INPUT: true; the input reads as it did. -/
def outboxAnswersSpec : ChangeSpec := { name := "outboxAnswers", fn := fun _ => fun
  | [d] => { results := [.lit (.bool true)], args := [d] }
  | _ => none }
def outboxAnswersRow : OpenClaim := { program := "ytenkglbnlealbaa", sum := "06c8e863ccf12c2369859bdd8cbb5b2eabd905cf8db89729cfa68a26221a5c11", func := "lessor/lessorlaw18.OutboxAnswers", spec := "outboxAnswers", unfollowed := true, recurses := true, apart := false }
def OutboxAnswersSaid : Prop := outboxAnswersRow.holds Try.pinned (OpenSpec.ofChange outboxAnswersSpec)

/-- ITS FALSE NEIGHBOUR: 'it returns false'. Refute it at one input. -/
def outboxAnswersWrong : ChangeSpec := { name := "outboxAnswers", fn := fun _ => fun
  | [d] => { results := [.lit (.bool false)], args := [d] }
  | _ => none }
def OutboxAnswersWrongFalsely : Prop := outboxAnswersRow.holds Try.pinned (OpenSpec.ofChange outboxAnswersWrong)

/- THE SECOND FORM. 'bulk': how many values and letters a reading holds, each counted each time it is reached (what is shared counts as often as it is met; a slice's spare places count too). A statement '..UptoSaid' is the law's where the arguments, and the package variables that the reading takes, are together of bulk at most 1048576: NARROWER than '..Said'. Prove '..Said' where nothing that the law and all that it calls make is longer than what came in: it says more and counts as full. Else prove '..UptoSaid'. A law counts once. -/
mutual
def uptoBulk {H : Type} : DataW H → Nat
  | .lit (.string bytes) => bytes.length + 1
  | .lit _ => 1
  | .nil => 1
  | .ptr d => uptoBulk d + 1
  | .slice elems spare => uptoBulkAll elems + uptoBulkAll spare + 1
  | .agg parts => uptoBulkAll parts + 1
  | .iface _ d => uptoBulk d + 1
  | .map entries => uptoBulkEntries entries + 1
  | .held _ => 1
def uptoBulkAll {H : Type} : List (DataW H) → Nat
  | [] => 0
  | d :: r => uptoBulk d + uptoBulkAll r
def uptoBulkEntries {H : Type} : List (Lit × DataW H) → Nat
  | [] => 0
  | x :: r => uptoBulkEntry x + uptoBulkEntries r
def uptoBulkEntry {H : Type} : Lit × DataW H → Nat
  | (.string bytes, d) => bytes.length + uptoBulk d + 1
  | (_, d) => uptoBulk d + 1
 end
def uptoSmall : (H : Type) → List (DataW H) → Bool := fun _ ds => decide (uptoBulkAll ds ≤ 1048576)
def OpenSpec.upto (s : _root_.Go.ChangeSpec) : _root_.Go.OpenSpec := { _root_.Go.OpenSpec.ofChange s with cond := some uptoSmall }

/-- 'lessorlaw18.OutboxOnce', WHERE WHAT IT READS IS OF BULK AT MOST 1048576: true; the input reads as it did. -/
def outboxOnceUptoRow : OpenClaim := { program := "ytenkglbnlealbaa", sum := "06c8e863ccf12c2369859bdd8cbb5b2eabd905cf8db89729cfa68a26221a5c11", func := "lessor/lessorlaw18.OutboxOnce", spec := "outboxOnce", unfollowed := true, recurses := true, apart := false, narrowed := true }
def OutboxOnceUptoSaid : Prop := outboxOnceUptoRow.holds Try.pinned (OpenSpec.upto outboxOnceSpec)

/-- 'lessorlaw18.OutboxSeen', WHERE WHAT IT READS IS OF BULK AT MOST 1048576: true; the input reads as it did. -/
def outboxSeenUptoRow : OpenClaim := { program := "ytenkglbnlealbaa", sum := "06c8e863ccf12c2369859bdd8cbb5b2eabd905cf8db89729cfa68a26221a5c11", func := "lessor/lessorlaw18.OutboxSeen", spec := "outboxSeen", unfollowed := true, recurses := true, apart := false, narrowed := true }
def OutboxSeenUptoSaid : Prop := outboxSeenUptoRow.holds Try.pinned (OpenSpec.upto outboxSeenSpec)

/-- 'lessorlaw18.OutboxLast', WHERE WHAT IT READS IS OF BULK AT MOST 1048576: true; the input reads as it did. -/
def outboxLastUptoRow : OpenClaim := { program := "ytenkglbnlealbaa", sum := "06c8e863ccf12c2369859bdd8cbb5b2eabd905cf8db89729cfa68a26221a5c11", func := "lessor/lessorlaw18.OutboxLast", spec := "outboxLast", unfollowed := true, recurses := true, apart := false, narrowed := true }
def OutboxLastUptoSaid : Prop := outboxLastUptoRow.holds Try.pinned (OpenSpec.upto outboxLastSpec)

/-- 'lessorlaw18.OutboxScripts', WHERE WHAT IT READS IS OF BULK AT MOST 1048576: true; the input reads as it did. -/
def outboxScriptsUptoRow : OpenClaim := { program := "ytenkglbnlealbaa", sum := "06c8e863ccf12c2369859bdd8cbb5b2eabd905cf8db89729cfa68a26221a5c11", func := "lessor/lessorlaw18.OutboxScripts", spec := "outboxScripts", unfollowed := true, recurses := true, apart := false, narrowed := true }
def OutboxScriptsUptoSaid : Prop := outboxScriptsUptoRow.holds Try.pinned (OpenSpec.upto outboxScriptsSpec)

/-- 'lessorlaw18.OutboxAnswers', WHERE WHAT IT READS IS OF BULK AT MOST 1048576: true; the input reads as it did. -/
def outboxAnswersUptoRow : OpenClaim := { program := "ytenkglbnlealbaa", sum := "06c8e863ccf12c2369859bdd8cbb5b2eabd905cf8db89729cfa68a26221a5c11", func := "lessor/lessorlaw18.OutboxAnswers", spec := "outboxAnswers", unfollowed := true, recurses := true, apart := false, narrowed := true }
def OutboxAnswersUptoSaid : Prop := outboxAnswersUptoRow.holds Try.pinned (OpenSpec.upto outboxAnswersSpec)

end Rows
end Go.Proofs.Ytenkglbnlealbaa
