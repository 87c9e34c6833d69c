/-
  No cell of these rows narrows 'for every input' (looked for: loops, veiled, ifaces, maps, wideKeys, modest, calm, conditions, laid).
  DERIVED. THE GIVEN ROWS OF THIS SEAT. 5 by the template 'for every input the law returns true; each argument reads behind the call as it read before'; 0 by the template 'total and deterministic' (their statements: YtkjklhcfgbaceaaGreatTotals.lean).
  GIVEN WITH THE SEED: the statements are not yours to turn. If you find one false, say at which input.
  Laid BY PROGRAM, IN A SANDBOX (cutbox-rows.mjs): the forced cells as the released guide's own fill.sh prints them over the translation c4ca3bcab0bd4005… (all of the seat's roots in one cut). By AI agents, Wed Nov 11 2026. No macro, syntax, notation, axiom, sorry.
-/
import Derived.Test.YtkjklhcfgbaceaaGreatChecked
import GoSem.Claim
import GoSem.ClaimJoined
import GoSem.ClaimMapViews
import Derived.JoinedTies
import Derived.KernelRfl
namespace Go.Proofs.YtkjklhcfgbaceaaGreat
/- THE CELL 'sum', in the pinned program and in every row, IS THE sha256 OF THE DUMP (.gsa) THAT YtkjklhcfgbaceaaGreatProg.lean LOADS. Nothing in Lean hashes anything: it is a label: what it is worth is what the hold of that sum in a sandbox is worth. -/
noncomputable def Tryz.pinned : Pinned := { name := "ytkjklhcfgbaceaagreat", sum := "c4ca3bcab0bd4005325b0bef91ac2dafe7ea9d121928bfc1163396bbe317fa49", checked := Tryz.checked }
namespace Rows
def none {H : Type} : Left H := { results := [], args := [] }

/-- 'quartermasterlaw23.ScrubBeyond': WHATEVER THE INPUT: true; the input reads as it did. -/
def scrubBeyondSpec : ChangeSpec := { name := "scrubBeyond", fn := fun _ => fun
  | [d1, d2, d3] => { results := [.lit (.bool true)], args := [d1, d2, d3] }
  | _ => none }
def scrubBeyondRow : OpenClaim := { program := "ytkjklhcfgbaceaagreat", sum := "c4ca3bcab0bd4005325b0bef91ac2dafe7ea9d121928bfc1163396bbe317fa49", func := "quartermaster/quartermasterlaw23.ScrubBeyond", spec := "scrubBeyond", unfollowed := true, recurses := true, apart := false }
def ScrubBeyondSaid : Prop := scrubBeyondRow.holds Tryz.pinned (OpenSpec.ofChange scrubBeyondSpec)

/-- ITS FALSE NEIGHBOUR: 'it returns false'. Refute it at one input. -/
def scrubBeyondWrong : ChangeSpec := { name := "scrubBeyond", fn := fun _ => fun
  | [d1, d2, d3] => { results := [.lit (.bool false)], args := [d1, d2, d3] }
  | _ => none }
def ScrubBeyondWrongFalsely : Prop := scrubBeyondRow.holds Tryz.pinned (OpenSpec.ofChange scrubBeyondWrong)

/-- 'quartermasterlaw23.ScrubWants': WHATEVER THE INPUT: true; the input reads as it did. -/
def scrubWantsSpec : ChangeSpec := { name := "scrubWants", fn := fun _ => fun
  | [d1, d2, d3, d4, d5] => { results := [.lit (.bool true)], args := [d1, d2, d3, d4, d5] }
  | _ => none }
def scrubWantsRow : OpenClaim := { program := "ytkjklhcfgbaceaagreat", sum := "c4ca3bcab0bd4005325b0bef91ac2dafe7ea9d121928bfc1163396bbe317fa49", func := "quartermaster/quartermasterlaw23.ScrubWants", spec := "scrubWants", unfollowed := true, recurses := true, apart := false }
def ScrubWantsSaid : Prop := scrubWantsRow.holds Tryz.pinned (OpenSpec.ofChange scrubWantsSpec)

/-- ITS FALSE NEIGHBOUR: 'it returns false'. Refute it at one input. -/
def scrubWantsWrong : ChangeSpec := { name := "scrubWants", fn := fun _ => fun
  | [d1, d2, d3, d4, d5] => { results := [.lit (.bool false)], args := [d1, d2, d3, d4, d5] }
  | _ => none }
def ScrubWantsWrongFalsely : Prop := scrubWantsRow.holds Tryz.pinned (OpenSpec.ofChange scrubWantsWrong)

/-- 'quartermasterlaw23.ScrubHeals': WHATEVER THE INPUT: true; the input reads as it did. -/
def scrubHealsSpec : ChangeSpec := { name := "scrubHeals", fn := fun _ => fun
  | [d1, d2, d3] => { results := [.lit (.bool true)], args := [d1, d2, d3] }
  | _ => none }
def scrubHealsRow : OpenClaim := { program := "ytkjklhcfgbaceaagreat", sum := "c4ca3bcab0bd4005325b0bef91ac2dafe7ea9d121928bfc1163396bbe317fa49", func := "quartermaster/quartermasterlaw23.ScrubHeals", spec := "scrubHeals", unfollowed := true, recurses := true, apart := false }
def ScrubHealsSaid : Prop := scrubHealsRow.holds Tryz.pinned (OpenSpec.ofChange scrubHealsSpec)

/-- ITS FALSE NEIGHBOUR: 'it returns false'. Refute it at one input. -/
def scrubHealsWrong : ChangeSpec := { name := "scrubHeals", fn := fun _ => fun
  | [d1, d2, d3] => { results := [.lit (.bool false)], args := [d1, d2, d3] }
  | _ => none }
def ScrubHealsWrongFalsely : Prop := scrubHealsRow.holds Tryz.pinned (OpenSpec.ofChange scrubHealsWrong)

/-- 'quartermasterlaw23.ScrubOps': WHATEVER THE INPUT: true; the input reads as it did. -/
def scrubOpsSpec : ChangeSpec := { name := "scrubOps", fn := fun _ => fun
  | [d1, d2, d3] => { results := [.lit (.bool true)], args := [d1, d2, d3] }
  | _ => none }
def scrubOpsRow : OpenClaim := { program := "ytkjklhcfgbaceaagreat", sum := "c4ca3bcab0bd4005325b0bef91ac2dafe7ea9d121928bfc1163396bbe317fa49", func := "quartermaster/quartermasterlaw23.ScrubOps", spec := "scrubOps", unfollowed := true, recurses := true, apart := false }
def ScrubOpsSaid : Prop := scrubOpsRow.holds Tryz.pinned (OpenSpec.ofChange scrubOpsSpec)

/-- ITS FALSE NEIGHBOUR: 'it returns false'. Refute it at one input. -/
def scrubOpsWrong : ChangeSpec := { name := "scrubOps", fn := fun _ => fun
  | [d1, d2, d3] => { results := [.lit (.bool false)], args := [d1, d2, d3] }
  | _ => none }
def ScrubOpsWrongFalsely : Prop := scrubOpsRow.holds Tryz.pinned (OpenSpec.ofChange scrubOpsWrong)

/-- 'quartermasterlaw23.ScrubCrash': WHATEVER THE INPUT: true; the input reads as it did. -/
def scrubCrashSpec : ChangeSpec := { name := "scrubCrash", fn := fun _ => fun
  | [d1, d2, d3, d4] => { results := [.lit (.bool true)], args := [d1, d2, d3, d4] }
  | _ => none }
def scrubCrashRow : OpenClaim := { program := "ytkjklhcfgbaceaagreat", sum := "c4ca3bcab0bd4005325b0bef91ac2dafe7ea9d121928bfc1163396bbe317fa49", func := "quartermaster/quartermasterlaw23.ScrubCrash", spec := "scrubCrash", unfollowed := true, recurses := true, apart := false }
def ScrubCrashSaid : Prop := scrubCrashRow.holds Tryz.pinned (OpenSpec.ofChange scrubCrashSpec)

/-- ITS FALSE NEIGHBOUR: 'it returns false'. Refute it at one input. -/
def scrubCrashWrong : ChangeSpec := { name := "scrubCrash", fn := fun _ => fun
  | [d1, d2, d3, d4] => { results := [.lit (.bool false)], args := [d1, d2, d3, d4] }
  | _ => none }
def ScrubCrashWrongFalsely : Prop := scrubCrashRow.holds Tryz.pinned (OpenSpec.ofChange scrubCrashWrong)

/- THE SECOND FORM. 'bulk': how many values and letters a reading holds, each counted each time it is reached (what is shared counts as often as it is met; a slice's spare places count too). A statement '..UptoSaid' is the law's where the arguments, and the package variables that the reading takes, are together of bulk at most 1048576: NARROWER than '..Said'. Prove '..Said' where nothing that the law and all that it calls make is longer than what came in: it says more and counts as full. Else prove '..UptoSaid'. A law counts once. -/
mutual
def uptoBulk {H : Type} : DataW H → Nat
  | .lit (.string bytes) => bytes.length + 1
  | .lit _ => 1
  | .nil => 1
  | .ptr d => uptoBulk d + 1
  | .slice elems spare => uptoBulkAll elems + uptoBulkAll spare + 1
  | .agg parts => uptoBulkAll parts + 1
  | .iface _ d => uptoBulk d + 1
  | .map entries => uptoBulkEntries entries + 1
  | .held _ => 1
def uptoBulkAll {H : Type} : List (DataW H) → Nat
  | [] => 0
  | d :: r => uptoBulk d + uptoBulkAll r
def uptoBulkEntries {H : Type} : List (Lit × DataW H) → Nat
  | [] => 0
  | x :: r => uptoBulkEntry x + uptoBulkEntries r
def uptoBulkEntry {H : Type} : Lit × DataW H → Nat
  | (.string bytes, d) => bytes.length + uptoBulk d + 1
  | (_, d) => uptoBulk d + 1
 end
def uptoSmall : (H : Type) → List (DataW H) → Bool := fun _ ds => decide (uptoBulkAll ds ≤ 1048576)
def OpenSpec.upto (s : _root_.Go.ChangeSpec) : _root_.Go.OpenSpec := { _root_.Go.OpenSpec.ofChange s with cond := some uptoSmall }

/-- 'quartermasterlaw23.ScrubBeyond', WHERE WHAT IT READS IS OF BULK AT MOST 1048576: true; the input reads as it did. -/
def scrubBeyondUptoRow : OpenClaim := { program := "ytkjklhcfgbaceaagreat", sum := "c4ca3bcab0bd4005325b0bef91ac2dafe7ea9d121928bfc1163396bbe317fa49", func := "quartermaster/quartermasterlaw23.ScrubBeyond", spec := "scrubBeyond", unfollowed := true, recurses := true, apart := false, narrowed := true }
def ScrubBeyondUptoSaid : Prop := scrubBeyondUptoRow.holds Tryz.pinned (OpenSpec.upto scrubBeyondSpec)

/-- 'quartermasterlaw23.ScrubWants', WHERE WHAT IT READS IS OF BULK AT MOST 1048576: true; the input reads as it did. -/
def scrubWantsUptoRow : OpenClaim := { program := "ytkjklhcfgbaceaagreat", sum := "c4ca3bcab0bd4005325b0bef91ac2dafe7ea9d121928bfc1163396bbe317fa49", func := "quartermaster/quartermasterlaw23.ScrubWants", spec := "scrubWants", unfollowed := true, recurses := true, apart := false, narrowed := true }
def ScrubWantsUptoSaid : Prop := scrubWantsUptoRow.holds Tryz.pinned (OpenSpec.upto scrubWantsSpec)

/-- 'quartermasterlaw23.ScrubHeals', WHERE WHAT IT READS IS OF BULK AT MOST 1048576: true; the input reads as it did. -/
def scrubHealsUptoRow : OpenClaim := { program := "ytkjklhcfgbaceaagreat", sum := "c4ca3bcab0bd4005325b0bef91ac2dafe7ea9d121928bfc1163396bbe317fa49", func := "quartermaster/quartermasterlaw23.ScrubHeals", spec := "scrubHeals", unfollowed := true, recurses := true, apart := false, narrowed := true }
def ScrubHealsUptoSaid : Prop := scrubHealsUptoRow.holds Tryz.pinned (OpenSpec.upto scrubHealsSpec)

/-- 'quartermasterlaw23.ScrubOps', WHERE WHAT IT READS IS OF BULK AT MOST 1048576: true; the input reads as it did. -/
def scrubOpsUptoRow : OpenClaim := { program := "ytkjklhcfgbaceaagreat", sum := "c4ca3bcab0bd4005325b0bef91ac2dafe7ea9d121928bfc1163396bbe317fa49", func := "quartermaster/quartermasterlaw23.ScrubOps", spec := "scrubOps", unfollowed := true, recurses := true, apart := false, narrowed := true }
def ScrubOpsUptoSaid : Prop := scrubOpsUptoRow.holds Tryz.pinned (OpenSpec.upto scrubOpsSpec)

/-- 'quartermasterlaw23.ScrubCrash', WHERE WHAT IT READS IS OF BULK AT MOST 1048576: true; the input reads as it did. -/
def scrubCrashUptoRow : OpenClaim := { program := "ytkjklhcfgbaceaagreat", sum := "c4ca3bcab0bd4005325b0bef91ac2dafe7ea9d121928bfc1163396bbe317fa49", func := "quartermaster/quartermasterlaw23.ScrubCrash", spec := "scrubCrash", unfollowed := true, recurses := true, apart := false, narrowed := true }
def ScrubCrashUptoSaid : Prop := scrubCrashUptoRow.holds Tryz.pinned (OpenSpec.upto scrubCrashSpec)

end Rows
end Go.Proofs.YtkjklhcfgbaceaaGreat
