/-
  No cell of these rows narrows 'for every input' (looked for: loops, veiled, ifaces, maps, wideKeys, modest, calm, conditions, laid).
  DERIVED. THE GIVEN ROWS OF THIS SEAT. 10 by the template 'for every input the law returns true; each argument reads behind the call as it read before'; 0 by the template 'total and deterministic' (their statements: YtolefphdldmlkaaTotals.lean).
  GIVEN WITH THE SEED: the statements are not yours to turn. If you find one false, say at which input.
  Laid BY PROGRAM, IN A SANDBOX (cutbox-rows.mjs): the forced cells as the released guide's own fill.sh prints them over the translation b77fad2180bd42e7… (all of the seat's roots in one cut). By AI agents, Wed Nov 11 2026. No macro, syntax, notation, axiom, sorry.
-/
import Derived.Test.YtolefphdldmlkaaChecked
import GoSem.Claim
import GoSem.ClaimJoined
import GoSem.ClaimMapViews
import Derived.JoinedTies
import Derived.KernelRfl
namespace Go.Proofs.Ytolefphdldmlkaa
/- THE CELL 'sum', in the pinned program and in every row, IS THE sha256 OF THE DUMP (.gsa) THAT YtolefphdldmlkaaProg.lean LOADS. Nothing in Lean hashes anything: it is a label: what it is worth is what the hold of that sum in a sandbox is worth. -/
noncomputable def Try.pinned : Pinned := { name := "ytolefphdldmlkaa", sum := "b77fad2180bd42e7addf545b09ce14338f3caf22f52c9479a5b5b26075c08867", checked := Try.checked }
namespace Rows
def none {H : Type} : Left H := { results := [], args := [] }

/-- 'quartermasterlaw06.DiskPlain': WHATEVER THE INPUT: true; the input reads as it did. -/
def diskPlainSpec : ChangeSpec := { name := "diskPlain", fn := fun _ => fun
  | [d] => { results := [.lit (.bool true)], args := [d] }
  | _ => none }
def diskPlainRow : OpenClaim := { program := "ytolefphdldmlkaa", sum := "b77fad2180bd42e7addf545b09ce14338f3caf22f52c9479a5b5b26075c08867", func := "quartermaster/quartermasterlaw06.DiskPlain", spec := "diskPlain", unfollowed := true, recurses := true, apart := false }
def DiskPlainSaid : Prop := diskPlainRow.holds Try.pinned (OpenSpec.ofChange diskPlainSpec)

/-- ITS FALSE NEIGHBOUR: 'it returns false'. Refute it at one input. -/
def diskPlainWrong : ChangeSpec := { name := "diskPlain", fn := fun _ => fun
  | [d] => { results := [.lit (.bool false)], args := [d] }
  | _ => none }
def DiskPlainWrongFalsely : Prop := diskPlainRow.holds Try.pinned (OpenSpec.ofChange diskPlainWrong)

/-- 'quartermasterlaw06.DiskKeeps': WHATEVER THE INPUT: true; the input reads as it did. -/
def diskKeepsSpec : ChangeSpec := { name := "diskKeeps", fn := fun _ => fun
  | [d1, d2, d3] => { results := [.lit (.bool true)], args := [d1, d2, d3] }
  | _ => none }
def diskKeepsRow : OpenClaim := { program := "ytolefphdldmlkaa", sum := "b77fad2180bd42e7addf545b09ce14338f3caf22f52c9479a5b5b26075c08867", func := "quartermaster/quartermasterlaw06.DiskKeeps", spec := "diskKeeps", unfollowed := true, recurses := true, apart := false }
def DiskKeepsSaid : Prop := diskKeepsRow.holds Try.pinned (OpenSpec.ofChange diskKeepsSpec)

/-- ITS FALSE NEIGHBOUR: 'it returns false'. Refute it at one input. -/
def diskKeepsWrong : ChangeSpec := { name := "diskKeeps", fn := fun _ => fun
  | [d1, d2, d3] => { results := [.lit (.bool false)], args := [d1, d2, d3] }
  | _ => none }
def DiskKeepsWrongFalsely : Prop := diskKeepsRow.holds Try.pinned (OpenSpec.ofChange diskKeepsWrong)

/-- 'quartermasterlaw06.DiskDoes': WHATEVER THE INPUT: true; the input reads as it did. -/
def diskDoesSpec : ChangeSpec := { name := "diskDoes", fn := fun _ => fun
  | [d1, d2] => { results := [.lit (.bool true)], args := [d1, d2] }
  | _ => none }
def diskDoesRow : OpenClaim := { program := "ytolefphdldmlkaa", sum := "b77fad2180bd42e7addf545b09ce14338f3caf22f52c9479a5b5b26075c08867", func := "quartermaster/quartermasterlaw06.DiskDoes", spec := "diskDoes", unfollowed := true, recurses := true, apart := false }
def DiskDoesSaid : Prop := diskDoesRow.holds Try.pinned (OpenSpec.ofChange diskDoesSpec)

/-- ITS FALSE NEIGHBOUR: 'it returns false'. Refute it at one input. -/
def diskDoesWrong : ChangeSpec := { name := "diskDoes", fn := fun _ => fun
  | [d1, d2] => { results := [.lit (.bool false)], args := [d1, d2] }
  | _ => none }
def DiskDoesWrongFalsely : Prop := diskDoesRow.holds Try.pinned (OpenSpec.ofChange diskDoesWrong)

/-- 'quartermasterlaw06.DiskRots': WHATEVER THE INPUT: true; the input reads as it did. -/
def diskRotsSpec : ChangeSpec := { name := "diskRots", fn := fun _ => fun
  | [d1, d2, d3] => { results := [.lit (.bool true)], args := [d1, d2, d3] }
  | _ => none }
def diskRotsRow : OpenClaim := { program := "ytolefphdldmlkaa", sum := "b77fad2180bd42e7addf545b09ce14338f3caf22f52c9479a5b5b26075c08867", func := "quartermaster/quartermasterlaw06.DiskRots", spec := "diskRots", unfollowed := true, recurses := true, apart := false }
def DiskRotsSaid : Prop := diskRotsRow.holds Try.pinned (OpenSpec.ofChange diskRotsSpec)

/-- ITS FALSE NEIGHBOUR: 'it returns false'. Refute it at one input. -/
def diskRotsWrong : ChangeSpec := { name := "diskRots", fn := fun _ => fun
  | [d1, d2, d3] => { results := [.lit (.bool false)], args := [d1, d2, d3] }
  | _ => none }
def DiskRotsWrongFalsely : Prop := diskRotsRow.holds Try.pinned (OpenSpec.ofChange diskRotsWrong)

/-- 'quartermasterlaw06.DiskCrashes': WHATEVER THE INPUT: true; the input reads as it did. -/
def diskCrashesSpec : ChangeSpec := { name := "diskCrashes", fn := fun _ => fun
  | [d1, d2] => { results := [.lit (.bool true)], args := [d1, d2] }
  | _ => none }
def diskCrashesRow : OpenClaim := { program := "ytolefphdldmlkaa", sum := "b77fad2180bd42e7addf545b09ce14338f3caf22f52c9479a5b5b26075c08867", func := "quartermaster/quartermasterlaw06.DiskCrashes", spec := "diskCrashes", unfollowed := true, recurses := true, apart := false }
def DiskCrashesSaid : Prop := diskCrashesRow.holds Try.pinned (OpenSpec.ofChange diskCrashesSpec)

/-- ITS FALSE NEIGHBOUR: 'it returns false'. Refute it at one input. -/
def diskCrashesWrong : ChangeSpec := { name := "diskCrashes", fn := fun _ => fun
  | [d1, d2] => { results := [.lit (.bool false)], args := [d1, d2] }
  | _ => none }
def DiskCrashesWrongFalsely : Prop := diskCrashesRow.holds Try.pinned (OpenSpec.ofChange diskCrashesWrong)

/-- 'quartermasterlaw06.DiskNone': WHATEVER THE INPUT: true; the input reads as it did. -/
def diskNoneSpec : ChangeSpec := { name := "diskNone", fn := fun _ => fun
  | [d1, d2] => { results := [.lit (.bool true)], args := [d1, d2] }
  | _ => none }
def diskNoneRow : OpenClaim := { program := "ytolefphdldmlkaa", sum := "b77fad2180bd42e7addf545b09ce14338f3caf22f52c9479a5b5b26075c08867", func := "quartermaster/quartermasterlaw06.DiskNone", spec := "diskNone", unfollowed := true, recurses := true, apart := false }
def DiskNoneSaid : Prop := diskNoneRow.holds Try.pinned (OpenSpec.ofChange diskNoneSpec)

/-- ITS FALSE NEIGHBOUR: 'it returns false'. Refute it at one input. -/
def diskNoneWrong : ChangeSpec := { name := "diskNone", fn := fun _ => fun
  | [d1, d2] => { results := [.lit (.bool false)], args := [d1, d2] }
  | _ => none }
def DiskNoneWrongFalsely : Prop := diskNoneRow.holds Try.pinned (OpenSpec.ofChange diskNoneWrong)

/-- 'quartermasterlaw09.KeepPuts': WHATEVER THE INPUT: true; the input reads as it did. -/
def keepPutsSpec : ChangeSpec := { name := "keepPuts", fn := fun _ => fun
  | [d1, d2, d3, d4] => { results := [.lit (.bool true)], args := [d1, d2, d3, d4] }
  | _ => none }
def keepPutsRow : OpenClaim := { program := "ytolefphdldmlkaa", sum := "b77fad2180bd42e7addf545b09ce14338f3caf22f52c9479a5b5b26075c08867", func := "quartermaster/quartermasterlaw09.KeepPuts", spec := "keepPuts", unfollowed := true, recurses := true, apart := false }
def KeepPutsSaid : Prop := keepPutsRow.holds Try.pinned (OpenSpec.ofChange keepPutsSpec)

/-- ITS FALSE NEIGHBOUR: 'it returns false'. Refute it at one input. -/
def keepPutsWrong : ChangeSpec := { name := "keepPuts", fn := fun _ => fun
  | [d1, d2, d3, d4] => { results := [.lit (.bool false)], args := [d1, d2, d3, d4] }
  | _ => none }
def KeepPutsWrongFalsely : Prop := keepPutsRow.holds Try.pinned (OpenSpec.ofChange keepPutsWrong)

/-- 'quartermasterlaw09.KeepEach': WHATEVER THE INPUT: true; the input reads as it did. -/
def keepEachSpec : ChangeSpec := { name := "keepEach", fn := fun _ => fun
  | [d1, d2, d3] => { results := [.lit (.bool true)], args := [d1, d2, d3] }
  | _ => none }
def keepEachRow : OpenClaim := { program := "ytolefphdldmlkaa", sum := "b77fad2180bd42e7addf545b09ce14338f3caf22f52c9479a5b5b26075c08867", func := "quartermaster/quartermasterlaw09.KeepEach", spec := "keepEach", unfollowed := true, recurses := true, apart := false }
def KeepEachSaid : Prop := keepEachRow.holds Try.pinned (OpenSpec.ofChange keepEachSpec)

/-- ITS FALSE NEIGHBOUR: 'it returns false'. Refute it at one input. -/
def keepEachWrong : ChangeSpec := { name := "keepEach", fn := fun _ => fun
  | [d1, d2, d3] => { results := [.lit (.bool false)], args := [d1, d2, d3] }
  | _ => none }
def KeepEachWrongFalsely : Prop := keepEachRow.holds Try.pinned (OpenSpec.ofChange keepEachWrong)

/-- 'quartermasterlaw09.KeepMends': WHATEVER THE INPUT: true; the input reads as it did. -/
def keepMendsSpec : ChangeSpec := { name := "keepMends", fn := fun _ => fun
  | [d1, d2] => { results := [.lit (.bool true)], args := [d1, d2] }
  | _ => none }
def keepMendsRow : OpenClaim := { program := "ytolefphdldmlkaa", sum := "b77fad2180bd42e7addf545b09ce14338f3caf22f52c9479a5b5b26075c08867", func := "quartermaster/quartermasterlaw09.KeepMends", spec := "keepMends", unfollowed := true, recurses := true, apart := false }
def KeepMendsSaid : Prop := keepMendsRow.holds Try.pinned (OpenSpec.ofChange keepMendsSpec)

/-- ITS FALSE NEIGHBOUR: 'it returns false'. Refute it at one input. -/
def keepMendsWrong : ChangeSpec := { name := "keepMends", fn := fun _ => fun
  | [d1, d2] => { results := [.lit (.bool false)], args := [d1, d2] }
  | _ => none }
def KeepMendsWrongFalsely : Prop := keepMendsRow.holds Try.pinned (OpenSpec.ofChange keepMendsWrong)

/-- 'quartermasterlaw09.KeepDoes': WHATEVER THE INPUT: true; the input reads as it did. -/
def keepDoesSpec : ChangeSpec := { name := "keepDoes", fn := fun _ => fun
  | [d1, d2, d3, d4] => { results := [.lit (.bool true)], args := [d1, d2, d3, d4] }
  | _ => none }
def keepDoesRow : OpenClaim := { program := "ytolefphdldmlkaa", sum := "b77fad2180bd42e7addf545b09ce14338f3caf22f52c9479a5b5b26075c08867", func := "quartermaster/quartermasterlaw09.KeepDoes", spec := "keepDoes", unfollowed := true, recurses := true, apart := false }
def KeepDoesSaid : Prop := keepDoesRow.holds Try.pinned (OpenSpec.ofChange keepDoesSpec)

/-- ITS FALSE NEIGHBOUR: 'it returns false'. Refute it at one input. -/
def keepDoesWrong : ChangeSpec := { name := "keepDoes", fn := fun _ => fun
  | [d1, d2, d3, d4] => { results := [.lit (.bool false)], args := [d1, d2, d3, d4] }
  | _ => none }
def KeepDoesWrongFalsely : Prop := keepDoesRow.holds Try.pinned (OpenSpec.ofChange keepDoesWrong)

/- THE SECOND FORM. 'bulk': how many values and letters a reading holds, each counted each time it is reached (what is shared counts as often as it is met; a slice's spare places count too). A statement '..UptoSaid' is the law's where the arguments, and the package variables that the reading takes, are together of bulk at most 1048576: NARROWER than '..Said'. Prove '..Said' where nothing that the law and all that it calls make is longer than what came in: it says more and counts as full. Else prove '..UptoSaid'. A law counts once. -/
mutual
def uptoBulk {H : Type} : DataW H → Nat
  | .lit (.string bytes) => bytes.length + 1
  | .lit _ => 1
  | .nil => 1
  | .ptr d => uptoBulk d + 1
  | .slice elems spare => uptoBulkAll elems + uptoBulkAll spare + 1
  | .agg parts => uptoBulkAll parts + 1
  | .iface _ d => uptoBulk d + 1
  | .map entries => uptoBulkEntries entries + 1
  | .held _ => 1
def uptoBulkAll {H : Type} : List (DataW H) → Nat
  | [] => 0
  | d :: r => uptoBulk d + uptoBulkAll r
def uptoBulkEntries {H : Type} : List (Lit × DataW H) → Nat
  | [] => 0
  | x :: r => uptoBulkEntry x + uptoBulkEntries r
def uptoBulkEntry {H : Type} : Lit × DataW H → Nat
  | (.string bytes, d) => bytes.length + uptoBulk d + 1
  | (_, d) => uptoBulk d + 1
 end
def uptoSmall : (H : Type) → List (DataW H) → Bool := fun _ ds => decide (uptoBulkAll ds ≤ 1048576)
def OpenSpec.upto (s : _root_.Go.ChangeSpec) : _root_.Go.OpenSpec := { _root_.Go.OpenSpec.ofChange s with cond := some uptoSmall }

/-- 'quartermasterlaw06.DiskPlain', WHERE WHAT IT READS IS OF BULK AT MOST 1048576: true; the input reads as it did. -/
def diskPlainUptoRow : OpenClaim := { program := "ytolefphdldmlkaa", sum := "b77fad2180bd42e7addf545b09ce14338f3caf22f52c9479a5b5b26075c08867", func := "quartermaster/quartermasterlaw06.DiskPlain", spec := "diskPlain", unfollowed := true, recurses := true, apart := false, narrowed := true }
def DiskPlainUptoSaid : Prop := diskPlainUptoRow.holds Try.pinned (OpenSpec.upto diskPlainSpec)

/-- 'quartermasterlaw06.DiskKeeps', WHERE WHAT IT READS IS OF BULK AT MOST 1048576: true; the input reads as it did. -/
def diskKeepsUptoRow : OpenClaim := { program := "ytolefphdldmlkaa", sum := "b77fad2180bd42e7addf545b09ce14338f3caf22f52c9479a5b5b26075c08867", func := "quartermaster/quartermasterlaw06.DiskKeeps", spec := "diskKeeps", unfollowed := true, recurses := true, apart := false, narrowed := true }
def DiskKeepsUptoSaid : Prop := diskKeepsUptoRow.holds Try.pinned (OpenSpec.upto diskKeepsSpec)

/-- 'quartermasterlaw06.DiskDoes', WHERE WHAT IT READS IS OF BULK AT MOST 1048576: true; the input reads as it did. -/
def diskDoesUptoRow : OpenClaim := { program := "ytolefphdldmlkaa", sum := "b77fad2180bd42e7addf545b09ce14338f3caf22f52c9479a5b5b26075c08867", func := "quartermaster/quartermasterlaw06.DiskDoes", spec := "diskDoes", unfollowed := true, recurses := true, apart := false, narrowed := true }
def DiskDoesUptoSaid : Prop := diskDoesUptoRow.holds Try.pinned (OpenSpec.upto diskDoesSpec)

/-- 'quartermasterlaw06.DiskRots', WHERE WHAT IT READS IS OF BULK AT MOST 1048576: true; the input reads as it did. -/
def diskRotsUptoRow : OpenClaim := { program := "ytolefphdldmlkaa", sum := "b77fad2180bd42e7addf545b09ce14338f3caf22f52c9479a5b5b26075c08867", func := "quartermaster/quartermasterlaw06.DiskRots", spec := "diskRots", unfollowed := true, recurses := true, apart := false, narrowed := true }
def DiskRotsUptoSaid : Prop := diskRotsUptoRow.holds Try.pinned (OpenSpec.upto diskRotsSpec)

/-- 'quartermasterlaw06.DiskCrashes', WHERE WHAT IT READS IS OF BULK AT MOST 1048576: true; the input reads as it did. -/
def diskCrashesUptoRow : OpenClaim := { program := "ytolefphdldmlkaa", sum := "b77fad2180bd42e7addf545b09ce14338f3caf22f52c9479a5b5b26075c08867", func := "quartermaster/quartermasterlaw06.DiskCrashes", spec := "diskCrashes", unfollowed := true, recurses := true, apart := false, narrowed := true }
def DiskCrashesUptoSaid : Prop := diskCrashesUptoRow.holds Try.pinned (OpenSpec.upto diskCrashesSpec)

/-- 'quartermasterlaw06.DiskNone', WHERE WHAT IT READS IS OF BULK AT MOST 1048576: true; the input reads as it did. -/
def diskNoneUptoRow : OpenClaim := { program := "ytolefphdldmlkaa", sum := "b77fad2180bd42e7addf545b09ce14338f3caf22f52c9479a5b5b26075c08867", func := "quartermaster/quartermasterlaw06.DiskNone", spec := "diskNone", unfollowed := true, recurses := true, apart := false, narrowed := true }
def DiskNoneUptoSaid : Prop := diskNoneUptoRow.holds Try.pinned (OpenSpec.upto diskNoneSpec)

/-- 'quartermasterlaw09.KeepPuts', WHERE WHAT IT READS IS OF BULK AT MOST 1048576: true; the input reads as it did. -/
def keepPutsUptoRow : OpenClaim := { program := "ytolefphdldmlkaa", sum := "b77fad2180bd42e7addf545b09ce14338f3caf22f52c9479a5b5b26075c08867", func := "quartermaster/quartermasterlaw09.KeepPuts", spec := "keepPuts", unfollowed := true, recurses := true, apart := false, narrowed := true }
def KeepPutsUptoSaid : Prop := keepPutsUptoRow.holds Try.pinned (OpenSpec.upto keepPutsSpec)

/-- 'quartermasterlaw09.KeepEach', WHERE WHAT IT READS IS OF BULK AT MOST 1048576: true; the input reads as it did. -/
def keepEachUptoRow : OpenClaim := { program := "ytolefphdldmlkaa", sum := "b77fad2180bd42e7addf545b09ce14338f3caf22f52c9479a5b5b26075c08867", func := "quartermaster/quartermasterlaw09.KeepEach", spec := "keepEach", unfollowed := true, recurses := true, apart := false, narrowed := true }
def KeepEachUptoSaid : Prop := keepEachUptoRow.holds Try.pinned (OpenSpec.upto keepEachSpec)

/-- 'quartermasterlaw09.KeepMends', WHERE WHAT IT READS IS OF BULK AT MOST 1048576: true; the input reads as it did. -/
def keepMendsUptoRow : OpenClaim := { program := "ytolefphdldmlkaa", sum := "b77fad2180bd42e7addf545b09ce14338f3caf22f52c9479a5b5b26075c08867", func := "quartermaster/quartermasterlaw09.KeepMends", spec := "keepMends", unfollowed := true, recurses := true, apart := false, narrowed := true }
def KeepMendsUptoSaid : Prop := keepMendsUptoRow.holds Try.pinned (OpenSpec.upto keepMendsSpec)

/-- 'quartermasterlaw09.KeepDoes', WHERE WHAT IT READS IS OF BULK AT MOST 1048576: true; the input reads as it did. -/
def keepDoesUptoRow : OpenClaim := { program := "ytolefphdldmlkaa", sum := "b77fad2180bd42e7addf545b09ce14338f3caf22f52c9479a5b5b26075c08867", func := "quartermaster/quartermasterlaw09.KeepDoes", spec := "keepDoes", unfollowed := true, recurses := true, apart := false, narrowed := true }
def KeepDoesUptoSaid : Prop := keepDoesUptoRow.holds Try.pinned (OpenSpec.upto keepDoesSpec)

end Rows
end Go.Proofs.Ytolefphdldmlkaa
