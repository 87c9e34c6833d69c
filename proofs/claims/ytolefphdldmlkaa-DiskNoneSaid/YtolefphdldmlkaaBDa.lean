/- The layer 06 (disk): a device as a plain value; its small functions walked. -/
import Derived.Test.YtolefphdldmlkaaBDTab
namespace Go.Proofs.Ytolefphdldmlkaa.AL
open Go Go.Proofs

abbrev u8 (b : UInt8) : PV := .raw (.int .u8 (b.toNat : Int))
abbrev Bytes := List UInt8
def bx (l : Bytes) : List (List PV) := l.map fun b => [u8 b]
abbrev bP (l : Bytes) : PV := .sl 1 (bx l)
abbrev bA (l : Bytes) : AV := .p (bP l)
def ix (l : List Int) : List (List PV) := l.map fun n => [.raw (.int .i64 n)]
abbrev iP (l : List Int) : PV := .sl 1 (ix l)

structure Cell where
  s : Bytes
  lost : Bool
  drop : Int
  miss : List Int
  deriving Inhabited, DecidableEq
def Cell.pv (c : Cell) : List PV := [bP c.s, .raw (.bool c.lost), .raw (.int .i64 c.drop), iP c.miss]
structure Wr where
  at_ : Int
  s : Bytes
  deriving Inhabited, DecidableEq
def Wr.pv (x : Wr) : List PV := [.raw (.int .i64 x.at_), bP x.s]
structure Dev where
  cells : List Cell
  waits : List Wr
  armed : Bool
  dead : Bool
  left : Int
  ops : Int
  deriving DecidableEq

def cx (l : List Cell) : List (List PV) := l.map Cell.pv
def wx (l : List Wr) : List (List PV) := l.map Wr.pv
abbrev devC (D : Dev) (b c : Nat) : ABlk := .cells t_disk_Disk [.msl b 4 0 D.cells.length, .msl c 2 0 D.waits.length, bl D.armed, bl D.dead, i64 D.left, i64 D.ops]
abbrev devH (D : Dev) : List ABlk := [devC D 1 2, .row t_disk_cell 4 (cx D.cells), .row t_disk_write 2 (wx D.waits)]

theorem disk_Len (D : Dev) : AFm Try.prog 3 f_disk_Disk_Len [.ref 0 0] (devH D) (Pure (i64 D.cells.length) (devH D)) := by
  refine af_bodyM 3 hT F_disk_Disk_Len rfl rfl N_disk_Disk_Len rfl rfl ?_
  refine aw_seq (aw_region hT ?_)
  refine aw_seq (aw_seq (aw_region hT ?_))
  refine aw_cond ?_
  refine aw_skip ?_
  refine aw_seq (aw_region hT ?_)
  refine aw_ret ?_
  exact retPick [0, 1, 2] ⟨rfl, rfl⟩ rfl

theorem disk_Dead (D : Dev) : AFm Try.prog 3 f_disk_Disk_Dead [.ref 0 0] (devH D) (Pure (bl D.dead) (devH D)) := by
  refine af_bodyM 3 hT F_disk_Disk_Dead rfl rfl N_disk_Disk_Dead rfl rfl ?_
  refine aw_seq (aw_region hT ?_)
  refine aw_seq (aw_region hT ?_)
  refine aw_ret ?_
  exact retPick [0, 1, 2] ⟨rfl, rfl⟩ rfl

theorem disk_Ops (D : Dev) : AFm Try.prog 3 f_disk_Disk_Ops [.ref 0 0] (devH D) (Pure (i64 D.ops) (devH D)) := by
  refine af_bodyM 3 hT F_disk_Disk_Ops rfl rfl N_disk_Disk_Ops rfl rfl ?_
  refine aw_seq (aw_region hT ?_)
  refine aw_seq (aw_seq (aw_region hT ?_))
  refine aw_cond ?_
  refine aw_skip ?_
  refine aw_seq (aw_region hT ?_)
  refine aw_ret ?_
  exact retPick [0, 1, 2] ⟨rfl, rfl⟩ rfl

def Dev.has (D : Dev) (a : Int) : Bool := decide (a ≥ 0) && decide (a < (D.cells.length : Int))

theorem disk_has (D : Dev) (a : Int) : AFm Try.prog 3 f_disk_Disk_has [.ref 0 0, i64 a] (devH D) (Pure (bl (D.has a)) (devH D)) := by
  refine af_bodyM 3 hT F_disk_Disk_has rfl rfl N_disk_Disk_has rfl rfl ?_
  refine aw_seq (aw_region hT ?_)
  unfold Dev.has
  refine aw_seq (aw_region hT ?_)
  refine boolI (fun h => ?_) (fun h => ?_)
  · refine callP (af_in [0, 1, 2] (disk_Len D) rfl rfl rfl) ?_
    refine aw_ret ?_
    refine retPick [0, 1, 2] ⟨?_, rfl⟩ rfl
    rw [h]; rfl
  · refine aw_ret ?_
    refine retPick [0, 1, 2] ⟨?_, rfl⟩ rfl
    rw [h]; rfl

def Dev.arm (D : Dev) (n : Int) : Dev := { D with armed := decide (n ≥ 0), left := n }

theorem disk_Arm (D : Dev) (n : Int) : AFm Try.prog 3 f_disk_Disk_Arm [.ref 0 0, i64 n] (devH D) (Pure (.tup []) (devH (D.arm n))) := by
  refine af_bodyM 3 hT F_disk_Disk_Arm rfl rfl N_disk_Disk_Arm rfl rfl ?_
  refine aw_seq (aw_region hT ?_)
  refine aw_cond ?_
  refine aw_region hT ?_
  exact retPick [0, 1, 2] ⟨rfl, rfl⟩ rfl

/-- A write or a flush is counted; false: it dies. -/
def Dev.lives (D : Dev) : Dev := { D with dead := D.dead || (D.armed && D.left == 0), left := IntKind.i64.wrap (D.left - 1) }

theorem disk_lives (D : Dev) : AFm Try.prog 3 f_disk_Disk_lives [.ref 0 0] (devH D) (Pure (bl (!D.lives.dead)) (devH D.lives)) := by
  refine af_bodyM 3 hT F_disk_Disk_lives rfl rfl N_disk_Disk_lives rfl rfl ?_
  refine aw_seq (aw_region hT ?_)
  refine aw_cut ⟨⟨29, [(0, .ref 0 0)]⟩, devH { D with dead := D.dead || (D.armed && D.left == 0) }⟩ True (aw_seq (aw_region hT ?_)) (fun _ => ?_)
  · refine boolI (fun h => ?_) (fun h => ?_)
    · refine aw_cond (boolI (fun h2 => ?_) (fun h2 => ?_))
      · refine aw_region hT ?_
        refine ⟨?_, trivial⟩
        have h2 : (D.left == 0) = true := h2
        rw [h, h2, Bool.true_and, Bool.or_true]
        exact wk_pick [0, 1, 2] [0] rfl
      · refine aw_skip ⟨?_, trivial⟩
        have h2 : (D.left == 0) = false := h2
        rw [h, h2, Bool.true_and, Bool.or_false]
        exact wk_pick [0, 1, 2] [0] rfl
    · refine aw_cond ?_
      refine aw_skip ⟨?_, trivial⟩
      rw [h, Bool.false_and, Bool.or_false]
      exact wk_pick [0, 1, 2] [0] rfl
  · refine aw_seq (aw_region hT ?_)
    refine aw_seq (aw_region hT ?_)
    refine aw_ret ?_
    exact retPick [0, 1, 2] ⟨rfl, rfl⟩ rfl
end Go.Proofs.Ytolefphdldmlkaa.AL
