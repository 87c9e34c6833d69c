/- The layer 06 (disk): a flush, a crash that is asked for, a write. -/
import Derived.Test.YtolefphdldmlkaaBDc
namespace Go.Proofs.Ytolefphdldmlkaa.AL
open Go Go.Proofs

theorem lives_waits (D : Dev) : D.lives.waits = D.waits := rfl
theorem lives_cells (D : Dev) : D.lives.cells = D.cells := rfl

def Dev.flush (D : Dev) : Int × Dev := match D.dead with
  | true => (21, D)
  | false => match D.lives.dead with
    | true => (21, D.lives)
    | false => (0, D.lives.drain [true])

theorem not_not {b c : Bool} (h : (!(!b)) = c) : b = c := by rw [Bool.not_not] at h; exact h

theorem disk_Flush (D : Dev) (hw : D.waitsIn) (hn : D.waits.length ≤ 1000000) : AFm Try.prog 1 f_disk_Disk_Flush [.ref 0 0] (devH D) (Pure (i64 D.flush.1) (devH D.flush.2)) := by
  refine af_bodyM 1 hT F_disk_Disk_Flush rfl rfl N_disk_Disk_Flush rfl rfl ?_
  refine aw_seq (aw_region hT ?_)
  refine aw_seq (aw_seq (aw_region hT ?_))
  refine callP (af_in [0, 1, 2] (disk_Dead D) rfl rfl rfl) ?_
  refine boolI (fun h => ?_) (fun h => ?_)
  · refine aw_cond ?_
    refine aw_seq (aw_region hT ?_)
    refine aw_ret ?_
    have e : D.flush = (21, D) := by unfold Dev.flush; rw [h]
    rw [e]
    exact retPick [0, 1, 2] ⟨rfl, rfl⟩ rfl
  · refine callP (af_in [0, 1, 2] (disk_lives D) rfl rfl rfl) ?_
    refine aw_cond (boolI (fun h1 => ?_) (fun h1 => ?_))
    · have e : D.flush = (21, D.lives) := by unfold Dev.flush; rw [h, not_not h1]
      refine aw_seq (aw_region hT ?_)
      refine aw_ret ?_
      rw [e]
      exact retPick [0, 1, 2] ⟨rfl, rfl⟩ rfl
    · have e : D.flush = (0, D.lives.drain [true]) := by unfold Dev.flush; rw [h, not_not h1]
      refine aw_skip ?_
      refine aw_seq (aw_regionF (fun k => Nat.beq 1 k) hT ?_)
      refine ⟨⟨rfl, rfl⟩, ?_⟩
      refine callP (af_in [0, 1, 2] (disk_crash D.lives [true] hw hn) rfl rfl rfl) ?_
      refine aw_seq (aw_region hT ?_)
      refine aw_ret ?_
      rw [e]
      exact retPick [0, 3, 4] ⟨rfl, rfl⟩ rfl

def Dev.crashed (D : Dev) (keep : List Bool) : Dev := { D.drain keep with dead := false, armed := false }
theorem disk_Crash (D : Dev) (keep : List Bool) (hw : D.waitsIn) (hn : D.waits.length ≤ 1000000) : AFm Try.prog 1 f_disk_Disk_Crash [.ref 0 0, .p (.sl 1 (kx keep))] (devH D) (Pure (.tup []) (devH (D.crashed keep))) := by
  refine af_bodyM 1 hT F_disk_Disk_Crash rfl rfl N_disk_Disk_Crash rfl rfl ?_
  refine aw_seq (aw_region hT ?_)
  refine aw_cond ?_
  refine aw_seq (aw_region hT ?_)
  refine callP (af_in [0, 1, 2] (disk_crash D keep hw hn) rfl rfl rfl) ?_
  refine aw_region hT ?_
  refine retPick [0, 3, 4] ⟨rfl, rfl⟩ rfl
theorem devH_set (D : Dev) (i : Nat) (c : Cell) : devH { D with cells := D.cells.set i c } = [devC D 1 2, .row t_disk_cell 4 ((cx D.cells).set (0 + i) c.pv), .row t_disk_write 2 (wx D.waits)] := by
  unfold devH devC; rw [Nat.zero_add, ← cx_set, List.length_set]

theorem wx_put (l : List Wr) (x : Wr) : wx (l ++ [x]) = wx l ++ [x.pv] := by simp [wx]
theorem devH_put (D : Dev) (x : Wr) : devH { D with waits := D.waits ++ [x] } = [.cells t_disk_Disk [.msl 1 4 0 D.cells.length, .msl 2 2 0 (wx D.waits ++ [x.pv]).length, bl D.armed, bl D.dead, i64 D.left, i64 D.ops], .row t_disk_cell 4 (cx D.cells), .row t_disk_write 2 (wx D.waits ++ [x.pv])] := by
  unfold devH devC; rw [← wx_put, wx_len]

/-- A write: how it is answered, and what waits. -/
def Dev.put (D : Dev) (a : Int) (s : Bytes) : Dev := match D.cells[a.toNat]? with
  | none => D
  | some c => match decide (c.drop > 0) with
    | true => { D with cells := D.cells.set a.toNat { c with drop := IntKind.i64.wrap (c.drop - 1) } }
    | false => match c.miss with
      | [] => { D with waits := D.waits ++ [⟨a, s⟩] }
      | t :: r => { D with cells := D.cells.set a.toNat { c with miss := r }, waits := D.waits ++ [⟨t, s⟩] }
def Dev.count (D : Dev) : Dev := { D with ops := IntKind.i64.wrap (D.ops + 1) }
def Dev.write (D : Dev) (a : Int) (s : Bytes) : Int × Dev := match D.dead with
  | true => (21, D)
  | false => match D.has a with
    | false => (3, D)
    | true => match ((s.length : Int) != 256) with
      | true => (1, D)
      | false => match D.lives.dead with
        | true => (21, D.lives)
        | false => (0, D.lives.count.put a s)

theorem put_drop {D : Dev} {a : Int} {s c1 : Bytes} {c2 : Bool} {c3 : Int} {c4 : List Int} (hc : D.cells[a.toNat]? = some ⟨c1, c2, c3, c4⟩) (h : decide (c3 > 0) = true) :
    D.put a s = { D with cells := D.cells.set a.toNat ⟨c1, c2, IntKind.i64.wrap (c3 - 1), c4⟩ } := by
  unfold Dev.put; rw [hc]; simp only [h]
theorem put_miss {D : Dev} {a : Int} {s c1 : Bytes} {c2 : Bool} {c3 t : Int} {r : List Int} (hc : D.cells[a.toNat]? = some ⟨c1, c2, c3, t :: r⟩) (h : decide (c3 > 0) = false) :
    D.put a s = { D with cells := D.cells.set a.toNat ⟨c1, c2, c3, r⟩, waits := D.waits ++ [⟨t, s⟩] } := by
  unfold Dev.put; rw [hc]; simp only [h]
theorem put_plain {D : Dev} {a : Int} {s c1 : Bytes} {c2 : Bool} {c3 : Int} (hc : D.cells[a.toNat]? = some ⟨c1, c2, c3, []⟩) (h : decide (c3 > 0) = false) :
    D.put a s = { D with waits := D.waits ++ [⟨a, s⟩] } := by
  unfold Dev.put; rw [hc]; simp only [h]

theorem disk_Write (D : Dev) (a : Int) (s : Bytes) (hn : D.waits.length ≤ 1000000) : AFm Try.prog 1 f_disk_Disk_Write [.ref 0 0, i64 a, bA s] (devH D) (Pure (i64 (D.write a s).1) (devH (D.write a s).2)) := by
  refine af_bodyM 1 hT F_disk_Disk_Write rfl rfl N_disk_Disk_Write rfl rfl ?_
  refine aw_seq (aw_region hT ?_)
  refine aw_cut ⟨⟨84, [(0, .ref 0 0), (1, i64 a), (2, bA s)]⟩, devH D.lives⟩ (D.dead = false ∧ D.has a = true ∧ s.length = 256 ∧ D.lives.dead = false) (aw_block (aw_seq (aw_region hT ?_))) ?_
  · refine callP (af_in [0, 1, 2] (disk_Dead D) rfl rfl rfl) ?_
    refine aw_cond (boolI (fun h => ?_) (fun h => ?_))
    · have e : D.write a s = (21, D) := by unfold Dev.write; rw [h]
      refine aw_seq (aw_region hT ?_)
      refine aw_ret ?_
      rw [e]
      exact retPick [0, 1, 2] ⟨rfl, rfl⟩ rfl
    refine aw_seq (aw_region hT ?_)
    refine callP (af_in [0, 1, 2] (disk_has D a) rfl rfl rfl) ?_
    refine aw_cond (boolI (fun h1 => ?_) (fun h1 => ?_))
    · have h1 : (!(D.has a)) = true := h1
      have e : D.write a s = (3, D) := by unfold Dev.write; rw [h, (Bool.not_eq_true' _).mp h1]
      refine aw_seq (aw_region hT ?_)
      refine aw_ret ?_
      rw [e]
      exact retPick [0, 1, 2] ⟨rfl, rfl⟩ rfl
    have h1 : D.has a = true := (Bool.not_eq_false' _).mp h1
    refine aw_seq (aw_region hT ?_)
    refine aw_cond (boolI (fun h2 => ?_) (fun h2 => ?_))
    · have e : D.write a s = (1, D) := by
        have h2 : (((bx s).length : Int) != 256) = true := h2
        rw [bx_len] at h2
        unfold Dev.write; rw [h, h1, h2]
      refine aw_seq (aw_region hT ?_)
      refine aw_ret ?_
      rw [e]
      exact retPick [0, 1, 2] ⟨rfl, rfl⟩ rfl
    have h2 : ((s.length : Int) != 256) = false := by
      have h2 : (((bx s).length : Int) != 256) = false := h2
      rw [bx_len] at h2; exact h2
    refine aw_seq (aw_region hT ?_)
    refine callP (af_in [0, 1, 2] (disk_lives D) rfl rfl rfl) ?_
    refine aw_cond (boolI (fun h3 => ?_) (fun h3 => ?_))
    · have e : D.write a s = (21, D.lives) := by unfold Dev.write; rw [h, h1, h2, not_not h3]
      refine aw_seq (aw_region hT ?_)
      refine aw_ret ?_
      rw [e]
      exact retPick [0, 1, 2] ⟨rfl, rfl⟩ rfl
    refine aw_skip ⟨wk_pick [0, 1, 2] [0, 1, 2] rfl, h, h1, ?_, not_not h3⟩
    have : (s.length : Int) = 256 := by simpa using h2
    omega
  · rintro ⟨h, h1, h2, h3⟩
    have e : D.write a s = (0, D.lives.count.put a s) := by
      unfold Dev.write; rw [h, h1, show ((s.length : Int) != 256) = false by rw [h2]; rfl, h3]
    rw [e]
    have hlt : a.toNat < D.cells.length ∧ 0 ≤ a ∧ a < (D.cells.length : Int) := by
      have h1 : (decide (a ≥ 0) && decide (a < (D.cells.length : Int))) = true := h1
      rw [Bool.and_eq_true, decide_eq_true_eq, decide_eq_true_eq] at h1
      omega
    have hc := List.getElem?_eq_getElem hlt.1
    generalize D.cells[a.toNat] = c at hc
    obtain ⟨c1, c2, c3, c4⟩ := c
    have g1 : (cx D.cells)[0 + a.toNat]? = some (Cell.pv ⟨c1, c2, c3, c4⟩) := by rw [Nat.zero_add]; exact cx_get hc
    have g2 : ∀ e, ((cx D.cells).set (0 + a.toNat) e)[0 + a.toNat]? = some e := fun e => by
      rw [Nat.zero_add]; exact List.getElem?_set_self (by rw [cx_len]; exact hlt.1)
    refine aw_seq (aw_region hT ?_)
    refine aw_seq (aw_region hT ?_)
    refine ⟨⟨hlt.2.1, hlt.2.2⟩, ?_⟩
    refine aw_cut2 (fun s1 => ∃ C b, s1 = ⟨⟨84, [(0, .ref 0 0), (1, i64 b), (2, bA s)]⟩, devH { D.lives.count with cells := C }⟩ ∧ D.lives.count.put a s = { D.lives.count with cells := C, waits := D.waits ++ [⟨b, s⟩] }) (aw_block (aw_seq (aw_region hT ?_))) ?_
    · refine optI g1 ?_
      refine aw_cond (boolI (fun h4 => ?_) (fun h4 => ?_))
      · have h4 : decide (c3 > 0) = true := h4
        have ep : D.lives.count.put a s = { D.lives.count with cells := D.cells.set a.toNat ⟨c1, c2, IntKind.i64.wrap (c3 - 1), c4⟩ } := put_drop (D := D.lives.count) hc h4
        refine aw_seq (aw_region hT ?_)
        refine optI g1 ?_
        refine optI g1 ?_
        refine aw_seq (aw_region hT ?_)
        refine aw_ret ?_
        rw [ep]
        exact retPick [0, 1, 2] ⟨rfl, (devH_set D.lives.count a.toNat ⟨c1, c2, IntKind.i64.wrap (c3 - 1), c4⟩).symm⟩ rfl
      · have h4 : decide (c3 > 0) = false := h4
        refine aw_seq (aw_region hT ?_)
        refine optI g1 ?_
        refine aw_cond (boolI (fun h5 => ?_) (fun h5 => ?_))
        · cases c4 with
          | nil => cases h5
          | cons t r =>
            have ep : D.lives.count.put a s = { D.lives.count with cells := D.cells.set a.toNat ⟨c1, c2, c3, r⟩, waits := D.waits ++ [⟨t, s⟩] } := put_miss (D := D.lives.count) hc h4
            refine aw_draw [15] [] hT follows_mixed (by rfl) ?_
            refine optI g1 ?_
            refine ⟨Int.le_refl _, optI rfl ?_⟩
            refine optI g1 ?_
            refine ⟨⟨by omega, by rw [ix_len]; simp; omega, Int.le_refl _⟩, ?_⟩
            refine optI g1 ?_
            refine ⟨_, wk_pick [0, 1, 2] [0, 1, 2] rfl, D.cells.set a.toNat ⟨c1, c2, c3, r⟩, t, ?_, ep⟩
            refine congrArg (St.mk _) ?_
            refine Eq.trans ?_ (devH_set D.lives.count a.toNat ⟨c1, c2, c3, r⟩).symm
            show [_, ABlk.row t_disk_cell 4 ((cx D.cells).set (0 + a.toNat) [bP c1, .raw (.bool c2), .raw (.int .i64 c3), .sl 1 ((ix r).take (ix r).length)]), _] = _
            rw [List.take_length]
            rfl
        · have h5 : ¬ ((ix c4).length : Int) > 0 := of_decide_eq_false h5
          have hc4 : c4 = [] := by cases c4 with | nil => rfl | cons t r => exact absurd (show ((ix (t :: r)).length : Int) > 0 by rw [ix_len]; simp) h5
          subst hc4
          refine aw_skip ⟨_, wk_pick [0, 1, 2] [0, 1, 2] rfl, D.cells, a, rfl, put_plain (D := D.lives.count) hc h4⟩
    · rintro _ ⟨C, b, rfl, ep⟩
      rw [ep]
      refine aw_seq ?_
      refine aw_draw [9, 10, 13] [] hT follows_mixed (by rfl) ?_
      refine ⟨_, af_at (clone_u8 s (by omega)) _ rfl rfl, ?_⟩
      refine ⟨wx_len _, ⟨?_, ?_⟩, ?_⟩
      · show ((wx D.waits).length + 1) * 32 ≤ 140737488355328
        rw [wx_len]; omega
      · show (wx D.waits).length + 1 ≤ 140737488355328
        rw [wx_len]; omega
      refine ⟨rfl, ?_⟩
      refine aw_seq (aw_region hT ?_)
      refine aw_ret ?_
      exact retPick [0, 1, 4] ⟨rfl, (devH_put { D.lives.count with cells := C } ⟨b, s⟩).symm⟩ rfl
end Go.Proofs.Ytolefphdldmlkaa.AL
