/- The layer 06 (disk): a copy. -/
import Derived.Test.YtolefphdldmlkaaBDx
namespace Go.Proofs.Ytolefphdldmlkaa.AL
open Go Go.Proofs

theorem src_row (t : TypeId) (sz : Nat) (xs : List (List PV)) (r : List ABlk) : srcOf (.row t sz xs :: r) sz (.msl 0 sz 0 xs.length) = some xs := by
  have h : Nat.ble xs.length xs.length = true := by rw [Nat.ble_eq]; exact Nat.le_refl _
  simp [srcOf, h]

theorem clone_cells (xs : List (List PV)) (hl : xs.length ≤ 1000000) : AFm Try.prog 1 f_slices_Clone_disk_cell [.msl 0 4 0 xs.length] [.row t_disk_cell 4 xs] (Pure (.msl 1 4 0 xs.length) [.row t_disk_cell 4 xs, .row t_disk_cell 4 xs]) := by
  refine af_bodyM 1 hT F_slices_Clone_disk_cell rfl rfl N_slices_Clone_disk_cell rfl rfl ?_
  refine aw_seq (aw_region hT ?_)
  refine aw_seq (aw_seq (aw_region hT ?_))
  intro b hn
  refine aw_cond (boolI (fun h => ?_) (fun h => ?_))
  · refine aw_seq (aw_region hT ?_)
    refine aw_ret ?_
    have hx : xs = [] := List.length_eq_zero_iff.1 (hn h)
    subst hx
    exact ⟨_, _, Wk.trans (wk_phantom t_disk_cell 4) (Wk.trans (wk_nil 0 1 4 0 rfl) (wk_pick [0, 1] [0] rfl)), rfl, rfl⟩
  · refine aw_skip ?_
    refine aw_seq (aw_region hT ?_)
    refine optI (src_row t_disk_cell 4 xs _) ?_
    refine ⟨rfl, ⟨?_, ?_⟩, ?_⟩
    · show (0 + xs.length) * 64 ≤ _; omega
    · show 0 + xs.length ≤ _; omega
    refine aw_ret ?_
    exact retPick [0, 2] ⟨rfl, rfl⟩ rfl

theorem clone_writes (xs : List (List PV)) (hl : xs.length ≤ 1000000) : AFm Try.prog 1 f_slices_Clone_disk_write [.msl 0 2 0 xs.length] [.row t_disk_write 2 xs] (Pure (.msl 1 2 0 xs.length) [.row t_disk_write 2 xs, .row t_disk_write 2 xs]) := by
  refine af_bodyM 1 hT F_slices_Clone_disk_write rfl rfl N_slices_Clone_disk_write rfl rfl ?_
  refine aw_seq (aw_region hT ?_)
  refine aw_seq (aw_seq (aw_region hT ?_))
  intro b hn
  refine aw_cond (boolI (fun h => ?_) (fun h => ?_))
  · refine aw_seq (aw_region hT ?_)
    refine aw_ret ?_
    have hx : xs = [] := List.length_eq_zero_iff.1 (hn h)
    subst hx
    exact ⟨_, _, Wk.trans (wk_phantom t_disk_write 2) (Wk.trans (wk_nil 0 1 2 0 rfl) (wk_pick [0, 1] [0] rfl)), rfl, rfl⟩
  · refine aw_skip ?_
    refine aw_seq (aw_region hT ?_)
    refine optI (src_row t_disk_write 2 xs _) ?_
    refine ⟨rfl, ⟨?_, ?_⟩, ?_⟩
    · show (0 + xs.length) * 32 ≤ _; omega
    · show 0 + xs.length ≤ _; omega
    refine aw_ret ?_
    exact retPick [0, 2] ⟨rfl, rfl⟩ rfl

theorem disk_Copy (D : Dev) (hc : D.cells.length ≤ 1000000) (hn : D.waits.length ≤ 1000000) : AFm Try.prog 3 f_disk_Disk_Copy [.ref 0 0] (devH D) (Pure (.ref 3 0) (devH D ++ [devC D 4 5, .row t_disk_cell 4 (cx D.cells), .row t_disk_write 2 (wx D.waits)])) := by
  have c1 := clone_cells (cx D.cells) (by rw [cx_len]; exact hc)
  have c2 := clone_writes (wx D.waits) (by rw [wx_len]; exact hn)
  rw [cx_len] at c1
  rw [wx_len] at c2
  refine af_bodyM 3 hT F_disk_Disk_Copy rfl rfl N_disk_Disk_Copy rfl rfl ?_
  refine aw_seq (aw_region hT ?_)
  refine aw_seq (aw_seq (aw_region hT ?_))
  refine aw_cond ?_
  refine aw_skip ?_
  refine aw_seq (aw_region hT ?_)
  refine aw_seq ?_
  refine aw_draw [4, 9, 11, 13] [] hT follows_mixed (by rfl) ?_
  refine ⟨_, _, af_in [1] c1 rfl rfl rfl, ?_⟩
  refine ⟨_, _, af_in [2] c2 rfl rfl rfl, ?_⟩
  refine ⟨rfl, ?_⟩
  refine aw_seq (aw_region hT ?_)
  refine aw_ret ?_
  exact retPick [0, 1, 2, 3, 4, 5] ⟨rfl, rfl⟩ rfl
end Go.Proofs.Ytolefphdldmlkaa.AL
