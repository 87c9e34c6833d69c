/- A write of bytes that are changed later. -/
import Derived.Test.YtolefphdldmlkaaBEf
namespace Go.Proofs.Ytolefphdldmlkaa.AL
open Go Go.Proofs

abbrev wmH (D : Dev) (s : Bytes) : List ABlk := [devC D 2 3, .row t_u8 1 (bx s), .row t_disk_cell 4 (cx D.cells), .row t_disk_write 2 (wx D.waits)]
theorem wmH_put (D : Dev) (s : Bytes) (x : Wr) : wmH { D with waits := D.waits ++ [x] } s = [.cells t_disk_Disk [.msl 2 4 0 D.cells.length, .msl 3 2 0 (wx D.waits ++ [x.pv]).length, bl D.armed, bl D.dead, i64 D.left, i64 D.ops], .row t_u8 1 (bx s), .row t_disk_cell 4 (cx D.cells), .row t_disk_write 2 (wx D.waits ++ [x.pv])] := by
  unfold wmH devC; rw [← wx_put, wx_len]

theorem flat_bx (s : Bytes) : flatH [ABlk.row t_u8 1 (bx s)] := by
  intro k hk
  obtain rfl : k = ABlk.row t_u8 1 (bx s) := by simpa using hk
  intro e he u hu
  obtain ⟨b, _, rfl⟩ := List.mem_map.1 he
  obtain rfl : u = u8 b := by simpa using hu
  trivial

theorem disk_WriteM (D : Dev) (a : Int) (s : Bytes) (hn : D.waits.length ≤ 1000000) (hs : s.length = 256) (h : D.dead = false) (h1 : D.has a = true) (hl : D.lives.dead = false) (c1 : Bytes) (c2 : Bool) (hc : D.cells[a.toNat]? = some ⟨c1, c2, 0, []⟩) :
    AFm Try.prog 2 f_disk_Disk_Write [.ref 0 0, i64 a, .msl 1 1 0 256] (wmH D s) (Pure (i64 0) (wmH { D.lives.count with waits := D.waits ++ [⟨a, s⟩] } s)) := by
  obtain ⟨N, hN⟩ : ∃ N : Nat, N = 256 := ⟨_, rfl⟩
  rw [← hN]
  refine af_bodyM 2 hT F_disk_Disk_Write rfl rfl N_disk_Disk_Write rfl rfl ?_
  refine aw_seq (aw_region hT ?_)
  refine aw_cut ⟨⟨84, [(0, .ref 0 0), (1, i64 a), (2, .msl 1 1 0 N)]⟩, wmH D.lives s⟩ True (aw_block (aw_seq (aw_region hT ?_))) (fun _ => ?_)
  · refine callP (af_in [0, 2, 3] (disk_Dead D) rfl rfl rfl) ?_
    refine aw_cond (boolI (fun h2 => ?_) (fun h2 => ?_))
    · rw [h] at h2; cases h2
    refine aw_seq (aw_region hT ?_)
    refine callP (af_in [0, 2, 3] (disk_has D a) rfl rfl rfl) ?_
    refine aw_cond (boolI (fun h2 => ?_) (fun h2 => ?_))
    · have h2 : (!(D.has a)) = true := h2
      rw [h1] at h2; cases h2
    refine aw_seq (aw_region hT ?_)
    refine aw_cond (boolI (fun h2 => ?_) (fun h2 => ?_))
    · have h2 : ((N : Int) != 256) = true := h2
      rw [hN] at h2; cases h2
    refine aw_seq (aw_region hT ?_)
    refine callP (af_in [0, 2, 3] (disk_lives D) rfl rfl rfl) ?_
    refine aw_cond (boolI (fun h3 => ?_) (fun h3 => ?_))
    · have h3 := not_not h3
      rw [hl] at h3; cases h3
    exact aw_skip ⟨wk_pick [0, 1, 2, 3] [0, 1, 2] rfl, trivial⟩
  · have hlt := has_iff h1
    have g1 : (cx D.cells)[0 + a.toNat]? = some (Cell.pv ⟨c1, c2, 0, []⟩) := by rw [Nat.zero_add]; exact cx_get hc
    refine aw_seq (aw_region hT ?_)
    refine aw_seq (aw_region hT ?_)
    refine ⟨⟨hlt.2.1, hlt.2.2⟩, ?_⟩
    refine aw_cut ⟨⟨84, [(0, .ref 0 0), (1, i64 a), (2, .msl 1 1 0 N)]⟩, wmH D.lives.count s⟩ True (aw_block (aw_seq (aw_region hT ?_))) (fun _ => ?_)
    · refine optI g1 ?_
      refine aw_cond ?_
      refine aw_seq (aw_region hT ?_)
      refine optI g1 ?_
      refine aw_cond ?_
      refine aw_skip ?_
      exact ⟨wk_pick [0, 1, 2, 3] [0, 1, 2] rfl, trivial⟩
    refine aw_seq ?_
    refine aw_draw [7, 9, 10, 13] [7] hT follows_mixed (by rfl) ?_
    have lend := af_lent (clone_u8M s (by omega)) 1 (H := wmH D.lives.count s) (args := [.msl 1 1 0 N]) (t := t_u8) (sz := 1) (xs := bx s) rfl ⟨.inr (.inl ⟨by rw [bx_len, hs, hN], rfl⟩), trivial⟩ rfl (flat_bx s)
    refine ⟨_, _, lend, ?_⟩
    refine ⟨⟨rfl, (bx_len s).symm⟩, ?_⟩
    refine ⟨wx_len _, ⟨?_, ?_⟩, ?_⟩
    · show ((wx D.waits).length + 1) * 32 ≤ 140737488355328
      rw [wx_len]; omega
    · show (wx D.waits).length + 1 ≤ 140737488355328
      rw [wx_len]; omega
    refine ⟨rfl, rfl, ?_⟩
    refine aw_seq (aw_region hT ?_)
    refine aw_ret ?_
    exact retPick [0, 1, 2, 5] ⟨rfl, (wmH_put D.lives.count s ⟨a, s⟩).symm⟩ rfl
end Go.Proofs.Ytolefphdldmlkaa.AL
