/- The law DiskNone. -/
import Derived.Test.YtolefphdldmlkaaBEg
namespace Go.Proofs.Ytolefphdldmlkaa.AL
open Go Go.Proofs

abbrev noH (D : Dev) (s : Bytes) : List ABlk := [devC D 1 2, .row t_disk_cell 4 (cx D.cells), .row t_disk_write 2 (wx D.waits), .row t_u8 1 (bx s)]

theorem none_facts (b : UInt8) : ∃ D D1 D2 : Dev, Dev.new 3 = D ∧ D.Ok 0 ∧ D.dead = false ∧ D.has 1 = true ∧ D.lives.dead = false ∧ D.cells[(1 : Int).toNat]? = some ⟨zeros, false, 0, []⟩ ∧
    ({ D.lives.count with waits := D.waits ++ [⟨1, sect b⟩] } : Dev) = D1 ∧ D1.Ok 1 ∧ D1.dead = false ∧ D1.has 1 = true ∧ lastW (hitA 1) D1.waits = some ⟨1, sect b⟩ ∧ D1.count = D2 ∧ D2.Ok 1 ∧ D2.holds 1 b = true := by
  have o := ok_new 3 0
  have o1 : ({ (Dev.new 3).lives.count with waits := (Dev.new 3).waits ++ [(⟨1, sect b⟩ : Wr)] } : Dev).Ok 1 := o.lives.count.wait (x := ⟨1, sect b⟩) ⟨by show (0 : Int) ≤ 1; omega, by show (1 : Int) < ((List.replicate 3 cell1).length : Int); rw [List.length_replicate]; omega⟩ (sect_len b)
  refine ⟨_, _, _, rfl, o, rfl, rfl, rfl, rfl, rfl, o1, rfl, rfl, rfl, rfl, o1.count, ?_⟩
  unfold Dev.holds
  show (match (0 : Int) == 0 with | true => sect b == sect b | false => false) = true
  simp

set_option maxRecDepth 8000 in
set_option maxHeartbeats 1000000 in
theorem disk_none (a : Int) (b : UInt8) : AF Try.prog f_law06_DiskNone [i64 a, .p (u8 b)] [] (Pure (bl true) []) := by
  obtain ⟨D, D1, D2, e0, o0, d0, h0, l0, c0, e1, o1, d1, h1, w1, e2, o2, hb⟩ := none_facts b
  have n1 := disk_New 3 (by omega) (by omega)
  rw [e0] at n1
  have y1 := law06_Sector b
  have y2 := law06_SectorM b
  have ww := disk_WriteM D 1 (sect b) (o0.big (by omega)).2.1 (sect_len b) d0 h0 l0 zeros false c0
  rw [e1] at ww
  have wr := disk_ReadM D1 1 ⟨1, sect b⟩ (o1.big (by omega)).2.1 (o1.big (by omega)).2.2.1 d1 h1 w1
  rw [e2] at wr
  have wh := law06_has D2 1 b _ o2 (by omega)
  rw [hb] at wh
  have hl := sect_len b
  generalize sect b = sb at y1 y2 ww wr hl
  generalize (D2.read 1).2 = D3 at wh
  refine af_body hT F_law06_DiskNone rfl rfl N_law06_DiskNone rfl ?_
  refine aw_seq (aw_region hT ?_)
  refine aw_seq (aw_region hT ?_)
  refine callP law06_awake ?_
  refine aw_seq (aw_seq (aw_region hT ?_))
  refine aw_cond ?_
  refine aw_skip ?_
  refine aw_seq (aw_region hT ?_)
  refine aw_seq (aw_region hT ?_)
  refine callP (nil_Read a) ?_
  refine aw_seq (aw_region hT ?_)
  refine callP y1 ?_
  refine callP (nil_Write a sb) ?_
  refine aw_seq (aw_region hT ?_)
  refine callP nil_Flush ?_
  refine aw_seq (aw_region hT ?_)
  refine callP (nil_Fault ⟨3, a, 0, 0, 0, 0, 0, 0, 0⟩) ?_
  refine aw_seq (aw_region hT ?_)
  refine callP (nil_Arm a) ?_
  refine aw_cut ⟨⟨109, [(1, .p (u8 b)), (6, nilP), (8, i64 21), (9, i64 21), (10, i64 21), (11, i64 3)]⟩, []⟩ True (aw_region hT ?_) (fun _ => ?_)
  · refine callP nil_Crash ?_
    exact ⟨wk_pick [] [1, 6, 8, 9, 10, 11] rfl, trivial⟩
  refine aw_seq (aw_region hT ?_)
  refine callP n1 ?_
  refine aw_seq (aw_region hT ?_)
  refine callP (af_lift y2 _ rfl) ?_
  refine aw_cut ⟨⟨109, [(1, .p (u8 b)), (6, nilP), (8, i64 21), (9, i64 21), (10, i64 21), (11, i64 3), (12, .ref 0 0), (14, .msl 3 1 0 256)]⟩, noH D1 sb⟩ True (aw_region hT ?_) (fun _ => ?_)
  · refine callP (af_in [0, 3, 1, 2] ww rfl rfl rfl) ?_
    exact ⟨wk_pick [0, 4, 5, 3] [1, 6, 8, 9, 10, 11, 12, 14] rfl, trivial⟩
  have g0 : (bx sb)[0 + 0]? = some [u8 (sb[0]'(by omega))] := by rw [bx, List.getElem?_map, List.getElem?_eq_getElem (by omega)]; rfl
  have g9 : (bx sb)[0 + 9]? = some [u8 (sb[9]'(by omega))] := by rw [bx, List.getElem?_map, List.getElem?_eq_getElem (by omega)]; rfl
  refine aw_cut ⟨⟨109, [(1, .p (u8 b)), (6, nilP), (8, i64 21), (9, i64 21), (10, i64 21), (11, i64 3), (12, .ref 0 0)]⟩, devH D1⟩ True (aw_region hT ?_) (fun _ => ?_)
  · refine ⟨⟨by omega, by omega⟩, ?_⟩
    refine optI g0 ?_
    refine ⟨⟨by omega, by omega⟩, ?_⟩
    refine optI g0 ?_
    exact ⟨wk_pick [0, 1, 2] [1, 6, 8, 9, 10, 11, 12] rfl, trivial⟩
  refine aw_cut ⟨⟨109, [(1, .p (u8 b)), (6, nilP), (8, i64 21), (9, i64 21), (10, i64 21), (11, i64 3), (12, .ref 0 0), (15, .msl 3 1 0 sb.length)]⟩, noH D2 sb⟩ True (aw_region hT ?_) (fun _ => ?_)
  · refine callP (af_in [0, 1, 2] wr rfl rfl rfl) ?_
    exact ⟨wk_pick [0, 1, 2, 3] [1, 6, 8, 9, 10, 11, 12, 15] rfl, trivial⟩
  refine aw_seq (aw_seq (aw_region hT ?_))
  refine aw_cond (boolI (fun h => ?_) (fun h => ?_))
  · have h : ((sb.length : Int) != 256) = true := h
    rw [hl] at h; cases h
  refine aw_skip ?_
  refine aw_cut ⟨⟨109, [(1, .p (u8 b)), (6, nilP), (8, i64 21), (9, i64 21), (10, i64 21), (11, i64 3), (12, .ref 0 0)]⟩, devH D2⟩ True (aw_region hT ?_) (fun _ => ?_)
  · refine ⟨⟨by omega, by omega⟩, ?_⟩
    refine optI g9 ?_
    refine ⟨⟨by omega, by omega⟩, ?_⟩
    refine optI g9 ?_
    exact ⟨wk_pick [0, 1, 2] [1, 6, 8, 9, 10, 11, 12] rfl, trivial⟩
  refine aw_seq (aw_region hT ?_)
  refine callP (af_at nil_Len _ rfl rfl) ?_
  refine callP (af_at nil_Ops _ rfl rfl) ?_
  refine callP (af_at nil_Dead _ rfl rfl) ?_
  refine callP (af_at nil_Copy _ rfl rfl) ?_
  refine callP (af_in [0, 1, 2] wh rfl rfl rfl) ?_
  refine aw_ret ?_
  exact retPick [] ⟨rfl, rfl⟩ rfl
end Go.Proofs.Ytolefphdldmlkaa.AL
