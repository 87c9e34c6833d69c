/- The law DiskRots, walked. -/
import Derived.Test.YtolefphdldmlkaaBEc
import Derived.Test.YtolefphdldmlkaaBDy
namespace Go.Proofs.Ytolefphdldmlkaa.AL
open Go Go.Proofs

abbrev dev2 (A B : Dev) : List ABlk := [devC A 1 2, .row t_disk_cell 4 (cx A.cells), .row t_disk_write 2 (wx A.waits), devC B 4 5, .row t_disk_cell 4 (cx B.cells), .row t_disk_write 2 (wx B.waits)]

set_option maxRecDepth 8000 in
set_option maxHeartbeats 1000000 in
theorem disk_rots (l : List Op06) (f : Flt) (v : UInt8) : AF Try.prog f_law06_DiskRots [.p (.sl 14 (opx l)), f.av, .p (u8 v)] [] (Pure (bl true) []) := by
  refine af_body hT F_law06_DiskRots rfl rfl N_law06_DiskRots rfl ?_
  refine aw_seq (aw_region hT ?_)
  refine aw_wk (Wk.trans (wk_boxL 0 f.pv rfl rfl) (wk_pick [] [0, 2, 4] rfl)) ?_
  refine aw_seq (aw_region hT ?_)
  refine callP law06_awake ?_
  refine aw_cut ⟨⟨169, [(0, .p (.sl 14 (opx l))), (2, .p (u8 v)), (4, .p (.box f.pv))]⟩, []⟩ (l.length ≤ 40 ∧ 0 ≤ f.at_ ∧ f.at_ < 20) (aw_seq (aw_region hT ?_)) ?_
  · refine boolI (fun h => ?_) (fun h => ?_)
    · refine aw_cond ?_
      refine aw_seq (aw_region hT ?_)
      refine aw_ret ?_
      exact retPick [] ⟨rfl, rfl⟩ rfl
    · refine boolI (fun h2 => ?_) (fun h2 => ?_)
      · refine aw_cond ?_
        refine aw_seq (aw_region hT ?_)
        refine aw_ret ?_
        exact retPick [] ⟨rfl, rfl⟩ rfl
      · refine aw_cond (boolI (fun h3 => ?_) (fun h3 => ?_))
        · refine aw_seq (aw_region hT ?_)
          refine aw_ret ?_
          exact retPick [] ⟨rfl, rfl⟩ rfl
        · have h : decide (((opx l).length : Int) > 40) = false := h
          have h2 : decide (f.at_ < 0) = false := h2
          have h3 : decide (f.at_ > 19) = false := h3
          have h := of_decide_eq_false h
          have h2 := of_decide_eq_false h2
          have h3 := of_decide_eq_false h3
          rw [opx_len] at h
          exact aw_skip ⟨wk_pick [] [0, 2, 4] rfl, by omega, by omega, by omega⟩
  rintro ⟨hn, ha, hb⟩
  have n1 := disk_New 20 (by omega) (by omega)
  have q1 := plain_new
  generalize Dev.new 20 = D1 at n1 q1
  refine aw_seq (aw_region hT ?_)
  refine callP n1 ?_
  refine aw_cut2 (fun s1 => ∃ D L, PlainOk D L 100 ∧ s1 = ⟨⟨169, [(2, .p (u8 v)), (4, .p (.box f.pv)), (8, .ref 0 0)]⟩, devH D⟩) (aw_seq (aw_region hT ?_)) ?_
  · refine aw_block ?_
    refine aw_loopW (fun n s => ∃ (i : Nat) (j : Int) (D : Dev) (L : Bytes), n + i = l.length ∧ j = i ∧ PlainOk D L i ∧ s = ⟨⟨169, [(0, .p (.sl 14 (opx l))), (2, .p (u8 v)), (4, .p (.box f.pv)), (8, .ref 0 0), (10, i64 j)]⟩, devH D⟩) l.length ⟨⟨169, _⟩, [_, _, _]⟩ (wk_pick [0, 1, 2] [0, 2, 4, 8, 10] rfl) ⟨0, 0, D1, _, rfl, rfl, q1, rfl⟩ ?_
    rintro n s ⟨i, j, D, L, hni, rfl, hp, rfl⟩
    refine aw_seq (aw_seq (aw_region hT ?_))
    refine aw_cond (boolI (fun h => ?_) (fun h => ?_))
    · have hi : i < l.length := by
        have := of_decide_eq_true (show decide ((i : Int) < ((opx l).length : Int)) = true from h)
        rw [opx_len] at this; omega
      have hx := List.getElem?_eq_getElem hi
      generalize l[i] = x at hx
      have hx : (opx l)[((i : Nat) : Int).toNat]? = some x.pv := by rw [Int.toNat_natCast]; exact opx_get hx
      refine aw_skip ?_
      refine aw_cut2 (fun s1 => ∃ D L, PlainOk D L (i + 1) ∧ s1 = ⟨⟨169, [(0, .p (.sl 14 (opx l))), (2, .p (u8 v)), (4, .p (.box f.pv)), (8, .ref 0 0), (10, i64 i)]⟩, devH D⟩) (aw_block (aw_seq (aw_region hT ?_))) ?_
      · refine ⟨Int.natCast_nonneg _, optI hx ?_⟩
        refine aw_cond (boolI (fun h2 => ?_) (fun h2 => ?_))
        · have h2 : decide (x.kind < 2) = true := h2
          have w := law06_Does D x i hp.ok (by omega)
          obtain ⟨L', hp2⟩ := plain_does hp x (of_decide_eq_true h2)
          generalize D.does x = R at w hp2
          refine aw_region hT ?_
          refine ⟨Int.natCast_nonneg _, optI hx ?_⟩
          refine callP (af_in [0, 1, 2] w rfl rfl rfl) ?_
          exact ⟨_, wk_pick [0, 3, 4] [0, 2, 4, 8, 10] rfl, R.2, L', hp2, rfl⟩
        · refine aw_skip ?_
          exact ⟨_, wk_pick [0, 1, 2] [0, 2, 4, 8, 10] rfl, D, L, hp.mono, rfl⟩
      · rintro _ ⟨D, L, hp, rfl⟩
        refine aw_region hT ?_
        refine ⟨n - 1, by omega, _, wk_pick [0, 1, 2] [0, 2, 4, 8, 10] rfl, i + 1, IntKind.i64.wrap ((i : Int) + 1), D, L, by omega, ?_, hp, rfl⟩
        rw [wrap64 _ (by omega) (by omega)]; rfl
    · refine aw_exit ?_
      exact ⟨_, wk_pick [0, 1, 2] [2, 4, 8] rfl, D, L, ⟨hp.ok.mono (by omega), hp.len, hp.dead, hp.armed, hp.pl, hp.ll, hp.val⟩, rfl⟩
  · rintro _ ⟨D, L, hp, rfl⟩
    have big := hp.ok.big (show 100 ≤ 1000000 by omega)
    have cp := disk_Copy D (by rw [hp.len]; omega) big.2.1
    have rd : ∀ {D : Dev} {b : Nat}, D.Ok b → b ≤ 1000 → AFm Try.prog 3 f_disk_Disk_Read [.ref 0 0, i64 f.at_] (devH D) (Pure (.tup [bA (D.read f.at_).1.1, i64 (D.read f.at_).1.2]) (devH (D.read f.at_).2)) := fun {D b} v h =>
      disk_Read D f.at_ (v.big (by omega)).2.1 (v.big (by omega)).2.2.1 (v.big (by omega)).2.2.2
    obtain ⟨v1, p2⟩ := plain_view hp ha hb
    have r1 := rd hp.ok (by omega)
    obtain ⟨was, hwas⟩ : ∃ w, sect (L.getD f.at_.toNat 0) = w := ⟨_, rfl⟩
    rw [hwas] at v1
    rw [v1] at r1
    have sw := ref04_Same was was (by rw [← hwas, sect_len]; omega)
    rw [beq_self_eq_true] at sw
    generalize hD2 : (D.read f.at_).2 = D2 at r1 p2
    obtain ⟨g1, g2, p4, o3⟩ := rots p2 ha hb f.off f.m0 f.m1 f.m2 f.m3 ⟨1, f.at_, f.off, 0, 0, f.m0, f.m1, f.m2, f.m3⟩ rfl
    have w2 := disk_Fault D2 ⟨1, f.at_, f.off, 0, 0, f.m0, f.m1, f.m2, f.m3⟩ 100 p2.ok (by omega)
    have w3 := disk_Fault (D2.fault ⟨1, f.at_, f.off, 0, 0, f.m0, f.m1, f.m2, f.m3⟩).2 ⟨1, f.at_, f.off, 0, 0, f.m0, f.m1, f.m2, f.m3⟩ 101 o3 (by omega)
    rw [g2] at w3
    generalize (D2.fault ⟨1, f.at_, f.off, 0, 0, f.m0, f.m1, f.m2, f.m3⟩).1 = e at g1 w2 w3
    generalize ((D2.fault ⟨1, f.at_, f.off, 0, 0, f.m0, f.m1, f.m2, f.m3⟩).2.fault ⟨1, f.at_, f.off, 0, 0, f.m0, f.m1, f.m2, f.m3⟩).2 = D4 at w3 p4
    generalize (D2.fault ⟨1, f.at_, f.off, 0, 0, f.m0, f.m1, f.m2, f.m3⟩).2 = D3 at w2 w3
    obtain ⟨v4, p5⟩ := plain_view p4 ha hb
    have r4 := rd p4.ok (by omega)
    rw [hwas] at v4
    rw [v4] at r4
    generalize (D4.read f.at_).2 = D5 at r4 p5
    obtain ⟨h6, q6, c6⟩ := lose_read p5 ha hb
    have w5 := disk_Fault D5 ⟨3, f.at_, 0, 0, 0, 0, 0, 0, 0⟩ 100 p5.ok (by omega)
    have o6 := p5.ok.fault ⟨3, f.at_, 0, 0, 0, 0, 0, 0, 0⟩
    generalize (D5.fault ⟨3, f.at_, 0, 0, 0, 0, 0, 0, 0⟩).1 = e5 at w5
    generalize (D5.fault ⟨3, f.at_, 0, 0, 0, 0, 0, 0, 0⟩).2 = D6 at h6 q6 c6 w5 o6
    have r6 := rd o6 (by omega)
    rw [h6] at r6
    generalize (D6.read f.at_).1.1 = s6 at r6
    generalize (D6.read f.at_).2 = D7 at r6 q6 c6
    obtain ⟨h9, o8, o9⟩ := again_has q6 ha hb c6 v
    have w7 := disk_Write D7 f.at_ (sect v) (q6.ok.big (by omega)).2.1
    generalize (D7.write f.at_ (sect v)).1 = e7 at w7
    generalize (D7.write f.at_ (sect v)).2 = D8 at w7 h9 o8 o9
    have w8 := disk_Flush D8 (o8.big (by omega)).1 (o8.big (by omega)).2.1
    generalize D8.flush.1 = e8 at w8
    generalize D8.flush.2 = D9 at w8 h9 o9
    have w9 := law06_has D9 f.at_ v _ o9 (by omega)
    rw [h9] at w9
    generalize (D9.read f.at_).2 = D10 at w9
    refine aw_cut ⟨⟨169, [(2, .p (u8 v)), (4, .p (.box f.pv)), (8, .ref 0 0), (11, .ref 3 0)]⟩, dev2 D D⟩ True (aw_region hT ?_) (fun _ => ?_)
    · refine callP (af_in [0, 1, 2] cp rfl rfl rfl) ?_
      exact ⟨wk_pick [0, 1, 2, 3, 4, 5] [2, 4, 8, 11] rfl, trivial⟩
    refine aw_cut ⟨⟨169, [(2, .p (u8 v)), (4, .p (.box f.pv)), (8, .ref 0 0), (11, .ref 3 0), (12, bA was)]⟩, dev2 D2 D⟩ True (aw_region hT ?_) (fun _ => ?_)
    · refine callP (af_in [0, 1, 2] r1 rfl rfl rfl) ?_
      exact ⟨wk_pick [0, 1, 2, 3, 4, 5] [2, 4, 8, 11, 12] rfl, trivial⟩
    refine aw_cut ⟨⟨169, [(2, .p (u8 v)), (4, .p (.box f.pv)), (8, .ref 0 0), (11, .ref 3 0), (12, bA was), (14, .p (.box (Flt.pv ⟨1, f.at_, f.off, 0, 0, f.m0, f.m1, f.m2, f.m3⟩)))]⟩, dev2 D2 D⟩ True (aw_region hT ?_) (fun _ => ?_)
    · exact ⟨Wk.trans (wk_boxL 6 (Flt.pv ⟨1, f.at_, f.off, 0, 0, f.m0, f.m1, f.m2, f.m3⟩) rfl rfl) (wk_pick [0, 1, 2, 3, 4, 5] [2, 4, 8, 11, 12, 14] rfl), trivial⟩
    refine aw_cut ⟨⟨169, [(2, .p (u8 v)), (4, .p (.box f.pv)), (8, .ref 0 0), (11, .ref 3 0), (12, bA was), (14, .p (.box (Flt.pv ⟨1, f.at_, f.off, 0, 0, f.m0, f.m1, f.m2, f.m3⟩))), (15, i64 e)]⟩, dev2 D3 D⟩ True (aw_region hT ?_) (fun _ => ?_)
    · refine callP (af_in [0, 1, 2] w2 rfl rfl rfl) ?_
      exact ⟨wk_pick [0, 1, 2, 3, 4, 5] [2, 4, 8, 11, 12, 14, 15] rfl, trivial⟩
    refine aw_cut ⟨⟨169, [(2, .p (u8 v)), (4, .p (.box f.pv)), (8, .ref 0 0), (11, .ref 3 0), (12, bA was), (15, i64 e), (16, i64 e)]⟩, dev2 D4 D⟩ True (aw_region hT ?_) (fun _ => ?_)
    · refine callP (af_in [0, 1, 2] w3 rfl rfl rfl) ?_
      exact ⟨wk_pick [0, 1, 2, 3, 4, 5] [2, 4, 8, 11, 12, 15, 16] rfl, trivial⟩
    refine aw_cut ⟨⟨169, [(2, .p (u8 v)), (4, .p (.box f.pv)), (8, .ref 0 0), (11, .ref 3 0), (12, bA was), (15, i64 e), (16, i64 e), (17, bA was)]⟩, dev2 D5 D⟩ True (aw_region hT ?_) (fun _ => ?_)
    · refine callP (af_in [0, 1, 2] r4 rfl rfl rfl) ?_
      exact ⟨wk_pick [0, 1, 2, 3, 4, 5] [2, 4, 8, 11, 12, 15, 16, 17] rfl, trivial⟩
    refine aw_cut ⟨⟨169, [(2, .p (u8 v)), (4, .p (.box f.pv)), (8, .ref 0 0), (11, .ref 3 0), (12, bA was), (15, i64 e), (16, i64 e), (19, bl true)]⟩, dev2 D5 D⟩ True (aw_region hT ?_) (fun _ => ?_)
    · refine callP (af_at sw _ rfl rfl) ?_
      exact ⟨wk_pick [0, 1, 2, 3, 4, 5] [2, 4, 8, 11, 12, 15, 16, 19] rfl, trivial⟩
    refine aw_cut ⟨⟨169, [(2, .p (u8 v)), (4, .p (.box f.pv)), (8, .ref 0 0), (11, .ref 3 0), (12, bA was), (15, i64 e), (16, i64 e), (19, bl true)]⟩, dev2 D6 D⟩ True (aw_region hT ?_) (fun _ => ?_)
    · refine callP (af_in [0, 1, 2] w5 rfl rfl rfl) ?_
      exact ⟨wk_pick [0, 1, 2, 3, 4, 5] [2, 4, 8, 11, 12, 15, 16, 19] rfl, trivial⟩
    refine aw_cut ⟨⟨169, [(2, .p (u8 v)), (4, .p (.box f.pv)), (8, .ref 0 0), (11, .ref 3 0), (12, bA was), (15, i64 e), (16, i64 e), (19, bl true), (21, i64 20)]⟩, dev2 D7 D⟩ True (aw_region hT ?_) (fun _ => ?_)
    · refine callP (af_in [0, 1, 2] r6 rfl rfl rfl) ?_
      exact ⟨wk_pick [0, 1, 2, 3, 4, 5] [2, 4, 8, 11, 12, 15, 16, 19, 21] rfl, trivial⟩
    refine aw_cut ⟨⟨169, [(2, .p (u8 v)), (4, .p (.box f.pv)), (8, .ref 0 0), (11, .ref 3 0), (12, bA was), (15, i64 e), (16, i64 e), (19, bl true), (21, i64 20)]⟩, dev2 D8 D⟩ True ?_ (fun _ => ?_)
    · refine aw_draw [5] [] hT follows_mixed (by rfl) ?_
      refine ⟨_, af_at (law06_Sector v) _ rfl rfl, ?_⟩
      refine ⟨_, _, af_in [0, 1, 2] w7 rfl rfl rfl, ?_⟩
      exact ⟨wk_pick [0, 6, 7, 3, 4, 5] [2, 4, 8, 11, 12, 15, 16, 19, 21] rfl, trivial⟩
    refine aw_cut ⟨⟨169, [(2, .p (u8 v)), (4, .p (.box f.pv)), (8, .ref 0 0), (11, .ref 3 0), (12, bA was), (15, i64 e), (16, i64 e), (19, bl true), (21, i64 20)]⟩, dev2 D9 D⟩ True (aw_region hT ?_) (fun _ => ?_)
    · refine callP (af_in [0, 1, 2] w8 rfl rfl rfl) ?_
      exact ⟨wk_pick [0, 6, 7, 3, 4, 5] [2, 4, 8, 11, 12, 15, 16, 19, 21] rfl, trivial⟩
    refine aw_cut ⟨⟨169, [(2, .p (u8 v)), (4, .p (.box f.pv)), (8, .ref 0 0), (11, .ref 3 0), (12, bA was), (15, i64 e), (16, i64 e), (19, bl true), (21, i64 20), (22, bl true)]⟩, dev2 D10 D⟩ True (aw_region hT ?_) (fun _ => ?_)
    · refine callP (af_in [0, 1, 2] w9 rfl rfl rfl) ?_
      exact ⟨wk_pick [0, 1, 2, 3, 4, 5] [2, 4, 8, 11, 12, 15, 16, 19, 21, 22] rfl, trivial⟩
    refine aw_cut ⟨⟨169, [(4, .p (.box f.pv)), (12, bA was), (15, i64 e), (16, i64 e), (19, bl true), (21, i64 20), (22, bl true), (23, bA was), (24, i64 0)]⟩, []⟩ True (aw_region hT ?_) (fun _ => ?_)
    · refine callP (af_in [3, 4, 5] r1 rfl rfl rfl) ?_
      exact ⟨wk_pick [] [4, 12, 15, 16, 19, 21, 22, 23, 24] rfl, trivial⟩
    refine aw_cut ⟨⟨169, [(4, .p (.box f.pv)), (15, i64 e), (16, i64 e), (19, bl true), (21, i64 20), (22, bl true), (24, i64 0), (25, bl true)]⟩, []⟩ True (aw_region hT ?_) (fun _ => ?_)
    · refine callP (af_at sw _ rfl rfl) ?_
      exact ⟨wk_pick [] [4, 15, 16, 19, 21, 22, 24, 25] rfl, trivial⟩
    refine aw_cut ⟨⟨169, [(15, i64 e), (16, i64 e), (19, bl true), (21, i64 20), (22, bl true), (24, i64 0), (25, bl true), (26, bl (e == 0))]⟩, []⟩ True (aw_region hT ?_) (fun _ => ?_)
    · rw [g1]
      refine boolI (fun h => ?_) (fun h => ?_)
      · rw [show decide (f.off ≥ 0) = true from h]
        exact ⟨wk_pick [] [15, 16, 19, 21, 22, 24, 25, 26] rfl, trivial⟩
      · rw [show decide (f.off ≥ 0) = false from h]
        exact ⟨wk_pick [] [15, 16, 19, 21, 22, 24, 25, 26] rfl, trivial⟩
    refine aw_seq (aw_region hT ?_)
    refine boolI (fun h => ?_) (fun h => ?_)
    · refine boolI (fun h2 => ?_) (fun h2 => ?_)
      · refine aw_ret ?_
        exact retPick [] ⟨rfl, rfl⟩ rfl
      · have h2 : (e == e) = false := h2
        rw [beq_self_eq_true] at h2; cases h2
    · have h : ((e == 0) == (e == 0)) = false := h
      rw [beq_self_eq_true] at h; cases h
end Go.Proofs.Ytolefphdldmlkaa.AL
