/- The law DiskCrashes, walked. -/
import Derived.Test.YtolefphdldmlkaaBDz
namespace Go.Proofs.Ytolefphdldmlkaa.AL
open Go Go.Proofs

abbrev dev3 (A B C : Dev) : List ABlk := [devC A 1 2, .row t_disk_cell 4 (cx A.cells), .row t_disk_write 2 (wx A.waits), devC B 4 5, .row t_disk_cell 4 (cx B.cells), .row t_disk_write 2 (wx B.waits), devC C 7 8, .row t_disk_cell 4 (cx C.cells), .row t_disk_write 2 (wx C.waits)]
abbrev dev4 (A B C E : Dev) : List ABlk := [devC A 1 2, .row t_disk_cell 4 (cx A.cells), .row t_disk_write 2 (wx A.waits), devC B 4 5, .row t_disk_cell 4 (cx B.cells), .row t_disk_write 2 (wx B.waits), devC C 7 8, .row t_disk_cell 4 (cx C.cells), .row t_disk_write 2 (wx C.waits), devC E 10 11, .row t_disk_cell 4 (cx E.cells), .row t_disk_write 2 (wx E.waits)]

set_option maxRecDepth 8000 in
set_option maxHeartbeats 1000000 in
theorem disk_crashes (l : List Op06) (keep : List Bool) : AF Try.prog f_law06_DiskCrashes [.p (.sl 14 (opx l)), .p (.sl 1 (kx keep))] [] (Pure (bl true) []) := by
  refine af_body hT F_law06_DiskCrashes rfl rfl N_law06_DiskCrashes rfl ?_
  refine aw_seq (aw_region hT ?_)
  refine aw_seq (aw_region hT ?_)
  refine callP law06_awake ?_
  refine aw_cut ⟨⟨129, [(0, .p (.sl 14 (opx l))), (1, .p (.sl 1 (kx keep)))]⟩, []⟩ (l.length ≤ 40) (aw_seq (aw_region hT ?_)) ?_
  · refine boolI (fun h => ?_) (fun h => ?_)
    · refine aw_cond ?_
      refine aw_seq (aw_region hT ?_)
      refine aw_ret ?_
      exact retPick [] ⟨rfl, rfl⟩ rfl
    · refine aw_cond (boolI (fun h3 => ?_) (fun h3 => ?_))
      · refine aw_seq (aw_region hT ?_)
        refine aw_ret ?_
        exact retPick [] ⟨rfl, rfl⟩ rfl
      · have h : decide (((opx l).length : Int) > 40) = false := h
        have h := of_decide_eq_false h
        rw [opx_len] at h
        exact aw_skip ⟨wk_pick [] [0, 1] rfl, by omega⟩
  intro hn
  have n1 := disk_New 20 (by omega) (by omega)
  have q1 : Quiet (Dev.new 20) 0 := ⟨ok_new 20 0, List.length_replicate, rfl, rfl⟩
  generalize Dev.new 20 = D1 at n1 q1
  refine aw_seq (aw_region hT ?_)
  refine callP n1 ?_
  refine aw_cut2 (fun s1 => ∃ D, Quiet D 100 ∧ s1 = ⟨⟨129, [(1, .p (.sl 1 (kx keep))), (6, .ref 0 0)]⟩, devH D⟩) (aw_seq (aw_region hT ?_)) ?_
  · refine aw_block ?_
    refine aw_loopW (fun n s => ∃ (i : Nat) (j : Int) (D : Dev), n + i = l.length ∧ j = i ∧ Quiet D i ∧ s = ⟨⟨129, [(0, .p (.sl 14 (opx l))), (1, .p (.sl 1 (kx keep))), (6, .ref 0 0), (8, i64 j)]⟩, devH D⟩) l.length ⟨⟨129, _⟩, [_, _, _]⟩ (wk_pick [0, 1, 2] [0, 1, 6, 8] rfl) ⟨0, 0, D1, rfl, rfl, q1, rfl⟩ ?_
    rintro n s ⟨i, j, D, hni, rfl, hp, rfl⟩
    refine aw_seq (aw_seq (aw_region hT ?_))
    refine aw_cond (boolI (fun h => ?_) (fun h => ?_))
    · have hi : i < l.length := by
        have := of_decide_eq_true (show decide ((i : Int) < ((opx l).length : Int)) = true from h)
        rw [opx_len] at this; omega
      have hx := List.getElem?_eq_getElem hi
      generalize l[i] = x at hx
      have hx : (opx l)[((i : Nat) : Int).toNat]? = some x.pv := by rw [Int.toNat_natCast]; exact opx_get hx
      refine aw_skip ?_
      refine aw_cut2 (fun s1 => ∃ D, Quiet D (i + 1) ∧ s1 = ⟨⟨129, [(0, .p (.sl 14 (opx l))), (1, .p (.sl 1 (kx keep))), (6, .ref 0 0), (8, i64 i)]⟩, devH D⟩) (aw_block (aw_seq (aw_region hT ?_))) ?_
      · refine ⟨Int.natCast_nonneg _, optI hx ?_⟩
        refine aw_cond (boolI (fun h2 => ?_) (fun h2 => ?_))
        · have h2 : decide (x.kind < 3) = true := h2
          have w := law06_Does D x i hp.ok (by omega)
          have hp2 := hp.does x (of_decide_eq_true h2)
          generalize D.does x = R at w hp2
          refine aw_region hT ?_
          refine ⟨Int.natCast_nonneg _, optI hx ?_⟩
          refine callP (af_in [0, 1, 2] w rfl rfl rfl) ?_
          exact ⟨_, wk_pick [0, 3, 4] [0, 1, 6, 8] rfl, R.2, hp2, rfl⟩
        · refine aw_skip ?_
          exact ⟨_, wk_pick [0, 1, 2] [0, 1, 6, 8] rfl, D, hp.mono, rfl⟩
      · rintro _ ⟨D, hp, rfl⟩
        refine aw_region hT ?_
        refine ⟨n - 1, by omega, _, wk_pick [0, 1, 2] [0, 1, 6, 8] rfl, i + 1, IntKind.i64.wrap ((i : Int) + 1), D, by omega, ?_, hp, rfl⟩
        rw [wrap64 _ (by omega) (by omega)]; rfl
    · refine aw_exit ?_
      exact ⟨_, wk_pick [0, 1, 2] [1, 6] rfl, D, ⟨hp.ok.mono (by omega), hp.len, hp.dead, hp.armed⟩, rfl⟩
  · rintro _ ⟨D, hp, rfl⟩
    have big := hp.ok.big (show 100 ≤ 1000000 by omega)
    have cp := disk_Copy D (by rw [hp.len]; omega) big.2.1
    have wA := disk_Crash D [true] big.1 big.2.1
    have wB := disk_Flush D big.1 big.2.1
    have wC := disk_Crash D keep big.1 big.2.1
    have vA := hp.view [true]
    have vB := hp.viewF
    have vC := hp.view keep
    generalize D.crashed [true] = A at wA vA
    generalize D.flush.1 = fe at wB
    generalize D.flush.2 = B at wB vB
    generalize D.crashed keep = C at wC vC
    have bigC := vC.ok.big (show 100 ≤ 1000000 by omega)
    have cpC := disk_Copy C (by rw [vC.cells, crashC_len, hp.len]; omega) bigC.2.1
    have wE := disk_Crash C [true] bigC.1 bigC.2.1
    have vE := vC.again [true]
    generalize C.crashed [true] = E at wE vE
    generalize crashC D.waits [true] D.waits.length D.cells = X at vA vB
    generalize crashC D.waits keep D.waits.length D.cells = Y at vC vE
    refine aw_seq (aw_region hT ?_)
    refine callP (af_in [0, 1, 2] cp rfl rfl rfl) ?_
    refine aw_seq (aw_region hT ?_)
    refine callP (af_in [0, 1, 2] cp rfl rfl rfl) ?_
    refine aw_cut ⟨⟨129, [(1, .p (.sl 1 (kx keep))), (9, .ref 0 0), (10, .ref 3 0), (11, .ref 6 0)]⟩, dev3 D D D⟩ True (aw_region hT ?_) (fun _ => ?_)
    · refine callP (af_in [0, 1, 2] cp rfl rfl rfl) ?_
      exact ⟨wk_pick [3, 4, 5, 6, 7, 8, 9, 10, 11] [1, 9, 10, 11] rfl, trivial⟩
    refine aw_cut ⟨⟨129, [(1, .p (.sl 1 (kx keep))), (9, .ref 0 0), (10, .ref 3 0), (11, .ref 6 0)]⟩, dev3 A D D⟩ True (aw_regionF (fun k => Nat.beq 1 k) hT ?_) (fun _ => ?_)
    · refine ⟨⟨rfl, rfl⟩, ?_⟩
      refine callP (af_in [0, 1, 2] wA rfl rfl rfl) ?_
      exact ⟨wk_pick [0, 9, 10, 3, 4, 5, 6, 7, 8] [1, 9, 10, 11] rfl, trivial⟩
    refine aw_cut ⟨⟨129, [(1, .p (.sl 1 (kx keep))), (9, .ref 0 0), (10, .ref 3 0), (11, .ref 6 0)]⟩, dev3 A B D⟩ True (aw_region hT ?_) (fun _ => ?_)
    · refine callP (af_in [3, 4, 5] wB rfl rfl rfl) ?_
      exact ⟨wk_pick [0, 1, 2, 3, 9, 10, 6, 7, 8] [1, 9, 10, 11] rfl, trivial⟩
    refine aw_cut ⟨⟨129, [(9, .ref 0 0), (10, .ref 3 0), (11, .ref 6 0)]⟩, dev3 A B C⟩ True (aw_region hT ?_) (fun _ => ?_)
    · refine callP (af_in [6, 7, 8] wC rfl rfl rfl) ?_
      exact ⟨wk_pick [0, 1, 2, 3, 4, 5, 6, 9, 10] [9, 10, 11] rfl, trivial⟩
    refine aw_cut ⟨⟨129, [(9, .ref 0 0), (10, .ref 3 0), (11, .ref 6 0), (12, .ref 9 0)]⟩, dev4 A B C C⟩ True (aw_region hT ?_) (fun _ => ?_)
    · refine callP (af_in [6, 7, 8] cpC rfl rfl rfl) ?_
      exact ⟨wk_pick [0, 1, 2, 3, 4, 5, 6, 7, 8, 9, 10, 11] [9, 10, 11, 12] rfl, trivial⟩
    refine aw_cut ⟨⟨129, [(9, .ref 0 0), (10, .ref 3 0), (11, .ref 6 0), (12, .ref 9 0)]⟩, dev4 A B C E⟩ True (aw_regionF (fun k => Nat.beq 1 k) hT ?_) (fun _ => ?_)
    · refine ⟨⟨rfl, rfl⟩, ?_⟩
      refine callP (af_in [9, 10, 11] wE rfl rfl rfl) ?_
      exact ⟨wk_pick [0, 1, 2, 3, 4, 5, 6, 7, 8, 9, 12, 13] [9, 10, 11, 12] rfl, trivial⟩
    refine aw_seq (aw_seq (aw_region hT ?_))
    refine aw_block ?_
    refine aw_loopW (fun n s => ∃ (i : Nat) (j : Int) (A B C E : Dev), n + i = 20 ∧ j = i ∧ View A X 100 ∧ View B X 100 ∧ View C Y 100 ∧ View E Y 100 ∧ s = ⟨⟨129, [(9, .ref 0 0), (10, .ref 3 0), (11, .ref 6 0), (12, .ref 9 0), (13, i64 j)]⟩, dev4 A B C E⟩) 20 ⟨⟨129, _⟩, [_, _, _, _, _, _, _, _, _, _, _, _]⟩ (wk_pick [0, 1, 2, 3, 4, 5, 6, 7, 8, 9, 10, 11] [9, 10, 11, 12, 13] rfl) ⟨0, 0, A, B, C, E, rfl, rfl, vA, vB, vC, vE, rfl⟩ ?_
    rintro n s ⟨i, j, A, B, C, E, hni, rfl, vA, vB, vC, vE, rfl⟩
    refine aw_seq (aw_seq (aw_region hT ?_))
    refine aw_cond (boolI (fun h => ?_) (fun h => ?_))
    · have hi : i < 20 := by
        have := of_decide_eq_true (show decide ((i : Int) < 20) = true from h)
        omega
      have rd : ∀ {D : Dev} {Z : List Cell}, View D Z 100 → AFm Try.prog 3 f_disk_Disk_Read [.ref 0 0, i64 i] (devH D) (Pure (.tup [bA (D.read i).1.1, i64 (D.read i).1.2]) (devH (D.read i).2)) := fun {D Z} v =>
        disk_Read D i (v.ok.big (by omega)).2.1 (v.ok.big (by omega)).2.2.1 (v.ok.big (by omega)).2.2.2
      have sAB := vA.same vB i
      have sCE := vC.same vE i
      have rA := rd vA
      have rB := rd vB
      have rC := rd vC
      have rE := rd vE
      have xl := read_len vB.ok i
      have yl := read_len vE.ok i
      rw [sAB] at rA
      rw [sCE] at rC
      have vA := vA.read i
      have vB := vB.read i
      have vC := vC.read i
      have vE := vE.read i
      generalize (A.read i).2 = A2 at rA vA
      generalize (B.read i).1 = x at rA rB xl
      generalize (B.read i).2 = B2 at rB vB
      generalize (C.read i).2 = C2 at rC vC
      generalize (E.read i).1 = y at rC rE yl
      generalize (E.read i).2 = E2 at rE vE
      obtain ⟨x1, x2⟩ := x
      obtain ⟨y1, y2⟩ := y
      refine aw_skip ?_
      refine aw_cut ⟨⟨129, [(9, .ref 0 0), (10, .ref 3 0), (11, .ref 6 0), (12, .ref 9 0), (13, i64 i)]⟩, dev4 A2 B2 C2 E2⟩ True (aw_block (aw_seq (aw_region hT ?_))) (fun _ => ?_)
      · refine callP (af_in [0, 1, 2] rA rfl rfl rfl) ?_
        refine aw_seq (aw_region hT ?_)
        refine callP (af_in [3, 4, 5] rB rfl rfl rfl) ?_
        refine aw_seq (aw_region hT ?_)
        refine callP (af_in [6, 7, 8] rC rfl rfl rfl) ?_
        refine aw_cut ⟨⟨129, [(9, .ref 0 0), (10, .ref 3 0), (11, .ref 6 0), (12, .ref 9 0), (13, i64 i), (14, bA x1), (15, i64 x2), (16, bA x1), (17, i64 x2), (18, bA y1), (19, i64 y2), (20, bA y1), (21, i64 y2)]⟩, dev4 A2 B2 C2 E2⟩ True (aw_region hT ?_) (fun _ => ?_)
        · refine callP (af_in [9, 10, 11] rE rfl rfl rfl) ?_
          exact ⟨wk_pick [0, 1, 2, 3, 4, 5, 6, 7, 8, 9, 10, 11] [9, 10, 11, 12, 13, 14, 15, 16, 17, 18, 19, 20, 21] rfl, trivial⟩
        have sx := ref04_Same x1 x1 (by have xl : x1.length ≤ 256 := xl; omega)
        have sy := ref04_Same y1 y1 (by have yl : y1.length ≤ 256 := yl; omega)
        rw [beq_self_eq_true] at sx sy
        have ne : ∀ z : Int, (z != z) = false := fun z => by simp
        refine aw_seq (aw_region hT ?_)
        refine callP (af_at sx _ rfl rfl) ?_
        refine aw_seq (aw_region hT ?_)
        refine callP (af_at sy _ rfl rfl) ?_
        refine aw_seq (aw_region hT ?_)
        refine boolI (fun h1 => ?_) (fun h1 => ?_)
        · have h1 : (x2 != x2) = true := h1
          rw [ne] at h1; cases h1
        refine aw_cond (boolI (fun h2 => ?_) (fun h2 => ?_))
        · have h2 : (y2 != y2) = true := h2
          rw [ne] at h2; cases h2
        refine aw_skip ?_
        exact ⟨wk_pick [0, 1, 2, 3, 4, 5, 6, 7, 8, 9, 10, 11] [9, 10, 11, 12, 13] rfl, trivial⟩
      · refine aw_region hT ?_
        refine ⟨n - 1, by omega, _, wk_pick [0, 1, 2, 3, 4, 5, 6, 7, 8, 9, 10, 11] [9, 10, 11, 12, 13] rfl, i + 1, IntKind.i64.wrap ((i : Int) + 1), A2, B2, C2, E2, by omega, ?_, vA, vB, vC, vE, rfl⟩
        rw [wrap64 _ (by omega) (by omega)]; rfl
    · refine aw_exit ?_
      refine aw_seq (aw_region hT ?_)
      refine aw_ret ?_
      exact retPick [] ⟨rfl, rfl⟩ rfl
end Go.Proofs.Ytolefphdldmlkaa.AL
