/- The law DiskPlain, walked. -/
import Derived.Test.YtolefphdldmlkaaBDr
namespace Go.Proofs.Ytolefphdldmlkaa.AL
open Go Go.Proofs

abbrev plH (D : Dev) (L : Bytes) : List ABlk := [devC D 1 2, .row t_disk_cell 4 (cx D.cells), .row t_disk_write 2 (wx D.waits), .row 28 1 (bx L)]

theorem PlainOk.mono {D : Dev} {L : Bytes} {b : Nat} (h : PlainOk D L b) : PlainOk D L (b + 1) := ⟨h.ok.mono (Nat.le_succ _), h.len, h.dead, h.armed, h.pl, h.ll, h.val⟩
theorem plain_out {D : Dev} {L : Bytes} {b : Nat} (h : PlainOk D L b) {a : Int} (ha : ¬ (0 ≤ a ∧ a < 20)) (s : Bytes) : D.write a s = (3, D) := by
  have : D.has a = false := by
    unfold Dev.has; rw [h.len]
    cases h1 : (decide (a ≥ 0) && decide (a < ((20 : Nat) : Int))) with
    | false => rfl
    | true => rw [Bool.and_eq_true, decide_eq_true_eq, decide_eq_true_eq] at h1; omega
  unfold Dev.write; rw [h.dead, this]

set_option maxRecDepth 8000 in
theorem disk_plain (l : List Op06) : AF Try.prog f_law06_DiskPlain [.p (.sl 14 (opx l))] [] (Pure (bl true) []) := by
  refine af_body hT F_law06_DiskPlain rfl rfl N_law06_DiskPlain rfl ?_
  refine aw_seq (aw_region hT ?_)
  refine aw_seq (aw_region hT ?_)
  refine callP law06_awake ?_
  refine aw_seq (aw_seq (aw_region hT ?_))
  refine aw_cond (boolI (fun h => ?_) (fun h => ?_))
  · refine aw_seq (aw_region hT ?_)
    refine aw_ret ?_
    exact retPick [] ⟨rfl, rfl⟩ rfl
  have hn : l.length ≤ 60 := by
    have h : decide (((opx l).length : Int) > 60) = false := h
    have := of_decide_eq_false h
    rw [opx_len] at this; omega
  refine aw_skip ?_
  have n1 := disk_New 20 (by omega) (by omega)
  have p1 := plain_new
  generalize Dev.new 20 = D1 at n1 p1
  refine aw_seq (aw_region hT ?_)
  refine callP n1 ?_
  refine aw_seq (aw_region hT ?_)
  refine aw_wk (Wk.trans (wk_elr 6 3 1 rfl) (wk_arr 3 (List.replicate 20 (u8 0)) rfl rfl rfl)) ?_
  refine aw_cut2 (fun s1 => ∃ D L b, PlainOk D L b ∧ b ≤ 60 ∧ s1 = ⟨⟨91, [(4, .ref 0 0), (6, .elr 3 1 0 0)]⟩, plH D L⟩) (aw_seq (aw_region hT ?_)) ?_
  · refine aw_block ?_
    refine aw_loopW (fun n s => ∃ (i : Nat) (j : Int) (D : Dev) (L : Bytes), n + i = l.length ∧ j = i ∧ PlainOk D L i ∧ s = ⟨⟨91, [(0, .p (.sl 14 (opx l))), (4, .ref 0 0), (6, .elr 3 1 0 0), (7, i64 j)]⟩, plH D L⟩) l.length ⟨⟨91, _⟩, [_, _, _, _]⟩ (wk_pick [0, 1, 2, 3] [0, 4, 6, 7] rfl) ⟨0, 0, D1, List.replicate 20 0, rfl, rfl, p1, rfl⟩ ?_
    rintro n s ⟨i, j, D, L, hni, rfl, hp, rfl⟩
    refine aw_seq (aw_seq (aw_region hT ?_))
    refine aw_cond (boolI (fun h => ?_) (fun h => ?_))
    · have hi : i < l.length := by
        have := of_decide_eq_true (show decide ((i : Int) < ((opx l).length : Int)) = true from h)
        rw [opx_len] at this; omega
      have hx := List.getElem?_eq_getElem hi
      generalize l[i] = x at hx
      have hx : (opx l)[((i : Nat) : Int).toNat]? = some x.pv := by rw [Int.toNat_natCast]; exact opx_get hx
      have hD := hp.ok.big (show i ≤ 1000000 by omega)
      refine aw_skip ?_
      refine aw_cut2 (fun s1 => ∃ D L, PlainOk D L (i + 1) ∧ s1 = ⟨⟨91, [(0, .p (.sl 14 (opx l))), (4, .ref 0 0), (6, .elr 3 1 0 0), (7, i64 i)]⟩, plH D L⟩) (aw_block (aw_seq (aw_seq (aw_region hT ?_)))) ?_
      · refine ⟨Int.natCast_nonneg _, optI hx ?_⟩
        refine aw_cond (boolI (fun h2 => ?_) (fun h2 => ?_))
        · obtain ⟨f1, f2⟩ := plain_flush hp
          have w := disk_Flush D hD.1 hD.2.1
          rw [f1] at w
          refine aw_seq (aw_seq (aw_region hT ?_))
          refine callP (af_in [0, 1, 2] w rfl rfl rfl) ?_
          refine aw_cond ?_
          refine aw_skip ?_
          refine aw_exit ?_
          exact ⟨_, wk_pick [0, 4, 5, 3] [0, 4, 6, 7] rfl, _, _, f2.mono, rfl⟩
        · refine aw_skip ?_
          by_cases ha : 0 ≤ x.at_ ∧ x.at_ < 20
          · obtain ⟨f1, f2⟩ := plain_write hp ha.1 ha.2 x.b
            have w := disk_Write D x.at_ (sect x.b) hD.2.1
            rw [f1] at w
            refine aw_seq ?_
            refine aw_draw [12] [] hT follows_mixed (by rfl) ?_
            refine ⟨Int.natCast_nonneg _, optI hx ?_⟩
            refine ⟨Int.natCast_nonneg _, optI hx ?_⟩
            refine ⟨_, af_at (law06_Sector x.b) _ rfl rfl, ?_⟩
            refine ⟨_, _, af_in [0, 1, 2] w rfl rfl rfl, ?_⟩
            refine aw_wk (wk_pick [0, 4, 5, 3] [0, 4, 6, 7, 8] rfl) ?_
            refine aw_seq (aw_region hT ?_)
            refine ⟨Int.natCast_nonneg _, optI hx ?_⟩
            refine boolI (fun h3 => ?_) (fun h3 => ?_)
            · refine ⟨Int.natCast_nonneg _, optI hx ?_⟩
              refine aw_cond (boolI (fun h4 => ?_) (fun h4 => ?_))
              · refine aw_seq ?_
                refine aw_draw [11] [] hT follows_mixed (by rfl) ?_
                refine ⟨Int.natCast_nonneg _, optI hx ?_⟩
                refine ⟨Int.natCast_nonneg _, optI hx ?_⟩
                have hL : (bx L)[0 + x.at_.toNat]? = some [u8 (L[x.at_.toNat]'(by rw [hp.ll]; omega))] := by
                  rw [Nat.zero_add, bx, List.getElem?_map, List.getElem?_eq_getElem (by rw [hp.ll]; omega)]; rfl
                refine ⟨⟨ha.1, ha.2⟩, ?_⟩
                refine optI hL ?_
                refine chkI rfl (optI rfl ?_)
                refine aw_seq (aw_region hT ?_)
                refine aw_cond ?_
                refine aw_skip ?_
                refine ⟨_, wk_pick [0, 1, 2, 3] [0, 4, 6, 7] rfl, _, _, f2, ?_⟩
                refine congrArg (St.mk _) ?_
                unfold plH
                rw [bx_set, show (bx L).set x.at_.toNat [u8 x.b] = (bx L).set (0 + x.at_.toNat) [u8 x.b] by rw [Nat.zero_add]]
                rfl
              · have h4 : decide (x.at_ < 20) = false := h4
                have := of_decide_eq_false h4
                omega
            · have h3 : decide (x.at_ ≥ 0) = false := h3
              have := of_decide_eq_false h3
              omega
          · have w := disk_Write D x.at_ (sect x.b) hD.2.1
            rw [plain_out hp ha] at w
            refine aw_seq ?_
            refine aw_draw [12] [] hT follows_mixed (by rfl) ?_
            refine ⟨Int.natCast_nonneg _, optI hx ?_⟩
            refine ⟨Int.natCast_nonneg _, optI hx ?_⟩
            refine ⟨_, af_at (law06_Sector x.b) _ rfl rfl, ?_⟩
            refine ⟨_, _, af_in [0, 1, 2] w rfl rfl rfl, ?_⟩
            refine aw_wk (wk_pick [0, 4, 5, 3] [0, 4, 6, 7, 8] rfl) ?_
            refine aw_seq (aw_region hT ?_)
            refine ⟨Int.natCast_nonneg _, optI hx ?_⟩
            have fin : ∃ D' L', PlainOk D' L' (i + 1) ∧ (⟨⟨91, [(0, .p (.sl 14 (opx l))), (4, .ref 0 0), (6, .elr 3 1 0 0), (7, i64 i)]⟩, plH D L⟩ : St) = ⟨⟨91, [(0, .p (.sl 14 (opx l))), (4, .ref 0 0), (6, .elr 3 1 0 0), (7, i64 i)]⟩, plH D' L'⟩ := ⟨D, L, hp.mono, rfl⟩
            refine boolI (fun h3 => ?_) (fun h3 => ?_)
            · refine ⟨Int.natCast_nonneg _, optI hx ?_⟩
              refine aw_cond (boolI (fun h4 => ?_) (fun h4 => ?_))
              · have h4 : decide (x.at_ < 20) = true := h4
                have h3 : decide (x.at_ ≥ 0) = true := h3
                have := of_decide_eq_true h4
                have := of_decide_eq_true h3
                omega
              · refine aw_seq (aw_region hT ?_)
                refine aw_cond ?_
                refine aw_skip ?_
                exact ⟨_, wk_pick [0, 1, 2, 3] [0, 4, 6, 7] rfl, fin⟩
            · refine aw_cond ?_
              refine aw_seq (aw_region hT ?_)
              refine aw_cond ?_
              refine aw_skip ?_
              exact ⟨_, wk_pick [0, 1, 2, 3] [0, 4, 6, 7] rfl, fin⟩
      · rintro _ ⟨D, L, hp, rfl⟩
        refine aw_region hT ?_
        refine ⟨n - 1, by omega, _, wk_pick [0, 1, 2, 3] [0, 4, 6, 7] rfl, i + 1, IntKind.i64.wrap ((i : Int) + 1), D, L, by omega, ?_, hp, rfl⟩
        rw [wrap64 _ (by omega) (by omega)]; rfl
    · refine aw_exit ?_
      refine ⟨_, wk_pick [0, 1, 2, 3] [4, 6] rfl, D, L, i, hp, by omega, rfl⟩
  · rintro _ ⟨D, L, b, hp, hb, rfl⟩
    refine aw_seq (aw_seq (aw_region hT ?_))
    refine aw_block ?_
    refine aw_loopW (fun n s => ∃ (i : Nat) (j : Int) (D : Dev), n + i = 20 ∧ j = i ∧ PlainOk D L b ∧ s = ⟨⟨91, [(4, .ref 0 0), (6, .elr 3 1 0 0), (9, i64 j)]⟩, plH D L⟩) 20 ⟨⟨91, _⟩, [_, _, _, _]⟩ (wk_pick [0, 1, 2, 3] [4, 6, 9] rfl) ⟨0, 0, D, rfl, rfl, hp, rfl⟩ ?_
    rintro n s ⟨i, j, D, hni, rfl, hp, rfl⟩
    refine aw_seq (aw_seq (aw_region hT ?_))
    refine aw_cond (boolI (fun h => ?_) (fun h => ?_))
    · have hi : i < 20 := by
        have := of_decide_eq_true (show decide ((i : Int) < 20) = true from h)
        omega
      obtain ⟨f1, f2⟩ := plain_read hp hi
      have hL : (bx L)[0 + ((i : Nat) : Int).toNat]? = some [u8 (L.getD i 0)] := by
        rw [Nat.zero_add, Int.toNat_natCast, bx, List.getElem?_map, List.getD_eq_getElem?_getD, List.getElem?_eq_getElem (by rw [hp.ll]; omega)]; rfl
      have w := law06_has D i (L.getD i 0) b hp.ok (by omega)
      rw [f1] at w
      refine aw_skip ?_
      refine aw_seq (aw_block (aw_seq (aw_region hT ?_)))
      refine ⟨⟨Int.natCast_nonneg _, by omega⟩, ?_⟩
      refine optI hL ?_
      refine callP (af_in [0, 1, 2] w rfl rfl rfl) ?_
      refine aw_cond ?_
      refine aw_skip ?_
      refine aw_region hT ?_
      refine ⟨n - 1, by omega, _, wk_pick [0, 1, 2, 3] [4, 6, 9] rfl, i + 1, IntKind.i64.wrap ((i : Int) + 1), (D.read i).2, by omega, ?_, f2, rfl⟩
      rw [wrap64 _ (by omega) (by omega)]; rfl
    · refine aw_exit ?_
      refine aw_seq (aw_region hT ?_)
      refine aw_ret ?_
      exact retPick [] ⟨rfl, rfl⟩ rfl
end Go.Proofs.Ytolefphdldmlkaa.AL
