/- The layer 08 (geo), the document's answer: may it be, groups, what it bears. -/
import Derived.Test.YtdncagppilehgaaALGm
namespace Go.Proofs.Ytdncagppilehgaa.AL
open Go Go.Proofs

theorem gMay_no {g : G} (h : ¬ GB g) : gMay g = false := by
  cases hm : gMay g with
  | false => rfl
  | true => exact absurd (gMay_iff.1 hm).1 h

set_option maxRecDepth 8000 in
theorem ref_gMay (g : G) : AF Try.prog 29 [g.av] [] (Pure (bl (gMay g)) []) := by
  refine af_body hT Try.func29 rfl rfl Try.ntmps29 rfl ?_
  refine aw_seq (aw_region hT ?_)
  refine aw_cut ⟨⟨56, [(1, .ref 0 0)]⟩, [.cells 38 [i64 g.wal, i64 g.st, i64 g.k, i64 g.m]]⟩ (GB g) (aw_seq (aw_region hT ?_)) (fun hB => ?_)
  · refine boolI (fun h => ?_) (fun h0 => ?_)
    · have e := gMay_no (g := g) (fun hB => absurd (of_decide_eq_true (show decide (g.wal < 8) = true from h)) (by have := hB.w1; omega))
      refine aw_cond ?_
      refine aw_seq (aw_region hT ?_)
      refine aw_ret ?_
      refine retPick [] ⟨?_, rfl⟩ rfl
      rw [e]; rfl
    have h0 : ¬ g.wal < 8 := of_decide_eq_false h0
    refine boolI (fun h => ?_) (fun h1 => ?_)
    · have e := gMay_no (g := g) (fun hB => absurd (of_decide_eq_true (show decide (g.wal > 512) = true from h)) (by have := hB.w2; omega))
      refine aw_cond ?_
      refine aw_seq (aw_region hT ?_)
      refine aw_ret ?_
      refine retPick [] ⟨?_, rfl⟩ rfl
      rw [e]; rfl
    have h1 : ¬ g.wal > 512 := of_decide_eq_false h1
    refine boolI (fun h => ?_) (fun h2 => ?_)
    · have e := gMay_no (g := g) (fun hB => absurd (of_decide_eq_true (show decide (g.st < 1) = true from h)) (by have := hB.s1; omega))
      refine aw_cond ?_
      refine aw_seq (aw_region hT ?_)
      refine aw_ret ?_
      refine retPick [] ⟨?_, rfl⟩ rfl
      rw [e]; rfl
    have h2 : ¬ g.st < 1 := of_decide_eq_false h2
    refine boolI (fun h => ?_) (fun h3 => ?_)
    · have e := gMay_no (g := g) (fun hB => absurd (of_decide_eq_true (show decide (g.st > 32) = true from h)) (by have := hB.s2; omega))
      refine aw_cond ?_
      refine aw_seq (aw_region hT ?_)
      refine aw_ret ?_
      refine retPick [] ⟨?_, rfl⟩ rfl
      rw [e]; rfl
    have h3 : ¬ g.st > 32 := of_decide_eq_false h3
    refine boolI (fun h => ?_) (fun h4 => ?_)
    · have e := gMay_no (g := g) (fun hB => absurd (of_decide_eq_true (show decide (g.k < 1) = true from h)) (by have := hB.k1; omega))
      refine aw_cond ?_
      refine aw_seq (aw_region hT ?_)
      refine aw_ret ?_
      refine retPick [] ⟨?_, rfl⟩ rfl
      rw [e]; rfl
    have h4 : ¬ g.k < 1 := of_decide_eq_false h4
    refine boolI (fun h => ?_) (fun h5 => ?_)
    · have e := gMay_no (g := g) (fun hB => absurd (of_decide_eq_true (show decide (g.k > 16) = true from h)) (by have := hB.k2; omega))
      refine aw_cond ?_
      refine aw_seq (aw_region hT ?_)
      refine aw_ret ?_
      refine retPick [] ⟨?_, rfl⟩ rfl
      rw [e]; rfl
    have h5 : ¬ g.k > 16 := of_decide_eq_false h5
    refine boolI (fun h => ?_) (fun h6 => ?_)
    · have e := gMay_no (g := g) (fun hB => absurd (of_decide_eq_true (show decide (g.m < 1) = true from h)) (by have := hB.m1; omega))
      refine aw_cond ?_
      refine aw_seq (aw_region hT ?_)
      refine aw_ret ?_
      refine retPick [] ⟨?_, rfl⟩ rfl
      rw [e]; rfl
    have h6 : ¬ g.m < 1 := of_decide_eq_false h6
    refine aw_cond (boolI (fun h => ?_) (fun h7 => ?_))
    · have e := gMay_no (g := g) (fun hB => absurd (of_decide_eq_true (show decide (g.m > 8) = true from h)) (by have := hB.m2; omega))
      refine aw_seq (aw_region hT ?_)
      refine aw_ret ?_
      refine retPick [] ⟨?_, rfl⟩ rfl
      rw [e]; rfl
    have h7 : ¬ g.m > 8 := of_decide_eq_false h7
    exact aw_skip ⟨wk_pick [0] [1] rfl, ⟨by omega, by omega, by omega, by omega, by omega, by omega, by omega, by omega⟩⟩
  · have hw := wid_bd hB
    have hs := stw_bd hB
    have e : gMay g = decide (sec g ≤ 4096) := by rw [gMay, gOk_iff.2 hB, Bool.true_and]
    obtain ⟨w1, w2, s1, s2, k1, k2, m1, m2⟩ := hB
    refine aw_seq (aw_region hT ?_)
    refine aw_ret ?_
    refine retPick [] ⟨?_, rfl⟩ rfl
    show bl (decide (IntKind.i64.wrap (IntKind.i64.wrap (4 + IntKind.i64.wrap (2 * g.wal)) + IntKind.i64.wrap (IntKind.i64.wrap (2 * g.st) * IntKind.i64.wrap (g.k + g.m))) ≤ 4096)) = _
    have e2 : 2 * g.st * (g.k + g.m) = 2 * g.st * wid g := rfl
    rw [wrap64 (2 * g.wal) (by omega) (by omega), wrap64 (4 + 2 * g.wal) (by omega) (by omega), wrap64 (2 * g.st) (by omega) (by omega), wrap64 (g.k + g.m) (by omega) (by omega), wrap64 (2 * g.st * (g.k + g.m)) (by omega) (by omega), wrap64 _ (by omega) (by omega), e]
    rfl

theorem ref_gGroups (g : G) : AF Try.prog 31 [g.av] [] (Pure (i64 (orZ (gMay g) (grp g))) []) := by
  refine af_body hT Try.func31 rfl rfl Try.ntmps31 rfl ?_
  refine aw_seq (aw_region hT ?_)
  refine aw_seq (aw_region hT ?_)
  refine callP (af_at (ref_gMay g) _ rfl rfl) ?_
  refine aw_seq (aw_seq (aw_region hT ?_))
  refine aw_cond (boolI (fun h1 => ?_) (fun h1 => ?_))
  · have hm : gMay g = false := by
      have h1 : (!gMay g) = true := h1
      simpa using h1
    refine aw_seq (aw_region hT ?_)
    refine aw_ret ?_
    refine retPick [] ⟨?_, rfl⟩ rfl
    rw [hm]; rfl
  · have hm : gMay g = true := by
      have h1 : (!gMay g) = false := h1
      simpa using h1
    obtain ⟨w1, w2, s1, s2, k1, k2, m1, m2⟩ := (gMay_iff.1 hm).1
    refine aw_skip ?_
    refine aw_seq (aw_region hT ?_)
    refine aw_ret ?_
    refine retPick [] ⟨?_, rfl⟩ rfl
    show i64 (IntKind.i64.wrap (IntKind.i64.wrap (1 + g.wal) + IntKind.i64.wrap (2 * g.st))) = _
    rw [wrap64 (1 + g.wal) (by omega) (by omega), wrap64 (2 * g.st) (by omega) (by omega), wrap64 _ (by omega) (by omega), hm]; rfl

theorem ref_gBears (g : G) (i : Int) : AF Try.prog 34 [g.av, i64 i] [] (Pure (i64 (bears g i)) []) := by
  refine af_body hT Try.func34 rfl rfl Try.ntmps34 rfl ?_
  refine aw_seq (aw_region hT ?_)
  refine aw_seq (aw_region hT ?_)
  refine callP (af_at (ref_gGroups g) _ rfl rfl) ?_
  refine aw_cut ⟨⟨23, [(1, i64 i), (2, .ref 0 0)]⟩, [.cells 38 [i64 g.wal, i64 g.st, i64 g.k, i64 g.m]]⟩ (outG g i = false) (aw_seq (aw_region hT ?_)) (fun h1 => ?_)
  · refine boolI (fun h1 => ?_) (fun h1 => ?_)
    · have h1 : decide (i < 0) = true := h1
      have e : outG g i = true := by rw [outG, h1]; rfl
      refine aw_cond ?_
      refine aw_seq (aw_region hT ?_)
      refine aw_ret ?_
      refine retPick [] ⟨?_, rfl⟩ rfl
      rw [bears, e]; rfl
    · have h1 : decide (i < 0) = false := h1
      refine aw_cond (boolI (fun h2 => ?_) (fun h2 => ?_))
      · have h2 : decide (i ≥ orZ (gMay g) (grp g)) = true := h2
        have e : outG g i = true := by rw [outG, h1, h2]; rfl
        refine aw_seq (aw_region hT ?_)
        refine aw_ret ?_
        refine retPick [] ⟨?_, rfl⟩ rfl
        rw [bears, e]; rfl
      · have h2 : decide (i ≥ orZ (gMay g) (grp g)) = false := h2
        exact aw_skip ⟨wk_pick [0] [1, 2] rfl, by rw [outG, h1, h2]; rfl⟩
  · refine aw_seq (aw_seq (aw_region hT ?_))
    refine aw_cond (boolI (fun h2 => ?_) (fun h2 => ?_))
    · refine aw_seq (aw_region hT ?_)
      refine aw_ret ?_
      refine retPick [] ⟨?_, rfl⟩ rfl
      rw [bears, h1, h2]; rfl
    · refine aw_skip ?_
      refine aw_seq (aw_seq (aw_region hT ?_))
      refine aw_cond (boolI (fun h3 => ?_) (fun h3 => ?_))
      · have h3 : decide (i ≤ g.wal) = true := h3
        refine aw_seq (aw_region hT ?_)
        refine aw_ret ?_
        refine retPick [] ⟨?_, rfl⟩ rfl
        rw [bears, h1, h2, h3]; rfl
      · have h3 : decide (i ≤ g.wal) = false := h3
        refine aw_skip ?_
        refine aw_seq (aw_region hT ?_)
        refine aw_ret ?_
        refine retPick [] ⟨?_, rfl⟩ rfl
        rw [bears, h1, h2, h3]; rfl
end Go.Proofs.Ytdncagppilehgaa.AL
