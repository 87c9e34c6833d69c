/- The layer 08 (geo): a geometry with more slots, stripes or shares. -/
import Derived.Test.YtdncagppilehgaaALGe
namespace Go.Proofs.Ytdncagppilehgaa.AL
open Go Go.Proofs

theorem out_zero {g : G} (h : gMay g = true) : outG g 0 = false := by
  have hB := (gMay_iff.1 h).1
  have := hB.w1
  have := hB.s1
  rw [outG, h]
  show (decide ((0 : Int) < 0) || decide ((0 : Int) ≥ grp g)) = false
  rw [Bool.or_eq_false_iff]
  exact ⟨by decide, decide_eq_false (by unfold grp; omega)⟩

theorem members_zero {g : G} (h : gMay g = true) : members g 0 = [0, 1, 2, 3] := by
  rw [members, out_zero h]; rfl

theorem next0 {g : G} (h : GB g) : (⟨IntKind.i64.wrap (g.wal + 1), g.st, g.k, g.m⟩ : G) = ⟨g.wal + 1, g.st, g.k, g.m⟩ := by
  have := h.w1; have := h.w2; rw [wrap64 _ (by omega) (by omega)]
theorem next1 {g : G} (h : GB g) : (⟨g.wal, IntKind.i64.wrap (g.st + 1), g.k, g.m⟩ : G) = ⟨g.wal, g.st + 1, g.k, g.m⟩ := by
  have := h.s1; have := h.s2; rw [wrap64 _ (by omega) (by omega)]
theorem next2 {g : G} (h : GB g) : (⟨g.wal, g.st, IntKind.i64.wrap (g.k + 1), g.m⟩ : G) = ⟨g.wal, g.st, g.k + 1, g.m⟩ := by
  have := h.k1; have := h.k2; rw [wrap64 _ (by omega) (by omega)]

set_option maxRecDepth 8000 in
theorem geo_nextLaw (g : G) : AF Try.prog 7 [g.av] [] (Pure (bl true) []) := by
  refine af_body hT Try.func7 rfl rfl Try.ntmps7 rfl ?_
  refine aw_seq (aw_region hT ?_)
  refine aw_seq (aw_region hT ?_)
  refine callP (af_at geo_awake _ rfl rfl) ?_
  refine aw_seq (aw_seq (aw_region hT ?_))
  refine callP (af_at (geo_may g) _ rfl rfl) ?_
  refine aw_cond (boolI (fun h1 => ?_) (fun h1 => ?_))
  · refine aw_seq (aw_region hT ?_)
    refine aw_ret ?_
    exact retPick [] ⟨rfl, rfl⟩ rfl
  have hm : gMay g = true := by
    have h1 : (!gMay g) = false := h1
    simpa using h1
  have hB := (gMay_iff.1 hm).1
  have hsec := (gMay_iff.1 hm).2
  have hst := stw_bd hB
  have hld : 20 ≤ logd g ∧ logd g ≤ 1028 := by have := hB.w1; have := hB.w2; unfold logd; omega
  have hgr : 11 ≤ grp g ∧ grp g ≤ 577 := by have := hB.w1; have := hB.w2; have := hB.s1; have := hB.s2; unfold grp; omega
  have hsg : 20 ≤ sec g := by unfold sec; omega
  have cs := geo_Sectors g
  have cg := geo_Groups g
  rw [hm] at cs cg
  refine aw_skip ?_
  refine aw_seq (aw_region hT ?_)
  refine aw_seq (aw_region hT ?_)
  refine aw_seq (aw_region hT ?_)
  refine aw_seq (aw_seq (aw_region hT ?_))
  refine aw_block ?_
  refine aw_loopW (fun n s => ∃ (i : Nat) (j : Int), n + i = 3 ∧ j = i ∧ s = ⟨⟨102, [(1, .ref 0 0), (4, .msl 1 4 0 3), (5, .msl 2 1 0 3), (6, .msl 3 1 0 3), (7, i64 j)]⟩, [.cells 38 [i64 g.wal, i64 g.st, i64 g.k, i64 g.m],
    .row 38 4 [[.raw (.int .i64 (IntKind.i64.wrap (g.wal + 1))), .raw (.int .i64 g.st), .raw (.int .i64 g.k), .raw (.int .i64 g.m)], [.raw (.int .i64 g.wal), .raw (.int .i64 (IntKind.i64.wrap (g.st + 1))), .raw (.int .i64 g.k), .raw (.int .i64 g.m)], [.raw (.int .i64 g.wal), .raw (.int .i64 g.st), .raw (.int .i64 (IntKind.i64.wrap (g.k + 1))), .raw (.int .i64 g.m)]],
    .row 3 1 [[.raw (.int .i64 2)], [.raw (.int .i64 (IntKind.i64.wrap (2 * IntKind.i64.wrap (g.k + g.m))))], [.raw (.int .i64 (IntKind.i64.wrap (2 * g.st)))]], .row 3 1 [[.raw (.int .i64 1)], [.raw (.int .i64 2)], [.raw (.int .i64 0)]]]⟩) 3 ⟨⟨102, _⟩, [_, _, _, _]⟩ (wk_pick [0, 1, 2, 3] [1, 4, 5, 6, 7] rfl) ⟨0, _, rfl, rfl, rfl⟩ ?_
  rintro n s ⟨i, j, hn, rfl, rfl⟩
  have hi3 : i = 0 ∨ i = 1 ∨ i = 2 ∨ i = 3 := by omega
  rcases hi3 with rfl | rfl | rfl | rfl
  · refine aw_seq (aw_seq (aw_region hT ?_))
    refine aw_cond (aw_skip ?_)
    refine aw_cut ⟨⟨102, [(1, .ref 0 0), (4, .msl 1 4 0 3), (5, .msl 2 1 0 3), (6, .msl 3 1 0 3), (7, i64 0)]⟩, [.cells 38 [i64 g.wal, i64 g.st, i64 g.k, i64 g.m],
      .row 38 4 [[.raw (.int .i64 (IntKind.i64.wrap (g.wal + 1))), .raw (.int .i64 g.st), .raw (.int .i64 g.k), .raw (.int .i64 g.m)], [.raw (.int .i64 g.wal), .raw (.int .i64 (IntKind.i64.wrap (g.st + 1))), .raw (.int .i64 g.k), .raw (.int .i64 g.m)], [.raw (.int .i64 g.wal), .raw (.int .i64 g.st), .raw (.int .i64 (IntKind.i64.wrap (g.k + 1))), .raw (.int .i64 g.m)]],
      .row 3 1 [[.raw (.int .i64 2)], [.raw (.int .i64 (IntKind.i64.wrap (2 * IntKind.i64.wrap (g.k + g.m))))], [.raw (.int .i64 (IntKind.i64.wrap (2 * g.st)))]], .row 3 1 [[.raw (.int .i64 1)], [.raw (.int .i64 2)], [.raw (.int .i64 0)]]]⟩ True (aw_block (aw_seq (aw_region hT ?_))) (fun _ => ?_)
    · refine ⟨⟨by decide, by decide⟩, ?_⟩
      refine aw_seq (aw_seq (aw_region hT ?_))
      refine callP (af_at (geo_may ⟨IntKind.i64.wrap (g.wal + 1), g.st, g.k, g.m⟩) _ rfl rfl) ?_
      refine aw_cond (boolI (fun h1 => ?_) (fun h1 => ?_))
      · exact aw_exit ⟨wk_pick [0, 1, 2, 3] [1, 4, 5, 6, 7] rfl, trivial⟩
      have hmh : gMay ⟨IntKind.i64.wrap (g.wal + 1), g.st, g.k, g.m⟩ = true := by
        have h1 : (!gMay ⟨IntKind.i64.wrap (g.wal + 1), g.st, g.k, g.m⟩) = false := h1
        simpa using h1
      have c1 := geo_members ⟨IntKind.i64.wrap (g.wal + 1), g.st, g.k, g.m⟩ 0
      rw [members_zero hmh] at c1
      have c2 := geo_Sectors ⟨IntKind.i64.wrap (g.wal + 1), g.st, g.k, g.m⟩
      have c3 := geo_Groups ⟨IntKind.i64.wrap (g.wal + 1), g.st, g.k, g.m⟩
      rw [hmh] at c2 c3
      have hsh : sec ⟨IntKind.i64.wrap (g.wal + 1), g.st, g.k, g.m⟩ = IntKind.i64.wrap (sec g + 2) := by
        rw [next0 hB] at hmh ⊢
        have hB2 := hB
        obtain ⟨w1, w2, s1, s2, k1, k2, m1, m2⟩ := hB2
        have hb2 := (gMay_iff.1 hmh).2
        simp only [sec, logd, wid] at *
        rw [wrap64 _ (by omega) (by omega)]; omega
      have hgh : grp ⟨IntKind.i64.wrap (g.wal + 1), g.st, g.k, g.m⟩ = IntKind.i64.wrap (grp g + 1) := by
        rw [next0 hB]
        rw [wrap64 _ (by omega) (by omega)]
        unfold grp; simp only; omega
      refine aw_skip ?_
      refine aw_seq (aw_region hT ?_)
      refine callP (af_at c1 _ rfl rfl) ?_
      refine callP (af_lent (ref_ints [0, 1, 2, 3] [0, 1, 2, 3] (by decide)) 5 rfl ⟨.inl ⟨rfl, rfl⟩, .inr (.inl ⟨rfl, rfl⟩), trivial⟩ rfl flat_nil) ?_
      refine aw_seq (aw_quiet hT follows_mixed (by rfl) ?_)
      refine ⟨_, af_at c2 _ rfl rfl, ?_⟩
      refine ⟨_, af_at cs _ rfl rfl, ?_⟩
      refine ⟨⟨by decide, by decide⟩, ?_⟩
      refine boolI (fun h2 => absurd (show (sec ⟨IntKind.i64.wrap (g.wal + 1), g.st, g.k, g.m⟩ != IntKind.i64.wrap (sec g + 2)) = true from h2) (by rw [hsh]; simp)) (fun h2 => ?_)
      refine ⟨_, af_at c3 _ rfl rfl, ?_⟩
      refine ⟨_, af_at cg _ rfl rfl, ?_⟩
      refine ⟨⟨by decide, by decide⟩, ?_⟩
      refine aw_cond (boolI (fun h3 => absurd (show (grp ⟨IntKind.i64.wrap (g.wal + 1), g.st, g.k, g.m⟩ != IntKind.i64.wrap (grp g + 1)) = true from h3) (by rw [hgh]; simp)) (fun h3 => ?_))
      exact aw_skip ⟨wk_pick [0, 1, 2, 3] [1, 4, 5, 6, 7] rfl, trivial⟩
    · refine aw_region hT ?_
      refine ⟨2 - 0, by omega, _, wk_pick [0, 1, 2, 3] [1, 4, 5, 6, 7] rfl, 1, _, by omega, ?_, rfl⟩
      rfl
  · refine aw_seq (aw_seq (aw_region hT ?_))
    refine aw_cond (aw_skip ?_)
    refine aw_cut ⟨⟨102, [(1, .ref 0 0), (4, .msl 1 4 0 3), (5, .msl 2 1 0 3), (6, .msl 3 1 0 3), (7, i64 1)]⟩, [.cells 38 [i64 g.wal, i64 g.st, i64 g.k, i64 g.m],
      .row 38 4 [[.raw (.int .i64 (IntKind.i64.wrap (g.wal + 1))), .raw (.int .i64 g.st), .raw (.int .i64 g.k), .raw (.int .i64 g.m)], [.raw (.int .i64 g.wal), .raw (.int .i64 (IntKind.i64.wrap (g.st + 1))), .raw (.int .i64 g.k), .raw (.int .i64 g.m)], [.raw (.int .i64 g.wal), .raw (.int .i64 g.st), .raw (.int .i64 (IntKind.i64.wrap (g.k + 1))), .raw (.int .i64 g.m)]],
      .row 3 1 [[.raw (.int .i64 2)], [.raw (.int .i64 (IntKind.i64.wrap (2 * IntKind.i64.wrap (g.k + g.m))))], [.raw (.int .i64 (IntKind.i64.wrap (2 * g.st)))]], .row 3 1 [[.raw (.int .i64 1)], [.raw (.int .i64 2)], [.raw (.int .i64 0)]]]⟩ True (aw_block (aw_seq (aw_region hT ?_))) (fun _ => ?_)
    · refine ⟨⟨by decide, by decide⟩, ?_⟩
      refine aw_seq (aw_seq (aw_region hT ?_))
      refine callP (af_at (geo_may ⟨g.wal, IntKind.i64.wrap (g.st + 1), g.k, g.m⟩) _ rfl rfl) ?_
      refine aw_cond (boolI (fun h1 => ?_) (fun h1 => ?_))
      · exact aw_exit ⟨wk_pick [0, 1, 2, 3] [1, 4, 5, 6, 7] rfl, trivial⟩
      have hmh : gMay ⟨g.wal, IntKind.i64.wrap (g.st + 1), g.k, g.m⟩ = true := by
        have h1 : (!gMay ⟨g.wal, IntKind.i64.wrap (g.st + 1), g.k, g.m⟩) = false := h1
        simpa using h1
      have c1 := geo_members ⟨g.wal, IntKind.i64.wrap (g.st + 1), g.k, g.m⟩ 0
      rw [members_zero hmh] at c1
      have c2 := geo_Sectors ⟨g.wal, IntKind.i64.wrap (g.st + 1), g.k, g.m⟩
      have c3 := geo_Groups ⟨g.wal, IntKind.i64.wrap (g.st + 1), g.k, g.m⟩
      rw [hmh] at c2 c3
      have hsh : sec ⟨g.wal, IntKind.i64.wrap (g.st + 1), g.k, g.m⟩ = IntKind.i64.wrap (sec g + IntKind.i64.wrap (2 * IntKind.i64.wrap (g.k + g.m))) := by
        rw [next1 hB] at hmh ⊢
        have hB2 := hB
        obtain ⟨w1, w2, s1, s2, k1, k2, m1, m2⟩ := hB2
        have hb2 := (gMay_iff.1 hmh).2
        simp only [sec, logd, wid] at *
        have e : 2 * (g.st + 1) * (g.k + g.m) = 2 * g.st * (g.k + g.m) + 2 * (g.k + g.m) := by rw [show 2 * (g.st + 1) = 2 * g.st + 2 by omega, Int.add_mul]
        rw [wrap64 (g.k + g.m) (by omega) (by omega), wrap64 (2 * (g.k + g.m)) (by omega) (by omega), wrap64 _ (by omega) (by omega)]; omega
      have hgh : grp ⟨g.wal, IntKind.i64.wrap (g.st + 1), g.k, g.m⟩ = IntKind.i64.wrap (grp g + 2) := by
        rw [next1 hB]
        rw [wrap64 _ (by omega) (by omega)]
        unfold grp; simp only; omega
      refine aw_skip ?_
      refine aw_seq (aw_region hT ?_)
      refine callP (af_at c1 _ rfl rfl) ?_
      refine callP (af_lent (ref_ints [0, 1, 2, 3] [0, 1, 2, 3] (by decide)) 5 rfl ⟨.inl ⟨rfl, rfl⟩, .inr (.inl ⟨rfl, rfl⟩), trivial⟩ rfl flat_nil) ?_
      refine aw_seq (aw_quiet hT follows_mixed (by rfl) ?_)
      refine ⟨_, af_at c2 _ rfl rfl, ?_⟩
      refine ⟨_, af_at cs _ rfl rfl, ?_⟩
      refine ⟨⟨by decide, by decide⟩, ?_⟩
      refine boolI (fun h2 => absurd (show (sec ⟨g.wal, IntKind.i64.wrap (g.st + 1), g.k, g.m⟩ != IntKind.i64.wrap (sec g + IntKind.i64.wrap (2 * IntKind.i64.wrap (g.k + g.m)))) = true from h2) (by rw [hsh]; simp)) (fun h2 => ?_)
      refine ⟨_, af_at c3 _ rfl rfl, ?_⟩
      refine ⟨_, af_at cg _ rfl rfl, ?_⟩
      refine ⟨⟨by decide, by decide⟩, ?_⟩
      refine aw_cond (boolI (fun h3 => absurd (show (grp ⟨g.wal, IntKind.i64.wrap (g.st + 1), g.k, g.m⟩ != IntKind.i64.wrap (grp g + 2)) = true from h3) (by rw [hgh]; simp)) (fun h3 => ?_))
      exact aw_skip ⟨wk_pick [0, 1, 2, 3] [1, 4, 5, 6, 7] rfl, trivial⟩
    · refine aw_region hT ?_
      refine ⟨2 - 1, by omega, _, wk_pick [0, 1, 2, 3] [1, 4, 5, 6, 7] rfl, 2, _, by omega, ?_, rfl⟩
      rfl
  · refine aw_seq (aw_seq (aw_region hT ?_))
    refine aw_cond (aw_skip ?_)
    refine aw_cut ⟨⟨102, [(1, .ref 0 0), (4, .msl 1 4 0 3), (5, .msl 2 1 0 3), (6, .msl 3 1 0 3), (7, i64 2)]⟩, [.cells 38 [i64 g.wal, i64 g.st, i64 g.k, i64 g.m],
      .row 38 4 [[.raw (.int .i64 (IntKind.i64.wrap (g.wal + 1))), .raw (.int .i64 g.st), .raw (.int .i64 g.k), .raw (.int .i64 g.m)], [.raw (.int .i64 g.wal), .raw (.int .i64 (IntKind.i64.wrap (g.st + 1))), .raw (.int .i64 g.k), .raw (.int .i64 g.m)], [.raw (.int .i64 g.wal), .raw (.int .i64 g.st), .raw (.int .i64 (IntKind.i64.wrap (g.k + 1))), .raw (.int .i64 g.m)]],
      .row 3 1 [[.raw (.int .i64 2)], [.raw (.int .i64 (IntKind.i64.wrap (2 * IntKind.i64.wrap (g.k + g.m))))], [.raw (.int .i64 (IntKind.i64.wrap (2 * g.st)))]], .row 3 1 [[.raw (.int .i64 1)], [.raw (.int .i64 2)], [.raw (.int .i64 0)]]]⟩ True (aw_block (aw_seq (aw_region hT ?_))) (fun _ => ?_)
    · refine ⟨⟨by decide, by decide⟩, ?_⟩
      refine aw_seq (aw_seq (aw_region hT ?_))
      refine callP (af_at (geo_may ⟨g.wal, g.st, IntKind.i64.wrap (g.k + 1), g.m⟩) _ rfl rfl) ?_
      refine aw_cond (boolI (fun h1 => ?_) (fun h1 => ?_))
      · exact aw_exit ⟨wk_pick [0, 1, 2, 3] [1, 4, 5, 6, 7] rfl, trivial⟩
      have hmh : gMay ⟨g.wal, g.st, IntKind.i64.wrap (g.k + 1), g.m⟩ = true := by
        have h1 : (!gMay ⟨g.wal, g.st, IntKind.i64.wrap (g.k + 1), g.m⟩) = false := h1
        simpa using h1
      have c1 := geo_members ⟨g.wal, g.st, IntKind.i64.wrap (g.k + 1), g.m⟩ 0
      rw [members_zero hmh] at c1
      have c2 := geo_Sectors ⟨g.wal, g.st, IntKind.i64.wrap (g.k + 1), g.m⟩
      have c3 := geo_Groups ⟨g.wal, g.st, IntKind.i64.wrap (g.k + 1), g.m⟩
      rw [hmh] at c2 c3
      have hsh : sec ⟨g.wal, g.st, IntKind.i64.wrap (g.k + 1), g.m⟩ = IntKind.i64.wrap (sec g + IntKind.i64.wrap (2 * g.st)) := by
        rw [next2 hB] at hmh ⊢
        have hB2 := hB
        obtain ⟨w1, w2, s1, s2, k1, k2, m1, m2⟩ := hB2
        have hb2 := (gMay_iff.1 hmh).2
        simp only [sec, logd, wid] at *
        have e : 2 * g.st * (g.k + 1 + g.m) = 2 * g.st * (g.k + g.m) + 2 * g.st := by rw [show g.k + 1 + g.m = g.k + g.m + 1 by omega, Int.mul_add]; simp
        rw [wrap64 (2 * g.st) (by omega) (by omega), wrap64 _ (by omega) (by omega)]; omega
      have hgh : grp ⟨g.wal, g.st, IntKind.i64.wrap (g.k + 1), g.m⟩ = IntKind.i64.wrap (grp g + 0) := by
        rw [next2 hB]
        rw [wrap64 _ (by omega) (by omega)]
        unfold grp; simp only; omega
      refine aw_skip ?_
      refine aw_seq (aw_region hT ?_)
      refine callP (af_at c1 _ rfl rfl) ?_
      refine callP (af_lent (ref_ints [0, 1, 2, 3] [0, 1, 2, 3] (by decide)) 5 rfl ⟨.inl ⟨rfl, rfl⟩, .inr (.inl ⟨rfl, rfl⟩), trivial⟩ rfl flat_nil) ?_
      refine aw_seq (aw_quiet hT follows_mixed (by rfl) ?_)
      refine ⟨_, af_at c2 _ rfl rfl, ?_⟩
      refine ⟨_, af_at cs _ rfl rfl, ?_⟩
      refine ⟨⟨by decide, by decide⟩, ?_⟩
      refine boolI (fun h2 => absurd (show (sec ⟨g.wal, g.st, IntKind.i64.wrap (g.k + 1), g.m⟩ != IntKind.i64.wrap (sec g + IntKind.i64.wrap (2 * g.st))) = true from h2) (by rw [hsh]; simp)) (fun h2 => ?_)
      refine ⟨_, af_at c3 _ rfl rfl, ?_⟩
      refine ⟨_, af_at cg _ rfl rfl, ?_⟩
      refine ⟨⟨by decide, by decide⟩, ?_⟩
      refine aw_cond (boolI (fun h3 => absurd (show (grp ⟨g.wal, g.st, IntKind.i64.wrap (g.k + 1), g.m⟩ != IntKind.i64.wrap (grp g + 0)) = true from h3) (by rw [hgh]; simp)) (fun h3 => ?_))
      exact aw_skip ⟨wk_pick [0, 1, 2, 3] [1, 4, 5, 6, 7] rfl, trivial⟩
    · refine aw_region hT ?_
      refine ⟨2 - 2, by omega, _, wk_pick [0, 1, 2, 3] [1, 4, 5, 6, 7] rfl, 3, _, by omega, ?_, rfl⟩
      rfl
  · refine aw_seq (aw_seq (aw_region hT ?_))
    refine aw_cond (aw_exit ?_)
    refine aw_seq (aw_region hT ?_)
    refine aw_ret ?_
    exact retPick [] ⟨rfl, rfl⟩ rfl
end Go.Proofs.Ytdncagppilehgaa.AL
