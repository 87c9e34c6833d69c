/- The layer 08 (geo): all is told as the document says. -/
import Derived.Test.YtdncagppilehgaaALGt
namespace Go.Proofs.Ytdncagppilehgaa.AL
open Go Go.Proofs

theorem in_bears' {g : G} {i : Int} (h : outG g i = false) : (members g i).length ≤ 24 := by
  have hB := (gMay_iff.1 (outG_may h).1).1
  have hw := wid_bd hB
  rw [members, h]
  cases h2 : i == 0 with
  | true => exact (by decide : 4 ≤ 24)
  | false =>
    cases h3 : decide (i ≤ g.wal) with
    | true => exact (by decide : 2 ≤ 24)
    | false => simp only [List.length_map, List.length_range]; omega

theorem members_len (g : G) (i : Int) : (members g i).length ≤ 100000 := by
  cases h : outG g i with
  | true => rw [members, h]; simp
  | false =>
    have := (in_bears' h); omega

theorem sec_len (g : G) : orZ (gMay g) (sec g) = ((owners g).length : Int) := by
  obtain ⟨_, h1, h2, _⟩ := ow_len g
  cases hm : gMay g with
  | true => rw [h1 hm]; rfl
  | false => rw [h2 hm]; rfl

set_option maxRecDepth 8000 in
theorem geo_tellsLaw (g : G) (i a : Int) : AF Try.prog 8 [g.av, i64 i, i64 a] [] (Pure (bl true) []) := by
  refine af_body hT Try.func8 rfl rfl Try.ntmps8 rfl ?_
  refine aw_seq (aw_region hT ?_)
  refine aw_seq (aw_region hT ?_)
  refine callP (af_at geo_awake _ rfl rfl) ?_
  refine aw_seq (aw_region hT ?_)
  refine callP (af_at (geo_where g a) _ rfl rfl) ?_
  refine aw_seq (aw_region hT ?_)
  refine callP (af_at (ref_where g a) _ rfl rfl) ?_
  refine aw_seq (aw_quiet hT follows_mixed (by rfl) ?_)
  refine ⟨_, af_at (geo_members g i) _ rfl rfl, ?_⟩
  refine ⟨_, af_at (ref_membersP g i) _ rfl rfl, ?_⟩
  refine ⟨_, af_at (ref_ints _ _ (members_len g i)) _ rfl rfl, ?_⟩
  refine aw_seq (aw_region hT ?_)
  refine callP (af_at (ref_gMay g) _ rfl rfl) ?_
  refine aw_seq (aw_region hT ?_)
  generalize gWhere g a = w
  obtain ⟨w1, w2, w3⟩ := w
  refine aw_cut ⟨⟨103, [(1, i64 i), (3, .ref 0 0), (7, bl true), (8, i64 w1), (9, i64 w2), (10, i64 w3), (11, i64 w1), (12, i64 w2), (13, i64 w3), (14, bl (decide (members g i = members g i))), (15, bl (gMay g)), (16, i64 (orZ (gMay g) (room g)))]⟩, [.cells 38 [i64 g.wal, i64 g.st, i64 g.k, i64 g.m]]⟩ True (aw_seq (aw_region hT ?_)) (fun _ => ?_)
  · refine aw_cond (boolI (fun h1 => ?_) (fun h1 => ?_))
    · have hB := (gMay_iff.1 h1).1
      obtain ⟨b1, b2, s1, s2, k1, k2, m1, m2⟩ := hB
      have hb := prod_bd (a := g.st) (b := g.k) (by omega) (by omega) s2 k2
      have e : orZ (gMay g) (room g) = IntKind.i64.wrap (IntKind.i64.wrap (g.st * g.k) * 228) := by
        rw [h1, wrap64 (g.st * g.k) (by omega) (by omega), wrap64 _ (by omega) (by omega)]; rfl
      refine aw_region hT ?_
      rw [e]
      exact ⟨wk_pick [0] [1, 3, 7, 8, 9, 10, 11, 12, 13, 14, 15, 16] rfl, trivial⟩
    · have e : orZ (gMay g) (room g) = 0 := by rw [h1]; rfl
      rw [e]
      exact aw_skip ⟨wk_pick [0] [1, 3, 7, 8, 9, 10, 11, 12, 13, 14, 15, 16] rfl, trivial⟩
  · have hsl := sec_len g
    refine aw_seq (aw_quiet hT follows_mixed (by rfl) ?_)
    refine boolI (fun h1 => ?_) (fun h1 => absurd (show (w1 == w1) = false from h1) (by simp))
    refine boolI (fun h2 => ?_) (fun h2 => absurd (show (w2 == w2) = false from h2) (by simp))
    refine boolI (fun h3 => ?_) (fun h3 => absurd (show (w3 == w3) = false from h3) (by simp))
    refine boolI (fun h4 => ?_) (fun h4 => absurd (show decide (members g i = members g i) = false from h4) (by simp))
    refine ⟨_, af_at (geo_may g) _ rfl rfl, ?_⟩
    refine boolI (fun h5 => ?_) (fun h5 => absurd (show (gMay g == gMay g) = false from h5) (by simp))
    refine ⟨_, af_at (geo_Sectors g) _ rfl rfl, ?_⟩
    refine ⟨_, af_at (ref_ownersP g) _ rfl rfl, ?_⟩
    refine boolI (fun h6 => ?_) (fun h6 => absurd (show (orZ (gMay g) (sec g) == (((owners g).map ip).length : Int)) = false from h6) (by rw [hsl, List.length_map]; simp))
    refine ⟨_, af_at (geo_Groups g) _ rfl rfl, ?_⟩
    refine ⟨_, af_at (ref_gGroups g) _ rfl rfl, ?_⟩
    refine boolI (fun h7 => ?_) (fun h7 => absurd (show (orZ (gMay g) (grp g) == orZ (gMay g) (grp g)) = false from h7) (by simp))
    refine ⟨_, af_at (geo_Room g) _ rfl rfl, ?_⟩
    refine boolI (fun h8 => ?_) (fun h8 => absurd (show (orZ (gMay g) (room g) == orZ (gMay g) (room g)) = false from h8) (by simp))
    refine ⟨_, af_at (geo_bears g i) _ rfl rfl, ?_⟩
    refine ⟨_, af_at (ref_gBears g i) _ rfl rfl, ?_⟩
    refine aw_ret ?_
    refine retPick [] ⟨?_, rfl⟩ rfl
    show bl (bears g i == bears g i) = _
    rw [beq_self_eq_true]
end Go.Proofs.Ytdncagppilehgaa.AL
