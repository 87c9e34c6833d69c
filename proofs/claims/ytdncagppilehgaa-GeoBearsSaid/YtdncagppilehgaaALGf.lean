/- The layer 08 (geo): each group bears at least one damaged member, and fewer than it has. -/
import Derived.Test.YtdncagppilehgaaALGe
namespace Go.Proofs.Ytdncagppilehgaa.AL
open Go Go.Proofs

theorem out_bears {g : G} {i : Int} (h : outG g i = true) : bears g i = 0 ∧ members g i = [] := by rw [bears, members, h]; exact ⟨rfl, rfl⟩

theorem in_bears {g : G} {i : Int} (h : outG g i = false) : 1 ≤ bears g i ∧ bears g i < ((members g i).length : Int) ∧ ((members g i).length : Int) ≤ 24 ∧ (i ≤ g.wal ∨ ((members g i).length : Int) - bears g i = g.k) := by
  obtain ⟨hm, h0, hlt⟩ := outG_may h
  have hB := (gMay_iff.1 hm).1
  have hw := wid_bd hB
  have hn : ((wid g).toNat : Int) = wid g := Int.toNat_of_nonneg (by omega)
  have := hB.w1
  have := hB.k1
  have := hB.m1
  rw [bears, members, h]
  cases h2 : i == 0 with
  | true => exact ⟨(by decide : (1 : Int) ≤ 3), (by decide : (3 : Int) < 4), (by decide : (4 : Int) ≤ 24), .inl (by simp at h2; omega)⟩
  | false =>
    cases h3 : decide (i ≤ g.wal) with
    | true => exact ⟨(by decide : (1 : Int) ≤ 1), (by decide : (1 : Int) < 2), (by decide : (2 : Int) ≤ 24), .inl (of_decide_eq_true h3)⟩
    | false =>
      simp only [List.length_map, List.length_range, hn]
      unfold wid at *
      exact ⟨by omega, by omega, by omega, .inr (by omega)⟩

theorem geo_bearsLaw (g : G) (i : Int) : AF Try.prog 9 [g.av, i64 i] [] (Pure (bl true) []) := by
  refine af_body hT Try.func9 rfl rfl Try.ntmps9 rfl ?_
  refine aw_seq (aw_region hT ?_)
  refine aw_seq (aw_region hT ?_)
  refine callP (af_at geo_awake _ rfl rfl) ?_
  refine aw_cut ⟨⟨63, [(1, i64 i), (2, .ref 0 0), (5, bl true), (20, bl (outG g i))]⟩, [.cells 38 [i64 g.wal, i64 g.st, i64 g.k, i64 g.m]]⟩ (outG g i = false) (aw_cut ⟨⟨63, [(1, i64 i), (2, .ref 0 0), (5, bl true), (20, bl (outG g i))]⟩, [.cells 38 [i64 g.wal, i64 g.st, i64 g.k, i64 g.m]]⟩ True (aw_region hT ?_) (fun _ => ?_)) (fun h1 => ?_)
  · refine boolI (fun h1 => ?_) (fun h1 => ?_)
    · have h1 : decide (i < 0) = true := h1
      have e : outG g i = true := by rw [outG, h1]; rfl
      rw [e]
      exact ⟨wk_pick [0] [1, 2, 5, 20] rfl, trivial⟩
    · have h1 : decide (i < 0) = false := h1
      refine callP (af_at (geo_Groups g) _ rfl rfl) ?_
      have e : outG g i = decide (i ≥ orZ (gMay g) (grp g)) := by rw [outG, h1]; rfl
      rw [e]
      exact ⟨wk_pick [0] [1, 2, 5, 20] rfl, trivial⟩
  · refine aw_cond (boolI (fun h1 => ?_) (fun h1 => ?_))
    · obtain ⟨hb, hm⟩ := out_bears h1
      have c1 := geo_bears g i
      have c2 := geo_members g i
      rw [hb] at c1; rw [hm] at c2
      refine aw_seq (aw_region hT ?_)
      refine callP (af_at c1 _ rfl rfl) ?_
      refine callP (af_at c2 _ rfl rfl) ?_
      refine aw_ret ?_
      exact retPick [] ⟨rfl, rfl⟩ rfl
    · exact aw_skip ⟨wk_pick [0] [1, 2, 5, 20] rfl, h1⟩
  · obtain ⟨b1, b2, b3, b4⟩ := in_bears h1
    have c1 := geo_bears g i
    have c2 := geo_members g i
    generalize bears g i = b at *
    generalize members g i = ms at *
    refine aw_seq (aw_region hT ?_)
    refine callP (af_at c2 _ rfl rfl) ?_
    refine aw_seq (aw_region hT ?_)
    refine callP (af_at c1 _ rfl rfl) ?_
    refine aw_seq (aw_region hT ?_)
    refine boolI (fun h2 => ?_) (fun h2 => absurd (of_decide_eq_false (show decide (b ≥ 1) = false from h2)) (by omega))
    refine boolI (fun h3 => ?_) (fun h3 => absurd (of_decide_eq_false (show decide (b < ((ms.map ip).length : Int)) = false from h3)) (by rw [List.length_map]; omega))
    refine boolI (fun h4 => ?_) (fun h4 => ?_)
    · refine aw_ret ?_
      exact retPick [] ⟨rfl, rfl⟩ rfl
    · have h4 : ¬ i ≤ g.wal := of_decide_eq_false h4
      have h5 : (ms.length : Int) - b = g.k := by omega
      refine aw_ret ?_
      refine retPick [] ⟨?_, rfl⟩ rfl
      show bl (IntKind.i64.wrap (((ms.map ip).length : Int) - b) == g.k) = _
      rw [List.length_map, wrap64 _ (by omega) (by omega), h5, beq_self_eq_true]
end Go.Proofs.Ytdncagppilehgaa.AL
