/- The layer 08 (geo), the document's members and places: the walks. -/
import Derived.Test.YtdncagppilehgaaALGs
namespace Go.Proofs.Ytdncagppilehgaa.AL
open Go Go.Proofs

theorem ref_ownersP (g : G) : AF Try.prog 30 [g.av] [] (Pure (ints (owners g)) []) := af_frz (ref_owners g) (by simp)

theorem ow_len (g : G) : (owners g).length ≤ 4096 ∧ (gMay g = true → ((owners g).length : Int) = sec g) ∧ (gMay g = false → owners g = []) ∧ (gMay g = true → 20 ≤ sec g) := by
  cases hm : gMay g with
  | false => rw [owners, hm]; simp
  | true =>
    have hB := (gMay_iff.1 hm).1
    have hs := (gMay_iff.1 hm).2
    have := stw_bd hB
    have := hB.w1
    have h0 : 20 ≤ sec g := by unfold sec logd; omega
    rw [owners, hm]
    refine ⟨?_, fun _ => ?_, fun h => absurd h (by simp), fun _ => h0⟩
    · show (ownL g _).length ≤ 4096
      rw [ownL_len]; omega
    · show ((ownL g _).length : Int) = _
      rw [ownL_len]; omega

theorem ow_get {g : G} {k : Nat} (h : k < (owners g).length) : (owners g)[k]? = some (owner g k) := by
  cases hm : gMay g with
  | false => rw [(ow_len g).2.2.1 hm] at h; simp at h
  | true =>
    have h' := h
    rw [owners, hm] at h ⊢
    have hk : k < (sec g).toNat := by simpa [ownL] using h
    show (ownL g _)[k]? = _
    simp [ownL, hk]

theorem members_ow (g : G) (i : Int) : members g i = fil g i (owners g).length := by
  cases hm : gMay g with
  | false =>
    rw [(ow_len g).2.2.1 hm]
    have : outG g i = true := by
      rw [outG, hm]
      show (decide (i < 0) || decide (i ≥ 0)) = true
      by_cases h : i < 0
      · rw [decide_eq_true h]; rfl
      · rw [decide_eq_true (show i ≥ 0 by omega), Bool.or_true]
    rw [members, this]; rfl
  | true =>
    rw [members_fil hm]
    have := (ow_len g).2.1 hm
    congr 1; omega

theorem ref_membersP (g : G) (i : Int) : AF Try.prog 28 [g.av, i64 i] [] (Pure (ints (members g i)) []) := by
  refine af_frz (t := 3) (n := (members g i).length) ?_ (by simp)
  have hl := (ow_len g).1
  refine af_body hT Try.func28 rfl rfl Try.ntmps28 rfl ?_
  refine aw_seq (aw_region hT ?_)
  refine aw_seq (aw_region hT ?_)
  refine callP (af_at (ref_ownersP g) _ rfl rfl) ?_
  refine aw_seq (aw_region hT ?_)
  refine aw_seq (aw_seq (aw_region hT ?_))
  refine aw_wk (Wk.trans (wk_phantom 3 1) (wk_nil 6 1 1 0 rfl)) ?_
  refine aw_block ?_
  refine aw_loopW (fun n s => ∃ (k : Nat) (j : Int) (c : Nat) (xs : List (List PV)), n + k = (owners g).length ∧ j = k ∧ c = xs.length ∧ xs = (fil g i k).map ip ∧ s = ⟨⟨27, [(1, i64 i), (5, ints (owners g)), (6, .msl 0 1 0 c), (7, i64 j)]⟩, [.row 3 1 xs]⟩) (owners g).length ⟨⟨27, _⟩, [_]⟩ (wk_pick [1] [1, 5, 6, 7] rfl) ⟨0, _, _, _, rfl, rfl, rfl, rfl, rfl⟩ ?_
  rintro n s ⟨k, j, c, xs, hn, rfl, rfl, hxs, rfl⟩
  have hfl : xs.length ≤ k := by
    rw [hxs, fil, List.length_map, List.length_map]
    exact Nat.le_trans (List.length_filter_le _ _) (by simp)
  refine aw_seq (aw_seq (aw_region hT ?_))
  refine aw_cond (boolI (fun h => ?_) (fun h => ?_))
  · have hk : k < (owners g).length := by simpa using h
    have hx := ow_get hk
    have hs := fil_succ g i k
    refine aw_skip ?_
    refine aw_seq (aw_block (aw_seq (aw_region hT ?_)))
    refine ⟨Int.natCast_nonneg _, optI (iget hx) ?_⟩
    refine aw_cond (boolI (fun h2 => ?_) (fun h2 => ?_))
    · have h2 : (owner g k == i) = true := h2
      refine aw_region hT ?_
      refine ⟨rfl, ⟨(show (xs.length + 1) * 8 ≤ 140737488355328 by omega), (show xs.length + 1 ≤ 140737488355328 by omega)⟩, ?_⟩
      refine aw_region hT ?_
      refine ⟨(owners g).length - (k + 1), by omega, _, wk_pick [2] [1, 5, 6, 7] rfl, k + 1, _, _, _, by omega, ?_, rfl, ?_, rfl⟩
      · rw [wrap64 _ (by omega) (by omega)]; rfl
      · rw [hs, h2, List.map_append, ← hxs]; rfl
    · have h2 : (owner g k == i) = false := h2
      refine aw_skip ?_
      refine aw_region hT ?_
      refine ⟨(owners g).length - (k + 1), by omega, _, wk_pick [0] [1, 5, 6, 7] rfl, k + 1, _, _, _, by omega, ?_, rfl, ?_, rfl⟩
      · rw [wrap64 _ (by omega) (by omega)]; rfl
      · rw [hs, h2, hxs]; simp
  · refine aw_exit ?_
    refine aw_seq (aw_region hT ?_)
    refine aw_ret ?_
    have hk : k = (owners g).length := by
      have : ¬ k < (owners g).length := by simpa using h
      omega
    rw [hk, ← members_ow] at hxs
    refine retPick [0] ⟨?_, ?_⟩ rfl
    · rw [hxs]; simp [AV.ren, inv]
    · rw [hxs]; rfl

theorem ref_where (g : G) (a : Int) : AF Try.prog 27 [g.av, i64 a] [] (Pure (.tup [i64 (gWhere g a).1, i64 (gWhere g a).2.1, i64 (gWhere g a).2.2]) []) := by
  obtain ⟨hl, hlen, hno, hsg⟩ := ow_len g
  refine af_body hT Try.func27 rfl rfl Try.ntmps27 rfl ?_
  refine aw_seq (aw_region hT ?_)
  refine aw_seq (aw_region hT ?_)
  refine callP (af_at (ref_ownersP g) _ rfl rfl) ?_
  refine aw_seq (aw_seq (aw_region hT ?_))
  refine aw_cond (boolI (fun h1 => ?_) (fun h1 => ?_))
  · have h1 : ((((owners g).map ip).length : Int) == 0) = true := h1
    have hm : gMay g = false := by
      cases hm : gMay g with
      | false => rfl
      | true =>
        have := hlen hm; have := hsg hm
        simp only [List.length_map, beq_iff_eq] at h1
        omega
    refine aw_seq (aw_region hT ?_)
    refine aw_ret ?_
    refine retPick [] ⟨?_, rfl⟩ rfl
    rw [gWhere, hm]; rfl
  have h1 : ((((owners g).map ip).length : Int) == 0) = false := h1
  have hm : gMay g = true := by
    cases hm : gMay g with
    | true => rfl
    | false => rw [hno hm] at h1; simp at h1
  have hlen := hlen hm
  have hget := fun (k : Nat) (h : k < (owners g).length) => ow_get h
  refine aw_skip ?_
  generalize owners g = L at hl hlen hget ⊢
  refine aw_cut ⟨⟨44, [(1, i64 a), (7, ints L)]⟩, []⟩ (0 ≤ a ∧ a < sec g) (aw_seq (aw_region hT ?_)) (fun hC => ?_)
  · refine boolI (fun h2 => ?_) (fun h2 => ?_)
    · have h2 : decide (a < 0) = true := h2
      refine aw_cond ?_
      refine aw_seq (aw_region hT ?_)
      refine aw_ret ?_
      refine retPick [] ⟨?_, rfl⟩ rfl
      rw [gWhere, hm, h2]; rfl
    · have h2 : decide (a < 0) = false := h2
      refine aw_cond (boolI (fun h3 => ?_) (fun h3 => ?_))
      · have h3 : a ≥ ((L.map ip).length : Int) := of_decide_eq_true h3
        rw [List.length_map] at h3
        refine aw_seq (aw_region hT ?_)
        refine aw_ret ?_
        refine retPick [] ⟨?_, rfl⟩ rfl
        rw [gWhere, hm, h2, decide_eq_true (show a ≥ sec g by omega)]; rfl
      · have h3 : ¬ a ≥ ((L.map ip).length : Int) := of_decide_eq_false h3
        rw [List.length_map] at h3
        have h2 := of_decide_eq_false h2
        exact aw_skip ⟨wk_pick [] [1, 7] rfl, by omega, by omega⟩
  · obtain ⟨c1, c2⟩ := hC
    obtain ⟨A, rfl⟩ : ∃ A : Nat, a = A := ⟨a.toNat, (Int.toNat_of_nonneg c1).symm⟩
    have hA := hget A (by omega)
    have hw := where_count hm c2
    refine aw_seq (aw_region hT ?_)
    refine aw_seq (aw_seq (aw_region hT ?_))
    refine aw_block ?_
    refine aw_loopW (fun n s => ∃ (k : Nat) (j c : Int), n + k = A ∧ j = k ∧ c = ((fil g (owner g A) k).length : Int) ∧ s = ⟨⟨44, [(1, i64 (A : Nat)), (7, ints L), (8, i64 c), (9, i64 j)]⟩, []⟩) A ⟨⟨44, _⟩, []⟩ (wk_pick [] [1, 7, 8, 9] rfl) ⟨0, _, _, by omega, rfl, rfl, rfl⟩ ?_
    rintro n s ⟨k, j, c, hn, rfl, hc, rfl⟩
    have hfl : (fil g (owner g A) k).length ≤ k := by
      rw [fil, List.length_map]
      exact Nat.le_trans (List.length_filter_le _ _) (by simp)
    refine aw_seq (aw_seq (aw_region hT ?_))
    refine aw_cond (boolI (fun h3 => ?_) (fun h3 => ?_))
    · have hk : k < A := by
        have := of_decide_eq_true (show decide ((k : Int) < (A : Int)) = true from h3)
        omega
      have hx := hget k (by omega)
      have hs := fil_succ g (owner g A) k
      refine aw_skip ?_
      refine aw_seq (aw_block (aw_seq (aw_quiet hT follows_mixed (by rfl) ?_)))
      refine ⟨Int.natCast_nonneg _, optI (iget hx) ?_⟩
      refine ⟨Int.natCast_nonneg _, optI (iget hA) ?_⟩
      refine aw_cond (boolI (fun h4 => ?_) (fun h4 => ?_))
      · have h4 : (owner g k == owner g A) = true := h4
        refine aw_region hT ?_
        refine aw_region hT ?_
        refine ⟨A - (k + 1), by omega, _, wk_pick [] [1, 7, 8, 9] rfl, k + 1, _, _, by omega, ?_, ?_, rfl⟩
        · rw [wrap64 _ (by omega) (by omega)]; rfl
        · rw [wrap64 _ (by omega) (by omega), hs, h4, hc]; simp
      · have h4 : (owner g k == owner g A) = false := h4
        refine aw_skip ?_
        refine aw_region hT ?_
        refine ⟨A - (k + 1), by omega, _, wk_pick [] [1, 7, 8, 9] rfl, k + 1, _, _, by omega, ?_, ?_, rfl⟩
        · rw [wrap64 _ (by omega) (by omega)]; rfl
        · rw [hs, h4, hc]; simp
    · refine aw_exit ?_
      have hk : k = A := by
        have := of_decide_eq_false (show decide ((k : Int) < (A : Int)) = false from h3)
        omega
      subst hk
      refine aw_seq (aw_region hT ?_)
      refine ⟨Int.natCast_nonneg _, optI (iget hA) ?_⟩
      refine aw_ret ?_
      refine retPick [] ⟨?_, rfl⟩ rfl
      rw [hw, hc]; rfl
end Go.Proofs.Ytdncagppilehgaa.AL
