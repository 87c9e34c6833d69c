/- The layer 08 (geo): each sector is in just one group, once: the walk. -/
import Derived.Test.YtdncagppilehgaaALGm
namespace Go.Proofs.Ytdncagppilehgaa.AL
open Go Go.Proofs

/-- Is (j, l) told ahead of (i, k)? -/
def ahead (w : Int × Int × Int) (i k : Int) : Bool := decide (w.1 < i) || (w.1 == i && decide (w.2.1 < k))
def cnt (g : G) (i k : Int) (a : Nat) : Int := cond (ahead (gWhere g a) i k) 1 0
def seenL (g : G) (i k : Int) : List (List PV) := (List.range (sec g).toNat).map fun a => ip (cnt g i k a)

theorem seen_len (g : G) (i k : Int) : (seenL g i k).length = (sec g).toNat := by simp [seenL]
theorem seen_get {g : G} {i k : Int} {a : Nat} (h : a < (sec g).toNat) : (seenL g i k)[a]? = some (ip (cnt g i k a)) := by
  simp [seenL, h]

theorem seen_start {g : G} (hm : gMay g = true) : seenL g 0 0 = List.replicate (sec g).toNat (ip 0) := by
  refine List.ext_getElem? fun a => ?_
  rcases Nat.lt_or_ge a (sec g).toNat with h | h
  · rw [seen_get h, List.getElem?_replicate, if_pos h]
    obtain ⟨i, k, h1, h2, h3⟩ := member_of_where hm (a := (a : Int)) (by omega) (by omega)
    have := (outG_may h2).2.1
    rw [cnt, ahead, h1, decide_eq_false (show ¬ i < 0 by omega), decide_eq_false (show ¬ (k : Int) < 0 by omega)]
    simp
  · rw [List.getElem?_eq_none (by rw [seen_len]; exact h), List.getElem?_eq_none (by rw [List.length_replicate]; exact h)]

theorem cnt_zero {g : G} (hm : gMay g = true) {i : Int} (ho : outG g i = false) {k : Nat} {a : Int} (hk : (members g i)[k]? = some a) : cnt g i k a.toNat = 0 := by
  obtain ⟨h0, h1, h2⟩ := where_of_member hm ho hk
  rw [cnt, Int.toNat_of_nonneg h0, h2, ahead]; simp

theorem seen_step {g : G} (hm : gMay g = true) {i : Int} (ho : outG g i = false) {k : Nat} {a : Int} (hk : (members g i)[k]? = some a) : (seenL g i k).set a.toNat (ip 1) = seenL g i ((k : Int) + 1) := by
  obtain ⟨h0, h1, h2⟩ := where_of_member hm ho hk
  refine List.ext_getElem? fun b => ?_
  rcases Nat.lt_or_ge b (sec g).toNat with h | h
  · rw [seen_get h]
    by_cases e : a.toNat = b
    · subst e
      rw [List.getElem?_set_self (by rw [seen_len]; exact h), cnt, Int.toNat_of_nonneg h0, h2, ahead]
      simp
      rw [decide_eq_true (by omega)]; rfl
    · rw [List.getElem?_set_ne e, seen_get h]
      congr 2
      rw [cnt, cnt]
      congr 1
      obtain ⟨j, l, g1, g2, g3⟩ := member_of_where hm (a := (b : Int)) (by omega) (by omega)
      rw [g1, ahead, ahead]
      simp only
      by_cases hj : j = i
      · subst hj
        have hl : l ≠ k := fun hl => by
          subst hl
          rw [hk] at g3
          have := Option.some.inj g3
          omega
        have : decide ((l : Int) < (k : Int)) = decide ((l : Int) < (k : Int) + 1) := decide_eq_decide.2 (by omega)
        rw [this]
      · have : (j == i) = false := by simpa using hj
        rw [this]; simp
  · rw [List.getElem?_eq_none (by rw [List.length_set, seen_len]; exact h), List.getElem?_eq_none (by rw [seen_len]; exact h)]

theorem seen_next {g : G} (hm : gMay g = true) {i : Int} : seenL g i ((members g i).length : Nat) = seenL g (i + 1) 0 := by
  refine List.map_congr_left fun a ha => ?_
  have ha := List.mem_range.1 ha
  congr 1
  rw [cnt, cnt]
  congr 1
  obtain ⟨j, l, g1, g2, g3⟩ := member_of_where hm (a := (a : Int)) (by omega) (by omega)
  rw [g1, ahead, ahead]
  simp only
  have hl0 : decide ((l : Int) < 0) = false := decide_eq_false (by omega)
  rw [hl0, Bool.and_false, Bool.or_false]
  by_cases hj : j = i
  · subst hj
    have := (List.getElem?_eq_some_iff.1 g3).1
    rw [decide_eq_true (show (l : Int) < ((members g j).length : Nat) by omega), decide_eq_true (show j < j + 1 by omega)]
    simp
  · have : (j == i) = false := by simpa using hj
    rw [this, Bool.false_and, Bool.or_false]
    exact decide_eq_decide.2 (by omega)

theorem seen_all {g : G} (hm : gMay g = true) {a : Nat} (h : a < (sec g).toNat) : cnt g (grp g) 0 a = 1 := by
  obtain ⟨j, l, g1, g2, g3⟩ := member_of_where hm (a := (a : Int)) (by omega) (by omega)
  have := (outG_may g2).2.2
  rw [cnt, g1, ahead, decide_eq_true (show j < grp g by omega)]; rfl

theorem in_len {g : G} {i : Int} (h : outG g i = false) : (members g i).length ≤ 24 := by
  have hB := (gMay_iff.1 (outG_may h).1).1
  have hw := wid_bd hB
  rw [members, h]
  cases h2 : i == 0 with
  | true => exact (by decide : 4 ≤ 24)
  | false =>
    cases h3 : decide (i ≤ g.wal) with
    | true => exact (by decide : 2 ≤ 24)
    | false => simp only [List.length_map, List.length_range]; omega

theorem geo_partsLaw (g : G) : AF Try.prog 6 [g.av] [] (Pure (bl true) []) := by
  refine af_body hT Try.func6 rfl rfl Try.ntmps6 rfl ?_
  refine aw_seq (aw_region hT ?_)
  refine aw_seq (aw_region hT ?_)
  refine callP (af_at geo_awake _ rfl rfl) ?_
  have cs := geo_Sectors g
  have cg := geo_Groups g
  refine aw_seq (aw_seq (aw_region hT ?_))
  refine callP (af_at (geo_may g) _ rfl rfl) ?_
  refine aw_cond (boolI (fun h1 => ?_) (fun h1 => ?_))
  · have hm : gMay g = false := by
      have h1 : (!gMay g) = true := h1
      simpa using h1
    rw [hm] at cs cg
    refine aw_seq (aw_region hT ?_)
    refine callP (af_at cs _ rfl rfl) ?_
    refine callP (af_at cg _ rfl rfl) ?_
    refine aw_ret ?_
    exact retPick [] ⟨rfl, rfl⟩ rfl
  have hm : gMay g = true := by
    have h1 : (!gMay g) = false := h1
    simpa using h1
  rw [hm] at cs cg
  have hB := (gMay_iff.1 hm).1
  have hsec := (gMay_iff.1 hm).2
  have hst := stw_bd hB
  have hld : 20 ≤ logd g ∧ logd g ≤ 1028 := by have := hB.w1; have := hB.w2; unfold logd; omega
  have hgr : 11 ≤ grp g ∧ grp g ≤ 577 := by have := hB.w1; have := hB.w2; have := hB.s1; have := hB.s2; unfold grp; omega
  have hsg : 20 ≤ sec g := by unfold sec; omega
  have hN : ((sec g).toNat : Int) = sec g := Int.toNat_of_nonneg (by omega)
  refine aw_skip ?_
  refine aw_seq (aw_region hT ?_)
  refine callP (af_at cs _ rfl rfl) ?_
  refine ⟨⟨rfl, (show 0 ≤ sec g by omega), (show sec g * 8 ≤ 140737488355328 by omega), (show sec g ≤ 140737488355328 by omega)⟩, ?_⟩
  refine aw_cut ⟨⟨105, [(1, .ref 0 0), (4, .msl 1 1 0 (sec g).toNat)]⟩, [.cells 38 [i64 g.wal, i64 g.st, i64 g.k, i64 g.m], .row 3 1 (seenL g (grp g) 0)]⟩ True (aw_seq (aw_region hT ?_)) (fun _ => ?_)
  · refine aw_block ?_
    refine aw_loopW (fun n s => ∃ (i : Nat) (j : Int) (xs : List (List PV)), (n : Int) + i = grp g ∧ j = i ∧ xs = seenL g i 0 ∧ s = ⟨⟨105, [(1, .ref 0 0), (4, .msl 1 1 0 (sec g).toNat), (5, i64 j)]⟩, [.cells 38 [i64 g.wal, i64 g.st, i64 g.k, i64 g.m], .row 3 1 xs]⟩) (grp g).toNat ⟨⟨105, _⟩, [_, _]⟩ (wk_pick [0, 1] [1, 4, 5] rfl) ⟨0, _, _, by omega, rfl, (seen_start hm).symm, rfl⟩ ?_
    rintro n s ⟨i, j, xs, hn, rfl, hxs, rfl⟩
    refine aw_seq (aw_seq (aw_region hT ?_))
    refine callP (af_at cg _ rfl rfl) ?_
    refine aw_cond (boolI (fun h2 => ?_) (fun h2 => ?_))
    · have hi : (i : Int) < grp g := of_decide_eq_true h2
      have ho : outG g i = false := by
        rw [outG, hm]
        show (decide ((i : Int) < 0) || decide ((i : Int) ≥ grp g)) = false
        rw [Bool.or_eq_false_iff]; exact ⟨decide_eq_false (by omega), decide_eq_false (by omega)⟩
      have hml := (in_len ho)
      have hnext := seen_next hm (i := (i : Int))
      have hmem := fun (k : Nat) (a : Int) (hk : (members g i)[k]? = some a) => where_of_member hm ho hk
      have hstep := fun (k : Nat) (a : Int) (hk : (members g i)[k]? = some a) => seen_step hm ho hk
      have hzero := fun (k : Nat) (a : Int) (hk : (members g i)[k]? = some a) => cnt_zero hm ho hk
      have cm := geo_members g i
      generalize members g i = ms at hml hnext hmem hstep hzero cm
      refine aw_skip ?_
      refine aw_seq (aw_block (aw_seq (aw_region hT ?_)))
      refine callP (af_at cm _ rfl rfl) ?_
      refine aw_seq (aw_region hT ?_)
      refine aw_block ?_
      refine aw_loopW (fun n s => ∃ (k : Nat) (q : Int) (xs : List (List PV)), n + k = ms.length ∧ q = k ∧ xs = seenL g i k ∧ s = ⟨⟨105, [(1, .ref 0 0), (4, .msl 1 1 0 (sec g).toNat), (5, i64 i), (6, ints ms), (7, i64 q)]⟩, [.cells 38 [i64 g.wal, i64 g.st, i64 g.k, i64 g.m], .row 3 1 xs]⟩) ms.length ⟨⟨105, _⟩, [_, _]⟩ (wk_pick [0, 1] [1, 4, 5, 6, 7] rfl) ⟨0, _, _, rfl, rfl, hxs, rfl⟩ ?_
      rintro n2 s2 ⟨k, q, ys, hn2, rfl, hys, rfl⟩
      refine aw_seq (aw_seq (aw_region hT ?_))
      refine aw_cond (boolI (fun h3 => ?_) (fun h3 => ?_))
      · have hk : k < ms.length := by simpa using h3
        have ha := List.getElem?_eq_getElem hk
        generalize ms[k] = a at ha
        obtain ⟨a0, a1, a2⟩ := hmem k a ha
        have hget : ys[a.toNat]? = some [.raw (.int .i64 0)] := by rw [hys, seen_get (by omega), hzero k a ha]; rfl
        refine aw_skip ?_
        refine aw_seq (aw_block (aw_seq (aw_seq (aw_region hT ?_))))
        refine ⟨Int.natCast_nonneg _, optI (iget ha) ?_⟩
        refine boolI (fun h4 => absurd (of_decide_eq_true (show decide (a < 0) = true from h4)) (by omega)) (fun h4 => ?_)
        refine ⟨Int.natCast_nonneg _, optI (iget ha) ?_⟩
        refine aw_cond (boolI (fun h5 => absurd (of_decide_eq_true (show decide (a ≥ ((sec g).toNat : Int)) = true from h5)) (by omega)) (fun h5 => ?_))
        refine aw_skip ?_
        have cw := geo_where g a
        rw [a2] at cw
        refine aw_seq (aw_quiet hT follows_mixed (by rfl) ?_)
        refine ⟨Int.natCast_nonneg _, optI (iget ha) ?_⟩
        refine ⟨_, af_at cw _ rfl rfl, ?_⟩
        refine aw_seq (aw_seq (aw_region hT ?_))
        refine boolI (fun h6 => absurd (show ((i : Int) != (i : Int)) = true from h6) (by simp)) (fun h6 => ?_)
        refine boolI (fun h7 => absurd (show ((k : Int) != (k : Int)) = true from h7) (by simp)) (fun h7 => ?_)
        refine aw_cond (aw_skip ?_)
        refine aw_region hT ?_
        refine ⟨Int.natCast_nonneg _, optI (iget ha) ?_⟩
        refine ⟨⟨a0, (show a < ((sec g).toNat : Int) by omega)⟩, optI (show ys[0 + a.toNat]? = _ by rw [Nat.zero_add]; exact hget) ?_⟩
        refine ⟨⟨a0, (show a < ((sec g).toNat : Int) by omega)⟩, optI (show ys[0 + a.toNat]? = _ by rw [Nat.zero_add]; exact hget) ?_⟩
        refine aw_region hT ?_
        refine ⟨ms.length - (k + 1), by omega, _, wk_pick [0, 1] [1, 4, 5, 6, 7] rfl, k + 1, _, _, by omega, ?_, ?_, rfl⟩
        · rw [wrap64 _ (by omega) (by omega)]; rfl
        · show ys.set (0 + a.toNat) (ip 1) = _
          rw [Nat.zero_add, hys, hstep k a ha]; rfl
      · refine aw_exit ?_
        refine aw_region hT ?_
        have hk : k = ms.length := by
          have : ¬ k < ms.length := by simpa using h3
          omega
        refine ⟨n - 1, by omega, _, wk_pick [0, 1] [1, 4, 5] rfl, i + 1, _, _, by omega, ?_, ?_, rfl⟩
        · rw [wrap64 _ (by omega) (by omega)]; rfl
        · rw [hys, hk, hnext]; rfl
    · refine aw_exit ?_
      have hi : (i : Int) = grp g := by
        have : ¬ (i : Int) < grp g := of_decide_eq_false h2
        omega
      rw [← hi, ← hxs]
      exact ⟨wk_pick [0, 1] [1, 4] rfl, trivial⟩
  · refine aw_seq (aw_seq (aw_region hT ?_))
    refine aw_block ?_
    refine aw_loopW (fun n s => ∃ (i : Nat) (j : Int), n + i = (sec g).toNat ∧ j = i ∧ s = ⟨⟨105, [(4, .msl 1 1 0 (sec g).toNat), (11, i64 j)]⟩, [.cells 38 [i64 g.wal, i64 g.st, i64 g.k, i64 g.m], .row 3 1 (seenL g (grp g) 0)]⟩) (sec g).toNat ⟨⟨105, _⟩, [_, _]⟩ (wk_pick [0, 1] [4, 11] rfl) ⟨0, _, rfl, rfl, rfl⟩ ?_
    rintro n s ⟨i, j, hn, rfl, rfl⟩
    refine aw_seq (aw_seq (aw_region hT ?_))
    refine aw_cond (boolI (fun h2 => ?_) (fun h2 => ?_))
    · have hi : i < (sec g).toNat := by
        have h2 := of_decide_eq_true (show decide ((i : Int) < ((sec g).toNat : Int)) = true from h2)
        omega
      have hget := seen_get (g := g) (i := grp g) (k := 0) hi
      rw [seen_all hm hi] at hget
      refine aw_skip ?_
      refine aw_seq (aw_block (aw_seq (aw_region hT ?_)))
      refine ⟨⟨Int.natCast_nonneg _, by omega⟩, optI (show (seenL g (grp g) 0)[0 + ((i : Nat) : Int).toNat]? = _ by rw [Nat.zero_add, Int.toNat_natCast]; exact hget) ?_⟩
      refine aw_cond (aw_skip ?_)
      refine aw_region hT ?_
      refine ⟨(sec g).toNat - (i + 1), by omega, _, wk_pick [0, 1] [4, 11] rfl, i + 1, _, by omega, ?_, rfl⟩
      rw [wrap64 _ (by omega) (by omega)]; rfl
    · refine aw_exit ?_
      refine aw_seq (aw_region hT ?_)
      refine aw_ret ?_
      exact retPick [] ⟨rfl, rfl⟩ rfl
end Go.Proofs.Ytdncagppilehgaa.AL
