/- The layer 08 (geo), what a group bears, and where a sector is. -/
import Derived.Test.YtdncagppilehgaaALGc
namespace Go.Proofs.Ytdncagppilehgaa.AL
open Go Go.Proofs

def bears (g : G) (i : Int) : Int := match outG g i with
  | true => 0
  | false => match i == 0 with
    | true => 3
    | false => match decide (i ≤ g.wal) with
      | true => 1
      | false => g.m

theorem geo_bears (g : G) (i : Int) : AF Try.prog 33 [g.av, i64 i] [] (Pure (i64 (bears g i)) []) := by
  refine af_body hT Try.func33 rfl rfl Try.ntmps33 rfl ?_
  refine aw_seq (aw_region hT ?_)
  refine aw_cut ⟨⟨24, [(2, .ref 0 0)]⟩, [.cells 38 [i64 g.wal, i64 g.st, i64 g.k, i64 g.m]]⟩ (outG g i = false ∧ (i == 0) = false ∧ decide (i ≤ g.wal) = false) (aw_block ?_) (fun hC => ?_)
  · refine aw_cut ⟨⟨24, [(1, i64 i), (2, .ref 0 0), (5, bl (outG g i))]⟩, [.cells 38 [i64 g.wal, i64 g.st, i64 g.k, i64 g.m]]⟩ True (aw_region hT ?_) (fun _ => ?_)
    · refine boolI (fun h1 => ?_) (fun h1 => ?_)
      · have e : outG g i = true := by rw [outG, h1]; rfl
        rw [e]
        exact ⟨wk_pick [0] [1, 2, 5] rfl, trivial⟩
      · refine callP (af_at (geo_Groups g) _ rfl rfl) ?_
        have e : outG g i = decide (i ≥ orZ (gMay g) (grp g)) := by rw [outG, h1]; rfl
        rw [e]
        exact ⟨wk_pick [0] [1, 2, 5] rfl, trivial⟩
    · refine aw_cond (boolI (fun h1 => ?_) (fun h1 => ?_))
      · refine aw_seq (aw_region hT ?_)
        refine aw_ret ?_
        refine retPick [] ⟨?_, rfl⟩ rfl
        rw [bears, h1]; rfl
      · refine aw_seq (aw_region hT ?_)
        refine aw_cond (boolI (fun h2 => ?_) (fun h2 => ?_))
        · refine aw_seq (aw_region hT ?_)
          refine aw_ret ?_
          refine retPick [] ⟨?_, rfl⟩ rfl
          rw [bears, h1, h2]; rfl
        · refine aw_seq (aw_region hT ?_)
          refine aw_cond (boolI (fun h3 => ?_) (fun h3 => ?_))
          · have h3 : decide (i ≤ g.wal) = true := h3
            refine aw_seq (aw_region hT ?_)
            refine aw_ret ?_
            refine retPick [] ⟨?_, rfl⟩ rfl
            rw [bears, h1, h2, h3]; rfl
          · exact aw_skip ⟨wk_pick [0] [2] rfl, h1, h2, h3⟩
  · obtain ⟨h1, h2, h3⟩ := hC
    refine aw_seq (aw_region hT ?_)
    refine aw_ret ?_
    refine retPick [] ⟨?_, rfl⟩ rfl
    rw [bears, h1, h2, h3]; rfl

def gWhere (g : G) (a : Int) : Int × Int × Int := match gMay g with
  | false => (0, 0, 1)
  | true => match decide (a < 0) || decide (a ≥ sec g) with
    | true => (0, 0, 3)
    | false => match decide (a < 4) with
      | true => (0, a, 0)
      | false => match decide (a < logd g) with
        | true => (1 + (a - 4).tmod g.wal, (a - 4).tdiv g.wal, 0)
        | false => (1 + g.wal + (a - logd g).tdiv (wid g), (a - logd g).tmod (wid g), 0)

theorem tdiv_bd {a b : Int} (ha : 0 ≤ a) (hb : 0 < b) : 0 ≤ a.tdiv b ∧ a.tdiv b ≤ a := by
  rw [Int.tdiv_eq_ediv_of_nonneg ha]
  exact ⟨Int.ediv_nonneg ha (by omega), Int.ediv_le_self _ ha⟩
theorem tmod_bd {a b : Int} (ha : 0 ≤ a) (hb : 0 < b) : 0 ≤ a.tmod b ∧ a.tmod b < b := by
  rw [Int.tmod_eq_emod_of_nonneg ha]
  exact ⟨Int.emod_nonneg a (by omega), Int.emod_lt_of_pos a hb⟩

theorem geo_where (g : G) (a : Int) : AF Try.prog 25 [g.av, i64 a] [] (Pure (.tup [i64 (gWhere g a).1, i64 (gWhere g a).2.1, i64 (gWhere g a).2.2]) []) := by
  refine af_body hT Try.func25 rfl rfl Try.ntmps25 rfl ?_
  refine aw_seq (aw_region hT ?_)
  refine aw_cut ⟨⟨58, [(1, i64 a), (2, .ref 0 0)]⟩, [.cells 38 [i64 g.wal, i64 g.st, i64 g.k, i64 g.m]]⟩ (gMay g = true ∧ (decide (a < 0) || decide (a ≥ sec g)) = false ∧ decide (a < 4) = false ∧ decide (a < logd g) = false) (aw_block ?_) (fun hC => ?_)
  · refine aw_seq (aw_region hT ?_)
    refine callP (af_at (geo_may g) _ rfl rfl) ?_
    refine aw_cond (boolI (fun h1 => ?_) (fun h1 => ?_))
    · have h1 : gMay g = false := by simpa using h1
      refine aw_seq (aw_region hT ?_)
      refine aw_ret ?_
      refine retPick [] ⟨?_, rfl⟩ rfl
      rw [gWhere, h1]; rfl
    · have h1 : gMay g = true := by simpa using h1
      have hB := (gMay_iff.1 h1).1
      have hsec := (gMay_iff.1 h1).2
      refine aw_cut ⟨⟨58, [(1, i64 a), (2, .ref 0 0), (13, bl (decide (a < 0) || decide (a ≥ sec g)))]⟩, [.cells 38 [i64 g.wal, i64 g.st, i64 g.k, i64 g.m]]⟩ True (aw_region hT ?_) (fun _ => ?_)
      · refine boolI (fun h2 => ?_) (fun h2 => ?_)
        · have e : (decide (a < 0) || decide (a ≥ sec g)) = true := by rw [h2]; rfl
          rw [e]
          exact ⟨wk_pick [0] [1, 2, 13] rfl, trivial⟩
        · refine callP (af_at (geo_sectors hB) _ rfl rfl) ?_
          have e : (decide (a < 0) || decide (a ≥ sec g)) = decide (a ≥ sec g) := by rw [h2]; rfl
          rw [e]
          exact ⟨wk_pick [0] [1, 2, 13] rfl, trivial⟩
      · refine aw_cond (boolI (fun h2 => ?_) (fun h2 => ?_))
        · refine aw_seq (aw_region hT ?_)
          refine aw_ret ?_
          refine retPick [] ⟨?_, rfl⟩ rfl
          rw [gWhere, h1, h2]; rfl
        · refine aw_seq (aw_region hT ?_)
          refine aw_cond (boolI (fun h3 => ?_) (fun h3 => ?_))
          · refine aw_seq (aw_region hT ?_)
            refine aw_ret ?_
            refine retPick [] ⟨?_, rfl⟩ rfl
            rw [gWhere, h1, h2, h3]; rfl
          · refine aw_seq (aw_region hT ?_)
            refine callP (af_at (geo_logged hB) _ rfl rfl) ?_
            refine aw_cond (boolI (fun h4 => ?_) (fun h4 => ?_))
            · have h4 : decide (a < logd g) = true := h4
              have ha : 4 ≤ a := by simpa using h3
              have hw1 := hB.w1
              have hw2 := hB.w2
              have hal : a < logd g := of_decide_eq_true h4
              have hld : logd g ≤ 1028 := by unfold logd; omega
              have hd := tdiv_bd (a := a - 4) (b := g.wal) (by omega) (by omega)
              have hm := tmod_bd (a := a - 4) (b := g.wal) (by omega) (by omega)
              refine aw_seq (aw_region hT ?_)
              refine aw_seq (aw_quiet hT follows_mixed (by rfl) ?_)
              refine chkI (b := decide (g.wal ≠ 0)) (decide_eq_true (by omega)) ?_
              refine chkI (b := decide (g.wal ≠ 0)) (decide_eq_true (by omega)) ?_
              refine aw_ret ?_
              refine retPick [] ⟨?_, rfl⟩ rfl
              show AV.tup [i64 (IntKind.i64.wrap (1 + (IntKind.i64.wrap (a - 4)).tmod g.wal)), i64 (IntKind.i64.wrap ((IntKind.i64.wrap (a - 4)).tdiv g.wal)), i64 0] = _
              rw [wrap64 (a - 4) (by omega) (by omega), wrap64 (1 + (a - 4).tmod g.wal) (by omega) (by omega), wrap64 ((a - 4).tdiv g.wal) (by omega) (by omega)]
              rw [gWhere, h1, h2, h3, h4]
            · exact aw_skip ⟨wk_pick [0] [1, 2] rfl, h1, h2, h3, h4⟩
  · obtain ⟨h1, h2, h3, h4⟩ := hC
    have hB := (gMay_iff.1 h1).1
    have hsec := (gMay_iff.1 h1).2
    have hwd := wid_bd hB
    have hw1 := hB.w1
    have hw2 := hB.w2
    have hal : logd g ≤ a := by simpa using h4
    have has : a < sec g := by
      rw [Bool.or_eq_false_iff, decide_eq_false_iff_not, decide_eq_false_iff_not] at h2; omega
    have hld : 20 ≤ logd g ∧ logd g ≤ 1028 := by unfold logd; omega
    have hd := tdiv_bd (a := a - logd g) (b := wid g) (by omega) (by omega)
    have hm := tmod_bd (a := a - logd g) (b := wid g) (by omega) (by omega)
    refine aw_seq (aw_region hT ?_)
    refine callP (af_at (geo_logged hB) _ rfl rfl) ?_
    refine aw_seq (aw_quiet hT follows_mixed (by rfl) ?_)
    refine ⟨_, af_at (geo_wide hB) _ rfl rfl, ?_⟩
    refine chkI (b := decide (wid g ≠ 0)) (decide_eq_true (by omega)) ?_
    refine ⟨_, af_at (geo_wide hB) _ rfl rfl, ?_⟩
    refine chkI (b := decide (wid g ≠ 0)) (decide_eq_true (by omega)) ?_
    refine aw_ret ?_
    refine retPick [] ⟨?_, rfl⟩ rfl
    show AV.tup [i64 (IntKind.i64.wrap (IntKind.i64.wrap (1 + g.wal) + IntKind.i64.wrap ((IntKind.i64.wrap (a - logd g)).tdiv (wid g)))), i64 ((IntKind.i64.wrap (a - logd g)).tmod (wid g)), i64 0] = _
    rw [wrap64 (a - logd g) (by omega) (by omega), wrap64 (1 + g.wal) (by omega) (by omega), wrap64 ((a - logd g).tdiv (wid g)) (by omega) (by omega), wrap64 (1 + g.wal + (a - logd g).tdiv (wid g)) (by omega) (by omega)]
    rw [gWhere, h1, h2, h3, h4]
end Go.Proofs.Ytdncagppilehgaa.AL
