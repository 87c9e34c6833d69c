/- The layer 08 (geo), a group's members. -/
import Derived.Test.YtdncagppilehgaaALGb
namespace Go.Proofs.Ytdncagppilehgaa.AL
open Go Go.Proofs

def outG (g : G) (i : Int) : Bool := decide (i < 0) || decide (i ≥ orZ (gMay g) (grp g))
def members (g : G) (i : Int) : List Int := match outG g i with
  | true => []
  | false => match i == 0 with
    | true => (List.range 4).map fun k : Nat => (k : Int)
    | false => match decide (i ≤ g.wal) with
      | true => (List.range 2).map fun k : Nat => 4 + (k : Int) * g.wal + i - 1
      | false => (List.range (wid g).toNat).map fun k : Nat => logd g + (i - 1 - g.wal) * wid g + (k : Int)

theorem outG_may {g : G} {i : Int} (h : outG g i = false) : gMay g = true ∧ 0 ≤ i ∧ i < grp g := by
  simp only [outG, Bool.or_eq_false_iff, decide_eq_false_iff_not] at h
  cases hm : gMay g with
  | true => rw [hm] at h; simp only [orZ] at h; exact ⟨rfl, by omega, by omega⟩
  | false => rw [hm] at h; simp only [orZ] at h; omega

theorem geo_m1 (k : Int) : AF Try.prog 45 [i64 k] [] (Pure (i64 k) []) := by
  refine af_body hT Try.func45 rfl rfl Try.ntmps45 rfl ?_
  refine aw_seq (aw_region hT ?_)
  refine aw_seq (aw_region hT ?_)
  refine aw_ret ?_
  exact retPick [] ⟨rfl, rfl⟩ rfl

theorem geo_m2 {g : G} (h : GB g) (i : Int) (h0 : 0 ≤ i) (h1 : i ≤ g.wal) (k : Nat) (hk : k < 2) : AF Try.prog 46 [i64 (k : Nat), .p (.box [.raw (.int .i64 g.wal), .raw (.int .i64 g.st), .raw (.int .i64 g.k), .raw (.int .i64 g.m)]), .p (.box [.raw (.int .i64 i)])] [] (Pure (i64 (4 + (k : Int) * g.wal + i - 1)) []) := by
  obtain ⟨w1, w2, s1, s2, k1, k2, m1, m2⟩ := h
  have hb := prod_bd (a := (k : Int)) (b := g.wal) (x := 1) (by omega) (by omega) (by omega) w2
  refine af_body hT Try.func46 rfl rfl Try.ntmps46 rfl ?_
  refine aw_seq (aw_region hT ?_)
  refine aw_seq (aw_region hT ?_)
  refine aw_ret ?_
  refine retPick [] ⟨?_, rfl⟩ rfl
  show i64 (IntKind.i64.wrap (IntKind.i64.wrap (IntKind.i64.wrap (4 + IntKind.i64.wrap ((k : Int) * g.wal)) + i) - 1)) = _
  rw [wrap64 ((k : Int) * g.wal) (by omega) (by omega), wrap64 (4 + (k : Int) * g.wal) (by omega) (by omega), wrap64 (4 + (k : Int) * g.wal + i) (by omega) (by omega), wrap64 _ (by omega) (by omega)]

theorem geo_m3 (f k : Int) (h : -1000000 ≤ f + k ∧ f + k ≤ 1000000) : AF Try.prog 49 [i64 k, .p (.box [.raw (.int .i64 f)])] [] (Pure (i64 (f + k)) []) := by
  refine af_body hT Try.func49 rfl rfl Try.ntmps49 rfl ?_
  refine aw_seq (aw_region hT ?_)
  refine aw_seq (aw_region hT ?_)
  refine aw_ret ?_
  refine retPick [] ⟨?_, rfl⟩ rfl
  show i64 (IntKind.i64.wrap (f + k)) = _
  rw [wrap64 _ (by omega) (by omega)]

theorem first_bd {g : G} (h : GB g) {i : Int} (h0 : g.wal < i) (h1 : i < grp g) : 0 ≤ (i - 1 - g.wal) * wid g ∧ (i - 1 - g.wal) * wid g ≤ 64 * 24 := by
  have hw := wid_bd h
  obtain ⟨w1, w2, s1, s2, k1, k2, m1, m2⟩ := h
  unfold grp at h1
  exact prod_bd (by omega) (by omega) (by omega) hw.2

theorem geo_membersN (g : G) (i : Int) : AF Try.prog 24 [g.av, i64 i] [] (Pure (.msl 0 1 0 (members g i).length) [.row 3 1 ((members g i).map ip)]) := by
  refine af_body hT Try.func24 rfl rfl Try.ntmps24 rfl ?_
  refine aw_seq (aw_region hT ?_)
  refine aw_cut ⟨⟨41, [(2, .ref 0 0), (3, .ref 1 0)]⟩, [.cells 38 [i64 g.wal, i64 g.st, i64 g.k, i64 g.m], .cells 3 [i64 i]]⟩ (outG g i = false ∧ (i == 0) = false ∧ decide (i ≤ g.wal) = false) (aw_block ?_) (fun hC => ?_)
  · refine aw_cut ⟨⟨41, [(2, .ref 0 0), (3, .ref 1 0), (6, bl (outG g i))]⟩, [.cells 38 [i64 g.wal, i64 g.st, i64 g.k, i64 g.m], .cells 3 [i64 i]]⟩ True (aw_quiet hT follows_mixed (by rfl) ?_) (fun _ => ?_)
    · refine boolI (fun h1 => ?_) (fun h1 => ?_)
      · have e : outG g i = true := by rw [outG, h1]; rfl
        rw [e]
        exact ⟨wk_pick [0, 1] [2, 3, 6] rfl, trivial⟩
      · refine ⟨_, af_at (geo_Groups g) _ rfl rfl, ?_⟩
        have e : outG g i = decide (i ≥ orZ (gMay g) (grp g)) := by rw [outG, h1]; rfl
        rw [e]
        exact ⟨wk_pick [0, 1] [2, 3, 6] rfl, trivial⟩
    · refine aw_cond (boolI (fun h1 => ?_) (fun h1 => ?_))
      · refine aw_seq (aw_region hT ?_)
        refine aw_ret ?_
        refine retNil 3 1 ?_
        rw [members, h1]; exact ⟨rfl, rfl⟩
      · obtain ⟨hm, h0, hlt⟩ := outG_may h1
        have hB := (gMay_iff.1 hm).1
        refine aw_seq (aw_region hT ?_)
        refine aw_cond (boolI (fun h2 => ?_) (fun h2 => ?_))
        · refine aw_seq (aw_region hT ?_)
          have c4 : AF Try.prog 44 [i64 4, .clo (.func 45) []] [] (Pure (.msl 0 1 0 4) [.row 3 1 (((List.range 4).map fun k : Nat => (k : Int)).map ip)]) := geo_row0 4 (by omega) 45 (fun k => (k : Int)) (fun k _ => geo_m1 _)
          refine callP (af_lift c4 _ rfl) ?_
          refine aw_ret ?_
          refine retPick [2] ⟨?_, ?_⟩ rfl
          · rw [members, h1, h2]; rfl
          · rw [members, h1, h2]; rfl
        · refine aw_seq (aw_region hT ?_)
          refine aw_cond (boolI (fun h3 => ?_) (fun h3 => ?_))
          · have h3 : decide (i ≤ g.wal) = true := h3
            refine aw_wk (Wk.trans (wk_boxL 0 [.raw (.int .i64 g.wal), .raw (.int .i64 g.st), .raw (.int .i64 g.k), .raw (.int .i64 g.m)] rfl rfl) (wk_boxL 1 [.raw (.int .i64 i)] rfl rfl)) ?_
            refine aw_seq (aw_region hT ?_)
            have c2 : AF Try.prog 44 [i64 2, .clo (.func 46) [.p (.box [.raw (.int .i64 g.wal), .raw (.int .i64 g.st), .raw (.int .i64 g.k), .raw (.int .i64 g.m)]), .p (.box [.raw (.int .i64 i)])]] [] (Pure (.msl 0 1 0 2) [.row 3 1 (((List.range 2).map fun k : Nat => 4 + (k : Int) * g.wal + i - 1).map ip)]) :=
              geo_row2 2 (by omega) 46 _ _ (fun k => 4 + (k : Int) * g.wal + i - 1) (fun k hk => geo_m2 hB i h0 (of_decide_eq_true h3) k hk)
            refine callP (af_lift c2 _ rfl) ?_
            refine aw_ret ?_
            refine retPick [2] ⟨?_, ?_⟩ rfl
            · rw [members, h1, h2, h3]; rfl
            · rw [members, h1, h2, h3]; rfl
          · refine aw_skip ⟨wk_pick [0, 1] [2, 3] rfl, h1, h2, h3⟩
  · obtain ⟨h1, h2, h3⟩ := hC
    obtain ⟨hm, h0, hlt⟩ := outG_may h1
    have hB := (gMay_iff.1 hm).1
    have hwd := wid_bd hB
    have hlt2 : g.wal < i := by simpa using h3
    have hf := first_bd hB hlt2 hlt
    have hld : 20 ≤ logd g ∧ logd g ≤ 1028 := by have := hB.w1; have := hB.w2; unfold logd; omega
    have hgl : grp g ≤ 1 + 512 + 64 := by have := hB.w2; have := hB.s2; unfold grp; omega
    refine aw_seq ?_
    refine aw_drawB hT follows_mixed (F0 := ⟨41, ?l⟩) (HE := ?he) 11 (by rfl) (by rfl) rfl rfl rfl rfl rfl rfl rfl rfl (fun E => ?_) ?_ ?_
    rotate_left 2
    · refine ⟨_, af_at (geo_logged hB) _ rfl rfl, ?_⟩
      refine ⟨_, af_at (geo_wide hB) _ rfl rfl, ?_⟩
      rfl
    · rfl
    · have hv : IntKind.i64.wrap (logd g + IntKind.i64.wrap (IntKind.i64.wrap (IntKind.i64.wrap (i - 1) - g.wal) * wid g)) = logd g + (i - 1 - g.wal) * wid g := by
        have := hB.w1
        have := hB.w2
        rw [wrap64 (i - 1) (by omega) (by omega), wrap64 (i - 1 - g.wal) (by omega) (by omega), wrap64 ((i - 1 - g.wal) * wid g) (by omega) (by omega), wrap64 _ (by omega) (by omega)]
      refine aw_wk (wk_boxL 2 [.raw (.int .i64 (IntKind.i64.wrap (logd g + IntKind.i64.wrap (IntKind.i64.wrap (IntKind.i64.wrap (i - 1) - g.wal) * wid g))))] rfl rfl) ?_
      rw [hv]
      refine aw_seq (aw_region hT ?_)
      refine callP (af_at (geo_wide hB) _ rfl rfl) ?_
      have hn : ((wid g).toNat : Int) = wid g := Int.toNat_of_nonneg (by omega)
      have c3 : AF Try.prog 44 [i64 (wid g), .clo (.func 49) [.p (.box [.raw (.int .i64 (logd g + (i - 1 - g.wal) * wid g))])]] [] (Pure (.msl 0 1 0 (wid g).toNat) [.row 3 1 (((List.range (wid g).toNat).map fun k : Nat => logd g + (i - 1 - g.wal) * wid g + (k : Int)).map ip)]) := by
        have := geo_row1 (wid g).toNat (by omega) 49 (.box [.raw (.int .i64 (logd g + (i - 1 - g.wal) * wid g))]) (fun k => logd g + (i - 1 - g.wal) * wid g + (k : Int)) (fun k hk => geo_m3 _ _ (by omega))
        rw [hn] at this
        exact this
      refine callP (af_lift c3 _ rfl) ?_
      refine aw_ret ?_
      refine retPick [3] ⟨?_, ?_⟩ rfl
      · rw [members, h1, h2, h3]; simp [AV.ren, inv]
      · rw [members, h1, h2, h3]; rfl

theorem geo_members (g : G) (i : Int) : AF Try.prog 24 [g.av, i64 i] [] (Pure (ints (members g i)) []) := af_frz (geo_membersN g i) (by simp)
end Go.Proofs.Ytdncagppilehgaa.AL
