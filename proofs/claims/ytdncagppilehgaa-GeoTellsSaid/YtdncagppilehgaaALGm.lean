/- The layer 08 (geo): each sector is in just one group, once: the plain law. -/
import Derived.Test.YtdncagppilehgaaALGe
namespace Go.Proofs.Ytdncagppilehgaa.AL
open Go Go.Proofs

theorem where_of_member {g : G} (hm : gMay g = true) {i : Int} (h : outG g i = false) {k : Nat} {a : Int} (hk : (members g i)[k]? = some a) : 0 ≤ a ∧ a < sec g ∧ gWhere g a = (i, (k : Int), 0) := by
  obtain ⟨_, h0, hlt⟩ := outG_may h
  have hB := (gMay_iff.1 hm).1
  have hw := wid_bd hB
  have hs := stw_bd hB
  have w1 := hB.w1
  have s1 := hB.s1
  have hsec : logd g ≤ sec g := by unfold sec; omega
  have hld : logd g = 4 + 2 * g.wal := rfl
  rw [members, h] at hk
  cases h2 : i == 0 with
  | true =>
    rw [h2] at hk
    have hi : i = 0 := by simpa using h2
    have hkl : k < 4 := by have := (List.getElem?_eq_some_iff.1 hk).1; simpa using this
    have ha : a = (k : Int) := by
      have : ((List.range 4).map fun k : Nat => (k : Int))[k]? = some a := hk
      rw [List.getElem?_map, List.getElem?_range hkl] at this
      exact (Option.some.inj this).symm
    refine ⟨by omega, by omega, ?_⟩
    rw [gWhere, hm]
    have e1 : (decide (a < 0) || decide (a ≥ sec g)) = false := by rw [Bool.or_eq_false_iff]; exact ⟨decide_eq_false (by omega), decide_eq_false (by omega)⟩
    rw [e1, decide_eq_true (show a < 4 by omega), hi, ha]
  | false =>
    rw [h2] at hk
    have hi0 : i ≠ 0 := by simpa using h2
    cases h3 : decide (i ≤ g.wal) with
    | true =>
      rw [h3] at hk
      have hiw : i ≤ g.wal := of_decide_eq_true h3
      have hkl : k < 2 := by have := (List.getElem?_eq_some_iff.1 hk).1; simpa using this
      have ha : a = 4 + (k : Int) * g.wal + i - 1 := by
        have : ((List.range 2).map fun k : Nat => 4 + (k : Int) * g.wal + i - 1)[k]? = some a := hk
        rw [List.getElem?_map, List.getElem?_range hkl] at this
        exact (Option.some.inj this).symm
      have hkw : 0 ≤ (k : Int) * g.wal ∧ (k : Int) * g.wal ≤ g.wal := by
        have : k = 0 ∨ k = 1 := by omega
        rcases this with rfl | rfl <;> simp <;> omega
      have hu := (Int.ediv_emod_unique (a := a - 4) (b := g.wal) (r := i - 1) (q := (k : Int)) (by omega)).2 ⟨by rw [Int.mul_comm]; omega, by omega, by omega⟩
      refine ⟨by omega, by omega, ?_⟩
      rw [gWhere, hm]
      have e1 : (decide (a < 0) || decide (a ≥ sec g)) = false := by rw [Bool.or_eq_false_iff]; exact ⟨decide_eq_false (by omega), decide_eq_false (by omega)⟩
      rw [e1, decide_eq_false (show ¬ a < 4 by omega), decide_eq_true (show a < logd g by omega), Int.tmod_eq_emod_of_nonneg (by omega), Int.tdiv_eq_ediv_of_nonneg (by omega), hu.1, hu.2]
      simp only [Prod.mk.injEq, and_true]; omega
    | false =>
      rw [h3] at hk
      have hiw : ¬ i ≤ g.wal := of_decide_eq_false h3
      have hkl : k < (wid g).toNat := by have := (List.getElem?_eq_some_iff.1 hk).1; simpa using this
      have ha : a = logd g + (i - 1 - g.wal) * wid g + (k : Int) := by
        have : ((List.range (wid g).toNat).map fun k : Nat => logd g + (i - 1 - g.wal) * wid g + (k : Int))[k]? = some a := hk
        rw [List.getElem?_map, List.getElem?_range hkl] at this
        exact (Option.some.inj this).symm
      have hq0 : 0 ≤ (i - 1 - g.wal) * wid g := Int.mul_nonneg (by omega) (by omega)
      have hq1 : (i - 1 - g.wal + 1) * wid g ≤ 2 * g.st * wid g := Int.mul_le_mul_of_nonneg_right (by unfold grp at hlt; omega) (by omega)
      rw [Int.add_mul, Int.one_mul] at hq1
      have hu := (Int.ediv_emod_unique (a := a - logd g) (b := wid g) (r := (k : Int)) (q := i - 1 - g.wal) (by omega)).2 ⟨by rw [Int.mul_comm]; omega, by omega, by omega⟩
      have hss : sec g = logd g + 2 * g.st * wid g := rfl
      refine ⟨by omega, by omega, ?_⟩
      rw [gWhere, hm]
      have e1 : (decide (a < 0) || decide (a ≥ sec g)) = false := by rw [Bool.or_eq_false_iff]; exact ⟨decide_eq_false (by omega), decide_eq_false (by omega)⟩
      rw [e1, decide_eq_false (show ¬ a < 4 by omega), decide_eq_false (show ¬ a < logd g by omega), show (a - logd g).tmod (wid g) = (a - logd g) % wid g from Int.tmod_eq_emod_of_nonneg (by omega), show (a - logd g).tdiv (wid g) = (a - logd g) / wid g from Int.tdiv_eq_ediv_of_nonneg (by omega), hu.1, hu.2]
      simp only [Prod.mk.injEq, and_true]; omega

theorem member_of_where {g : G} (hm : gMay g = true) {a : Int} (h0 : 0 ≤ a) (h1 : a < sec g) : ∃ (i : Int) (k : Nat), gWhere g a = (i, (k : Int), 0) ∧ outG g i = false ∧ (members g i)[k]? = some a := by
  have hB := (gMay_iff.1 hm).1
  have hw := wid_bd hB
  have hs := stw_bd hB
  have w1 := hB.w1
  have s1 := hB.s1
  have hld : logd g = 4 + 2 * g.wal := rfl
  have hss : sec g = logd g + 2 * g.st * wid g := rfl
  have hgr : grp g = 1 + g.wal + 2 * g.st := rfl
  have e1 : (decide (a < 0) || decide (a ≥ sec g)) = false := by rw [Bool.or_eq_false_iff]; exact ⟨decide_eq_false (by omega), decide_eq_false (by omega)⟩
  have hout : ∀ i : Int, 0 ≤ i → i < grp g → outG g i = false := fun i a b => by
    rw [outG, hm]
    show (decide (i < 0) || decide (i ≥ grp g)) = false
    rw [Bool.or_eq_false_iff]; exact ⟨decide_eq_false (by omega), decide_eq_false (by omega)⟩
  rw [gWhere, hm, e1]
  cases h2 : decide (a < 4) with
  | true =>
    have ha : a < 4 := of_decide_eq_true h2
    have ho := hout 0 (by omega) (by omega)
    refine ⟨0, a.toNat, ?_, ho, ?_⟩
    · rw [Int.toNat_of_nonneg h0]
    · rw [members, ho]
      show ((List.range 4).map fun k : Nat => (k : Int))[a.toNat]? = some a
      rw [List.getElem?_map, List.getElem?_range (by omega)]
      simp; omega
  | false =>
    have ha : ¬ a < 4 := of_decide_eq_false h2
    cases h3 : decide (a < logd g) with
    | true =>
      have hal : a < logd g := of_decide_eq_true h3
      obtain ⟨u1, u2, u3⟩ := (Int.ediv_emod_unique (a := a - 4) (b := g.wal) (r := (a - 4) % g.wal) (q := (a - 4) / g.wal) (by omega)).1 ⟨rfl, rfl⟩
      have hq0 : 0 ≤ (a - 4) / g.wal := Int.ediv_nonneg (by omega) (by omega)
      have hq2 : (a - 4) / g.wal < 2 := Int.ediv_lt_of_lt_mul (by omega) (by omega)
      rw [Int.tmod_eq_emod_of_nonneg (by omega), Int.tdiv_eq_ediv_of_nonneg (by omega)]
      generalize (a - 4) / g.wal = q at u1 hq0 hq2 ⊢
      generalize (a - 4) % g.wal = r at u1 u2 u3 ⊢
      have ho := hout (1 + r) (by omega) (by omega)
      refine ⟨1 + r, q.toNat, ?_, ho, ?_⟩
      · rw [Int.toNat_of_nonneg hq0]
      · have hne : ((1 + r : Int) == 0) = false := by simp; omega
        rw [members, ho, hne, decide_eq_true (show 1 + r ≤ g.wal by omega)]
        show ((List.range 2).map fun k : Nat => 4 + (k : Int) * g.wal + (1 + r) - 1)[q.toNat]? = some a
        rw [List.getElem?_map, List.getElem?_range (by omega)]
        simp only [Option.map_some, Option.some.injEq]
        rw [Int.toNat_of_nonneg hq0, Int.mul_comm]; omega
    | false =>
      have hal : ¬ a < logd g := of_decide_eq_false h3
      obtain ⟨u1, u2, u3⟩ := (Int.ediv_emod_unique (a := a - logd g) (b := wid g) (r := (a - logd g) % wid g) (q := (a - logd g) / wid g) (by omega)).1 ⟨rfl, rfl⟩
      have hq0 : 0 ≤ (a - logd g) / wid g := Int.ediv_nonneg (by omega) (by omega)
      have hq2 : (a - logd g) / wid g < 2 * g.st := Int.ediv_lt_of_lt_mul (by omega) (by omega)
      rw [show (a - logd g).tmod (wid g) = (a - logd g) % wid g from Int.tmod_eq_emod_of_nonneg (by omega), show (a - logd g).tdiv (wid g) = (a - logd g) / wid g from Int.tdiv_eq_ediv_of_nonneg (by omega)]
      generalize (a - logd g) / wid g = q at u1 hq0 hq2 ⊢
      generalize (a - logd g) % wid g = r at u1 u2 u3 ⊢
      have ho := hout (1 + g.wal + q) (by omega) (by omega)
      refine ⟨1 + g.wal + q, r.toNat, ?_, ho, ?_⟩
      · rw [Int.toNat_of_nonneg u2]
      · have hne : ((1 + g.wal + q : Int) == 0) = false := by simp; omega
        rw [members, ho, hne, decide_eq_false (show ¬ 1 + g.wal + q ≤ g.wal by omega)]
        show ((List.range (wid g).toNat).map fun k : Nat => logd g + (1 + g.wal + q - 1 - g.wal) * wid g + (k : Int))[r.toNat]? = some a
        rw [List.getElem?_map, List.getElem?_range (by omega)]
        simp only [Option.map_some, Option.some.injEq]
        rw [Int.toNat_of_nonneg u2, show 1 + g.wal + q - 1 - g.wal = q by omega, Int.mul_comm]; omega
end Go.Proofs.Ytdncagppilehgaa.AL
