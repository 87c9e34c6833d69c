/- The layer 08 (geo), the document's answer: the group of each sector. -/
import Derived.Test.YtdncagppilehgaaALGq
namespace Go.Proofs.Ytdncagppilehgaa.AL
open Go Go.Proofs

def owner (g : G) (a : Nat) : Int := (gWhere g (a : Int)).1
def ownL (g : G) (n : Nat) : List Int := (List.range n).map (owner g)
theorem ownL_succ (g : G) (n : Nat) : ownL g (n + 1) = ownL g n ++ [owner g n] := by rw [ownL, ownL, List.range_succ, List.map_append]; rfl
theorem ownL_len (g : G) (n : Nat) : (ownL g n).length = n := by simp [ownL]

structure GN (g : G) (W S D : Nat) : Prop where
  w : (W : Int) = g.wal
  s : (S : Int) = g.st
  d : (D : Int) = wid g
  tot : ((4 + 2 * W + 2 * S * D : Nat) : Int) = sec g

theorem gn_of {g : G} (h : GB g) : GN g g.wal.toNat g.st.toNat (wid g).toNat := by
  have hw := wid_bd h
  have e1 : (g.wal.toNat : Int) = g.wal := Int.toNat_of_nonneg (by have := h.w1; omega)
  have e2 : (g.st.toNat : Int) = g.st := Int.toNat_of_nonneg (by have := h.s1; omega)
  have e3 : ((wid g).toNat : Int) = wid g := Int.toNat_of_nonneg (by omega)
  refine ⟨e1, e2, e3, ?_⟩
  rw [Int.natCast_add, Int.natCast_add, Int.natCast_mul, Int.natCast_mul, Int.natCast_mul, e1, e2, e3]; rfl

theorem out_in {g : G} (hm : gMay g = true) {i : Int} (h0 : 0 ≤ i) (h1 : i < grp g) : outG g i = false := by
  rw [outG, hm]
  show (decide (i < 0) || decide (i ≥ grp g)) = false
  rw [Bool.or_eq_false_iff]; exact ⟨decide_eq_false (by omega), decide_eq_false (by omega)⟩

theorem own_zero {g : G} (hm : gMay g = true) {a : Nat} (h : a < 4) : owner g a = 0 := by
  have hB := (gMay_iff.1 hm).1
  have ho := out_in hm (i := 0) (by omega) (by have := hB.w1; have := hB.s1; unfold grp; omega)
  have hk : (members g 0)[a]? = some (a : Int) := by
    rw [members, ho]
    show ((List.range 4).map fun k : Nat => (k : Int))[a]? = some (a : Int)
    rw [List.getElem?_map, List.getElem?_range h]; rfl
  rw [owner, (where_of_member hm ho hk).2.2]

theorem own_log {g : G} (hm : gMay g = true) {W S D : Nat} (h : GN g W S D) {m s : Nat} (h1 : m < 2) (h2 : s < W) : owner g (4 + m * W + s) = 1 + (s : Int) := by
  have hB := (gMay_iff.1 hm).1
  have hw := h.w
  have ho := out_in hm (i := 1 + (s : Int)) (by omega) (by have := hB.s1; unfold grp; omega)
  have hne : ((1 + (s : Int)) == 0) = false := by simp; omega
  have hk : (members g (1 + (s : Int)))[m]? = some ((4 + m * W + s : Nat) : Int) := by
    rw [members, ho, hne, decide_eq_true (show 1 + (s : Int) ≤ g.wal by omega)]
    show ((List.range 2).map fun k : Nat => 4 + (k : Int) * g.wal + (1 + (s : Int)) - 1)[m]? = _
    rw [List.getElem?_map, List.getElem?_range h1]
    simp only [Option.map_some, Option.some.injEq]
    rw [← hw, Int.natCast_add, Int.natCast_add, Int.natCast_mul]; omega
  rw [owner, (where_of_member hm ho hk).2.2]

theorem own_str {g : G} (hm : gMay g = true) {W S D : Nat} (h : GN g W S D) {t k : Nat} (h1 : t < 2 * S) (h2 : k < D) : owner g (4 + 2 * W + t * D + k) = 1 + g.wal + (t : Int) := by
  have hB := (gMay_iff.1 hm).1
  have hw := h.w
  have hs := h.s
  have hd := h.d
  have w1 := hB.w1
  have ho := out_in hm (i := 1 + g.wal + (t : Int)) (by omega) (by unfold grp; omega)
  have hne : ((1 + g.wal + (t : Int)) == 0) = false := by simp; omega
  have hk : (members g (1 + g.wal + (t : Int)))[k]? = some ((4 + 2 * W + t * D + k : Nat) : Int) := by
    rw [members, ho, hne, decide_eq_false (show ¬ 1 + g.wal + (t : Int) ≤ g.wal by omega)]
    show ((List.range (wid g).toNat).map fun k : Nat => logd g + (1 + g.wal + (t : Int) - 1 - g.wal) * wid g + (k : Int))[k]? = _
    rw [List.getElem?_map, List.getElem?_range (by omega)]
    simp only [Option.map_some, Option.some.injEq]
    rw [show 1 + g.wal + (t : Int) - 1 - g.wal = (t : Int) by omega, ← hd, Int.natCast_add, Int.natCast_add, Int.natCast_mul]
    unfold logd; rw [← hw]; omega
  rw [owner, (where_of_member hm ho hk).2.2]

def owners (g : G) : List Int := match gMay g with
  | true => ownL g (sec g).toNat
  | false => []

set_option maxRecDepth 4000 in
theorem ref_owners (g : G) : AF Try.prog 30 [g.av] [] (Pure (.msl 0 1 0 (owners g).length) [.row 3 1 ((owners g).map ip)]) := by
  refine af_body hT Try.func30 rfl rfl Try.ntmps30 rfl ?_
  refine aw_seq (aw_region hT ?_)
  refine aw_seq (aw_region hT ?_)
  refine callP (af_at (ref_gMay g) _ rfl rfl) ?_
  refine aw_seq (aw_seq (aw_region hT ?_))
  refine aw_cond (boolI (fun h1 => ?_) (fun h1 => ?_))
  · have hm : gMay g = false := by
      have h1 : (!gMay g) = true := h1
      simpa using h1
    refine aw_seq (aw_region hT ?_)
    refine aw_ret ?_
    refine retNil 3 1 ?_
    rw [owners, hm]; exact ⟨rfl, rfl⟩
  have hm : gMay g = true := by
    have h1 : (!gMay g) = false := h1
    simpa using h1
  have hB := (gMay_iff.1 hm).1
  have hwd := wid_bd hB
  have gn := gn_of hB
  generalize g.wal.toNat = W at gn
  generalize g.st.toNat = S at gn
  generalize (wid g).toNat = D at gn
  have l0 : [ip 0, ip 0, ip 0, ip 0] = (ownL g 4).map ip := by
    have e : ∀ a, a < 4 → owner g a = 0 := fun a h => own_zero hm h
    show _ = [ip (owner g 0), ip (owner g 1), ip (owner g 2), ip (owner g 3)]
    rw [e 0 (by omega), e 1 (by omega), e 2 (by omega), e 3 (by omega)]
  have o1 := fun m s h1 h2 => own_log hm gn (m := m) (s := s) h1 h2
  have o2 := fun t k h1 h2 => own_str hm gn (t := t) (k := k) h1 h2
  obtain ⟨gw, gs, gd, gt⟩ := gn
  have hown : owners g = ownL g (4 + 2 * W + 2 * S * D) := by rw [owners, hm, ← gt]; rfl
  have b1 := hB.w1; have b2 := hB.w2; have b3 := hB.s1; have b4 := hB.s2
  have hk1 := hB.k1; have hk2 := hB.k2; have hm1 := hB.m1; have hm2 := hB.m2
  have hwidth : wid g = g.k + g.m := rfl
  have hSD : 2 * S * D ≤ 64 * 24 := Nat.mul_le_mul (by omega) (by omega)
  refine aw_skip ?_
  refine aw_seq (aw_region hT ?_)
  refine aw_cut ⟨⟨54, [(1, .ref 0 0), (4, .msl 1 1 0 (4 + 2 * W))]⟩, [.cells 38 [i64 g.wal, i64 g.st, i64 g.k, i64 g.m], .row 3 1 ((ownL g (4 + 2 * W)).map ip)]⟩ True (aw_seq (aw_region hT ?_)) (fun _ => ?_)
  · refine aw_block ?_
    refine aw_loopW (fun n s => ∃ (i : Nat) (j : Int) (c : Nat) (xs : List (List PV)), n + i = 2 ∧ j = i ∧ c = 4 + i * W ∧ xs = (ownL g (4 + i * W)).map ip ∧ s = ⟨⟨54, [(1, .ref 0 0), (4, .msl 1 1 0 c), (5, i64 j)]⟩, [.cells 38 [i64 g.wal, i64 g.st, i64 g.k, i64 g.m], .row 3 1 xs]⟩) 2 ⟨⟨54, _⟩, [_, _]⟩ (wk_pick [0, 1] [1, 4, 5] rfl) ⟨0, _, _, _, rfl, rfl, by simp, by rw [Nat.zero_mul]; exact l0, rfl⟩ ?_
    rintro n s ⟨i, j, c, xs, hn, rfl, hc, hxs, rfl⟩
    refine aw_seq (aw_seq (aw_region hT ?_))
    refine aw_cond (boolI (fun h2 => ?_) (fun h2 => ?_))
    · have hi : i < 2 := by
        have := of_decide_eq_true (show decide ((i : Int) < 2) = true from h2)
        omega
      refine aw_skip ?_
      refine aw_seq (aw_block (aw_seq (aw_region hT ?_)))
      refine aw_block ?_
      refine aw_loopW (fun n s => ∃ (k : Nat) (q : Int) (c : Nat) (xs : List (List PV)), n + k = W ∧ q = k ∧ c = 4 + i * W + k ∧ xs = (ownL g (4 + i * W + k)).map ip ∧ s = ⟨⟨54, [(1, .ref 0 0), (4, .msl 1 1 0 c), (5, i64 i), (6, i64 q)]⟩, [.cells 38 [i64 g.wal, i64 g.st, i64 g.k, i64 g.m], .row 3 1 xs]⟩) W ⟨⟨54, _⟩, [_, _]⟩ (wk_pick [0, 1] [1, 4, 5, 6] rfl) ⟨0, _, _, _, by omega, rfl, by simpa using hc, by simpa using hxs, rfl⟩ ?_
      rintro n2 s2 ⟨k, q, c2, ys, hn2, rfl, hc2, hys, rfl⟩
      have hil : ys.length = c2 := by rw [hys, List.length_map, ownL_len, hc2]
      have hiW : i * W ≤ W := by
        have : i = 0 ∨ i = 1 := by omega
        rcases this with rfl | rfl <;> omega
      refine aw_seq (aw_seq (aw_region hT ?_))
      refine aw_cond (boolI (fun h3 => ?_) (fun h3 => ?_))
      · have hk : k < W := by
          have := of_decide_eq_true (show decide ((k : Int) < g.wal) = true from h3)
          omega
        refine aw_skip ?_
        refine aw_seq (aw_block (aw_region hT ?_))
        refine ⟨hil, ⟨(show (ys.length + 1) * 8 ≤ 140737488355328 by omega), (show ys.length + 1 ≤ 140737488355328 by omega)⟩, ?_⟩
        refine aw_region hT ?_
        refine ⟨W - (k + 1), by omega, _, wk_pick [0, 3] [1, 4, 5, 6] rfl, k + 1, _, _, _, by omega, ?_, ?_, ?_, rfl⟩
        · rw [wrap64 _ (by omega) (by omega)]; rfl
        · show (ys ++ [ip (IntKind.i64.wrap (1 + (k : Int)))]).length = _
          rw [List.length_append, hil, hc2]; rfl
        · show ys ++ [[.raw (.int .i64 (IntKind.i64.wrap (1 + (k : Int))))]] = _
          rw [← Nat.add_assoc, ownL_succ, List.map_append, ← hys, o1 i k hi hk, wrap64 _ (by omega) (by omega)]; rfl
      · refine aw_exit ?_
        refine aw_region hT ?_
        have hk : k = W := by
          have := of_decide_eq_false (show decide ((k : Int) < g.wal) = false from h3)
          omega
        refine ⟨2 - (i + 1), by omega, _, wk_pick [0, 1] [1, 4, 5] rfl, i + 1, _, _, _, by omega, ?_, ?_, ?_, rfl⟩
        · rw [wrap64 _ (by omega) (by omega)]; rfl
        · rw [hc2, hk, Nat.succ_mul]; omega
        · rw [hys, hk, Nat.succ_mul, Nat.add_assoc]
    · refine aw_exit ?_
      have hi : i = 2 := by
        have := of_decide_eq_false (show decide ((i : Int) < 2) = false from h2)
        omega
      subst hi
      rw [← hxs, ← hc]
      exact ⟨wk_pick [0, 1] [1, 4] rfl, trivial⟩
  · refine aw_cut ⟨⟨54, [(4, .msl 0 1 0 (4 + 2 * W + 2 * S * D))]⟩, [.row 3 1 ((ownL g (4 + 2 * W + 2 * S * D)).map ip)]⟩ True (aw_seq (aw_region hT ?_)) (fun _ => ?_)
    · refine aw_block ?_
      refine aw_loopW (fun n s => ∃ (i : Nat) (j : Int) (c : Nat) (xs : List (List PV)), n + i = 2 * S ∧ j = i ∧ c = 4 + 2 * W + i * D ∧ xs = (ownL g (4 + 2 * W + i * D)).map ip ∧ s = ⟨⟨54, [(1, .ref 0 0), (4, .msl 1 1 0 c), (7, i64 j)]⟩, [.cells 38 [i64 g.wal, i64 g.st, i64 g.k, i64 g.m], .row 3 1 xs]⟩) (2 * S) ⟨⟨54, _⟩, [_, _]⟩ (wk_pick [0, 1] [1, 4, 7] rfl) ⟨0, _, _, _, by omega, rfl, by simp, by rw [Nat.zero_mul]; rfl, rfl⟩ ?_
      rintro n s ⟨i, j, c, xs, hn, rfl, hc, hxs, rfl⟩
      refine aw_seq (aw_seq (aw_region hT ?_))
      refine aw_cond (boolI (fun h2 => ?_) (fun h2 => ?_))
      · have hi : i < 2 * S := by
          have := of_decide_eq_true (show decide ((i : Int) < IntKind.i64.wrap (2 * g.st)) = true from h2)
          rw [wrap64 _ (by omega) (by omega)] at this
          omega
        have hiD : i * D + D ≤ 2 * S * D := by rw [← Nat.succ_mul]; exact Nat.mul_le_mul_right _ hi
        refine aw_skip ?_
        refine aw_seq (aw_block (aw_seq (aw_region hT ?_)))
        refine aw_block ?_
        refine aw_loopW (fun n s => ∃ (k : Nat) (q : Int) (c : Nat) (xs : List (List PV)), n + k = D ∧ q = k ∧ c = 4 + 2 * W + i * D + k ∧ xs = (ownL g (4 + 2 * W + i * D + k)).map ip ∧ s = ⟨⟨54, [(1, .ref 0 0), (4, .msl 1 1 0 c), (7, i64 i), (8, i64 q)]⟩, [.cells 38 [i64 g.wal, i64 g.st, i64 g.k, i64 g.m], .row 3 1 xs]⟩) D ⟨⟨54, _⟩, [_, _]⟩ (wk_pick [0, 1] [1, 4, 7, 8] rfl) ⟨0, _, _, _, by omega, rfl, by simpa using hc, by simpa using hxs, rfl⟩ ?_
        rintro n2 s2 ⟨k, q, c2, ys, hn2, rfl, hc2, hys, rfl⟩
        have hil : ys.length = c2 := by rw [hys, List.length_map, ownL_len, hc2]
        refine aw_seq (aw_seq (aw_region hT ?_))
        refine aw_cond (boolI (fun h3 => ?_) (fun h3 => ?_))
        · have hk : k < D := by
            have := of_decide_eq_true (show decide ((k : Int) < IntKind.i64.wrap (g.k + g.m)) = true from h3)
            rw [wrap64 _ (by omega) (by omega)] at this
            omega
          refine aw_skip ?_
          refine aw_seq (aw_block (aw_region hT ?_))
          refine ⟨hil, ⟨(show (ys.length + 1) * 8 ≤ 140737488355328 by omega), (show ys.length + 1 ≤ 140737488355328 by omega)⟩, ?_⟩
          refine aw_region hT ?_
          refine ⟨D - (k + 1), by omega, _, wk_pick [0, 3] [1, 4, 7, 8] rfl, k + 1, _, _, _, by omega, ?_, ?_, ?_, rfl⟩
          · rw [wrap64 _ (by omega) (by omega)]; rfl
          · show (ys ++ [ip (IntKind.i64.wrap (IntKind.i64.wrap (1 + g.wal) + (i : Int)))]).length = _
            rw [List.length_append, hil, hc2]; rfl
          · show ys ++ [[.raw (.int .i64 (IntKind.i64.wrap (IntKind.i64.wrap (1 + g.wal) + (i : Int))))]] = _
            rw [← Nat.add_assoc, ownL_succ, List.map_append, ← hys, o2 i k hi hk, wrap64 (1 + g.wal) (by omega) (by omega), wrap64 _ (by omega) (by omega)]; rfl
        · refine aw_exit ?_
          refine aw_region hT ?_
          have hk : k = D := by
            have := of_decide_eq_false (show decide ((k : Int) < IntKind.i64.wrap (g.k + g.m)) = false from h3)
            rw [wrap64 _ (by omega) (by omega)] at this
            omega
          refine ⟨2 * S - (i + 1), by omega, _, wk_pick [0, 1] [1, 4, 7] rfl, i + 1, _, _, _, by omega, ?_, ?_, ?_, rfl⟩
          · rw [wrap64 _ (by omega) (by omega)]; rfl
          · rw [hc2, hk, show (i + 1) * D = i * D + D from Nat.succ_mul i D]; omega
          · rw [hys, hk, show (i + 1) * D = i * D + D from Nat.succ_mul i D, Nat.add_assoc]
      · refine aw_exit ?_
        have hi : i = 2 * S := by
          have := of_decide_eq_false (show decide ((i : Int) < IntKind.i64.wrap (2 * g.st)) = false from h2)
          rw [wrap64 _ (by omega) (by omega)] at this
          omega
        subst hi
        rw [← hxs, ← hc]
        exact ⟨wk_pick [1] [4] rfl, trivial⟩
    · refine aw_seq (aw_region hT ?_)
      refine aw_ret ?_
      refine retPick [0] ⟨?_, ?_⟩ rfl
      · rw [hown, ownL_len]; rfl
      · rw [hown]; rfl
end Go.Proofs.Ytdncagppilehgaa.AL
