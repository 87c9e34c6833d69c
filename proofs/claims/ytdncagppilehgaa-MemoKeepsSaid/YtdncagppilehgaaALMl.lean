/- The layer 20 (memo), what is put is found: the plain facts, and the walk. -/
import Derived.Test.YtdncagppilehgaaALMh
namespace Go.Proofs.Ytdncagppilehgaa.AL
open Go Go.Proofs

theorem put_err {l : List M} {x : M} (h : (put l x).2 ≠ 0) : (put l x).1 = [] := by
  unfold put at h ⊢
  cases hb : bad l x with
  | true => rfl
  | false =>
    rw [hb] at h
    simp only at h ⊢
    cases h1 : decide (0 < (ofId (fresh l x.tm) x.id).length) with
    | true => rfl
    | false =>
      rw [h1] at h
      simp only at h ⊢
      cases h2 : decide ((fresh l x.tm).length = 16) with
      | true => rfl
      | false => rw [h2] at h; simp at h

theorem put_ok {l : List M} {x : M} (h : (put l x).2 = 0) : may l = true ∧ one x = true ∧ (0 < l.length → lastTm l ≤ x.tm) ∧ (∀ y ∈ fresh l x.tm, y.id ≠ x.id) ∧ (fresh l x.tm).length ≠ 16 ∧ (put l x).1 = fresh l x.tm ++ [x] := by
  unfold put at h ⊢
  cases hb : bad l x with
  | true => rw [hb] at h; simp at h
  | false =>
    rw [hb] at h
    simp only at h ⊢
    cases h1 : decide (0 < (ofId (fresh l x.tm) x.id).length) with
    | true => rw [h1] at h; simp at h
    | false =>
      rw [h1] at h
      simp only at h ⊢
      cases h2 : decide ((fresh l x.tm).length = 16) with
      | true => rw [h2] at h; simp at h
      | false =>
        simp only [bad, Bool.or_eq_false_iff, Bool.not_eq_false', Bool.and_eq_false_iff, decide_eq_false_iff_not] at hb
        obtain ⟨⟨b1, b2⟩, b3⟩ := hb
        refine ⟨b1, b2, fun hl => by omega, ?_, by simpa using h2, rfl⟩
        exact ofId_none.1 (by simpa using h1)

theorem tm_le_last {l : List M} (h : may l = true) {y : M} (hy : y ∈ l) : y.tm ≤ lastTm l := by
  obtain ⟨i, hi⟩ := List.getElem?_of_mem hy
  have hlt := (List.getElem?_eq_some_iff.1 hi).1
  have hz := List.getElem?_eq_getElem (l := l) (i := l.length - 1) (by omega)
  generalize l[l.length - 1] = z at hz
  have e : lastTm l = z.tm := by rw [lastTm, hz]; rfl
  rw [e]
  rcases Nat.lt_or_ge i (l.length - 1) with h1 | h1
  · exact (((may_iff l).1 h).2.1 i _ y z hi hz h1).2
  · have : i = l.length - 1 := by omega
    rw [this, hz] at hi
    obtain rfl := Option.some.inj hi
    exact Int.le_refl _

theorem may_append {l : List M} {x : M} (h : MayP l) (h1 : one x = true) (h2 : ∀ y ∈ l, y.id ≠ x.id ∧ y.tm ≤ x.tm) (h3 : l.length ≤ 15) : MayP (l ++ [x]) := by
  obtain ⟨a1, a2, a3⟩ := h
  have key : ∀ (i : Nat) (y : M), (l ++ [x])[i]? = some y → (l[i]? = some y ∧ i < l.length) ∨ (y = x ∧ i = l.length) := by
    intro i y hy
    rcases Nat.lt_or_ge i l.length with h | h
    · rw [List.getElem?_append_left h] at hy; exact .inl ⟨hy, h⟩
    · rw [List.getElem?_append_right h] at hy
      cases hk : i - l.length with
      | zero => rw [hk] at hy; simp at hy; exact .inr ⟨hy.symm, by omega⟩
      | succ k => rw [hk] at hy; simp at hy
  refine ⟨fun i y hy => ?_, fun k i y z hy hz hk => ?_, by simp; omega⟩
  · rcases key i y hy with ⟨h, _⟩ | ⟨rfl, _⟩
    · exact a1 i y h
    · exact h1
  · rcases key i z hz with ⟨hz, _⟩ | ⟨rfl, hi⟩
    · rcases key k y hy with ⟨hy, _⟩ | ⟨_, hk'⟩
      · exact a2 k i y z hy hz hk
      · omega
    · rcases key k y hy with ⟨hy, _⟩ | ⟨_, hk'⟩
      · exact h2 y (List.mem_of_getElem? hy)
      · omega

theorem may_put {l : List M} {x : M} (h : (put l x).2 = 0) : may (put l x).1 = true := by
  obtain ⟨h1, h2, h3, h4, h5, h6⟩ := put_ok h
  rw [h6]
  have hm := may_fresh h1 x.tm
  have hle := ((may_iff _).1 hm).2.2
  refine (may_iff _).2 (may_append ((may_iff _).1 hm) h2 (fun y hy => ⟨h4 y hy, ?_⟩) (by omega))
  have hy' := ((mem_fresh h1).1 hy).1
  have := tm_le_last h1 hy'
  have := h3 (List.length_pos_of_mem hy')
  omega

/-- What holds of the memos while others are put. -/
def Kept (x : M) (m : List M) (last : Int) : Prop :=
  may m = true ∧ (0 < m.length ∧ lastTm m = last) ∧ (0 ≤ x.tm ∧ x.tm ≤ last) ∧ (x ∈ m ∨ x.tm + 50 < last) ∧ ∀ y ∈ m, y.id = x.id → y = x ∨ x.tm + 50 < y.tm

theorem last_append (l : List M) (x : M) : lastTm (l ++ [x]) = x.tm := by rw [lastTm]; simp

theorem kept_first {l : List M} {x : M} (h : (put l x).2 = 0) : Kept x (put l x).1 x.tm := by
  have hm := may_put h
  obtain ⟨h1, h2, h3, h4, h5, h6⟩ := put_ok h
  rw [h6] at hm ⊢
  have ho : 0 ≤ x.tm := by simp [one] at h2; omega
  refine ⟨hm, ⟨by simp, last_append _ _⟩, ⟨ho, Int.le_refl _⟩, .inl (by simp), fun y hy hid => ?_⟩
  rw [List.mem_append, List.mem_singleton] at hy
  rcases hy with hy | hy
  · exact absurd hid (h4 y hy)
  · exact .inl hy

theorem kept_next {x z : M} {m : List M} {last : Int} (k : Kept x m last) (h : (put m z).2 = 0) : Kept x (put m z).1 z.tm := by
  have hm := may_put h
  obtain ⟨h1, h2, h3, h4, h5, h6⟩ := put_ok h
  obtain ⟨k1, ⟨k2, k3⟩, ⟨k4, k5⟩, k6, k7⟩ := k
  rw [h6] at hm ⊢
  have hz : last ≤ z.tm := by have := h3 k2; omega
  refine ⟨hm, ⟨by simp, last_append _ _⟩, ⟨k4, by omega⟩, ?_, fun y hy hid => ?_⟩
  · rcases k6 with hx | hx
    · by_cases hf : x.tm + 50 < z.tm
      · exact .inr hf
      · exact .inl (List.mem_append_left _ ((mem_fresh h1).2 ⟨hx, by omega⟩))
    · exact .inr (by omega)
  · rw [List.mem_append, List.mem_singleton] at hy
    rcases hy with hy | rfl
    · exact k7 y ((mem_fresh h1).1 hy).1 hid
    · refine .inr ?_
      rcases k6 with hx | hx
      · refine Int.not_le.1 fun hle => ?_
        exact h4 x ((mem_fresh h1).2 ⟨hx, by omega⟩) hid.symm
      · omega

theorem id_unique {l : List M} (h : may l = true) {x y : M} (hx : x ∈ l) (hy : y ∈ l) (e : x.id = y.id) : x = y := by
  obtain ⟨i, hi⟩ := List.getElem?_of_mem hx
  obtain ⟨j, hj⟩ := List.getElem?_of_mem hy
  have hp := ((may_iff l).1 h).2.1
  rcases Nat.lt_trichotomy i j with hlt | rfl | hlt
  · exact absurd e (hp i j x y hi hj hlt).1
  · rw [hi] at hj; exact Option.some.inj hj
  · exact absurd e.symm (hp j i y x hj hi hlt).1

theorem find_mem {l : List M} {id now : Int} (h : (find l id now).2 = true) : (find l id now).1 ∈ fresh l now ∧ (find l id now).1.id = id := by
  refine ⟨?_, find_id h⟩
  unfold find at h ⊢
  cases hr : ofId (fresh l now) id with
  | nil => rw [hr] at h; simp at h
  | cons x r =>
    have : x ∈ ofId (fresh l now) id := by rw [hr]; simp
    rw [ofId, List.mem_filter] at this
    exact this.1

theorem kept_fresh {x : M} {m : List M} {last now : Int} (k : Kept x m last) (h0 : last ≤ now) (hf : now - x.tm ≤ 50) : find m x.id now = (x, true) := by
  obtain ⟨k1, ⟨k2, k3⟩, ⟨k4, k5⟩, k6, k7⟩ := k
  have hx : x ∈ m := by
    rcases k6 with h | h
    · exact h
    · omega
  have hx2 : x ∈ fresh m now := (mem_fresh k1).2 ⟨hx, by omega⟩
  have h2 : (find m x.id now).2 = true := by
    rw [find_any, List.any_eq_true]; exact ⟨x, hx2, by simp⟩
  obtain ⟨h3, h4⟩ := find_mem h2
  have h5 := id_unique k1 ((mem_fresh k1).1 h3).1 hx h4
  exact Prod.ext h5 h2

theorem kept_old {x : M} {m : List M} {last now : Int} (k : Kept x m last) (hf : ¬ now - x.tm ≤ 50) (h : (find m x.id now).2 = true) : (find m x.id now).1.tm > x.tm := by
  obtain ⟨h3, h4⟩ := find_mem h
  have := (mem_fresh k.1).1 h3
  omega

theorem memo_keepsLaw (l : List M) (x : M) (more : List M) (now : Int) : AF Try.prog 4 [mem l, x.av, mem more, i64 now] [] (Pure (bl true) []) := by
  refine af_body hT Try.func4 rfl rfl Try.ntmps4 rfl ?_
  refine aw_seq (aw_region hT ?_)
  refine aw_seq (aw_region hT ?_)
  refine callP (af_at memo_awake _ rfl rfl) ?_
  refine aw_cut ⟨⟨115, [(0, mem l), (2, mem more), (3, i64 now), (5, .ref 0 0)]⟩, [.cells 24 [i64 x.id, i64 x.tm, i64 x.code, i64 x.a]]⟩ (l.length ≤ 40 ∧ more.length ≤ 40) (aw_seq (aw_region hT ?_)) (fun hC => ?_)
  · refine boolI (fun h => ?_) (fun h1 => ?_)
    · refine aw_cond ?_
      refine aw_seq (aw_region hT ?_)
      refine aw_ret ?_
      exact retPick [] ⟨rfl, rfl⟩ rfl
    have h1 : decide (((l.map M.pv).length : Int) > 40) = false := h1
    have hl : l.length ≤ 40 := by simp at h1; omega
    refine aw_cond (boolI (fun h => ?_) (fun h2 => ?_))
    · refine aw_seq (aw_region hT ?_)
      refine aw_ret ?_
      exact retPick [] ⟨rfl, rfl⟩ rfl
    have h2 : decide (((more.map M.pv).length : Int) > 40) = false := h2
    refine aw_skip ⟨wk_pick [0] [0, 2, 3, 5] rfl, hl, by simp at h2; omega⟩
  · obtain ⟨hl, hml⟩ := hC
    refine aw_seq (aw_region hT ?_)
    refine callP (af_at (memo_putP l (by omega) x) _ rfl rfl) ?_
    refine aw_seq (aw_seq (aw_region hT ?_))
    refine aw_cond (boolI (fun h => ?_) (fun h => ?_))
    · refine aw_seq (aw_region hT ?_)
      refine aw_ret ?_
      refine retPick [] ⟨?_, rfl⟩ rfl
      have h : ((put l x).2 != 0) = true := h
      have := put_err (l := l) (x := x) (by simpa using h)
      show bl ((((put l x).1.map M.pv).length : Int) == 0) = _
      rw [this]; rfl
    · refine aw_skip ?_
      have h : ((put l x).2 != 0) = false := h
      have k0 := kept_first (l := l) (x := x) (by simpa using h)
      generalize (put l x).1 = m0 at k0 ⊢
      refine aw_seq (aw_region hT ?_)
      refine aw_cut2 (fun s1 => ∃ (m : List M) (last : Int), Kept x m last ∧ s1 = ⟨⟨115, [(3, i64 now), (5, .ref 0 0), (10, mem m), (12, i64 last)]⟩, [.cells 24 [i64 x.id, i64 x.tm, i64 x.code, i64 x.a]]⟩) (aw_seq (aw_region hT ?_)) ?_
      · refine aw_block ?_
        refine aw_loopW (fun n s => ∃ (i : Nat) (j : Int) (m : List M) (last : Int), n + i = more.length ∧ j = i ∧ Kept x m last ∧
          s = ⟨⟨115, [(2, mem more), (3, i64 now), (5, .ref 0 0), (10, mem m), (12, i64 last), (13, i64 j)]⟩, [.cells 24 [i64 x.id, i64 x.tm, i64 x.code, i64 x.a]]⟩) more.length ⟨⟨115, _⟩, [_]⟩ (wk_pick [0] [2, 3, 5, 10, 12, 13] rfl) ⟨0, _, _, _, rfl, rfl, k0, rfl⟩ ?_
        rintro n s ⟨i, j, m, last, hn, rfl, k, rfl⟩
        refine aw_seq (aw_seq (aw_region hT ?_))
        refine aw_cond (boolI (fun h => ?_) (fun h => ?_))
        · have hi : i < more.length := by simpa using h
          have hz := List.getElem?_eq_getElem hi
          generalize more[i] = z at hz
          have hm16 := ((may_iff m).1 k.1).2.2
          refine aw_skip ?_
          refine aw_seq (aw_block (aw_seq (aw_region hT ?_)))
          refine ⟨Int.natCast_nonneg _, optI (mget hz) ?_⟩
          refine callP (af_at (memo_putP m (by omega) z) _ rfl rfl) ?_
          refine aw_seq (aw_region hT ?_)
          refine aw_cond (boolI (fun h2 => ?_) (fun h2 => ?_))
          · have h2 : ((put m z).2 == 0) = true := h2
            have k2 := kept_next k (by simpa using h2)
            refine aw_seq (aw_region hT ?_)
            refine aw_region hT ?_
            refine ⟨Int.natCast_nonneg _, optI (mget hz) ?_⟩
            refine aw_region hT ?_
            refine ⟨more.length - (i + 1), by omega, _, wk_pick [0] [2, 3, 5, 10, 12, 13] rfl, i + 1, _, _, _, by omega, ?_, k2, rfl⟩
            rw [wrap_in _ (by omega) (by omega)]; rfl
          · refine aw_skip ?_
            refine aw_region hT ?_
            refine ⟨more.length - (i + 1), by omega, _, wk_pick [0] [2, 3, 5, 10, 12, 13] rfl, i + 1, _, _, _, by omega, ?_, k, rfl⟩
            rw [wrap_in _ (by omega) (by omega)]; rfl
        · refine aw_exit ?_
          exact ⟨_, wk_pick [0] [3, 5, 10, 12] rfl, m, last, k, rfl⟩
      · rintro s1 ⟨m, last, k, rfl⟩
        have hm16 := ((may_iff m).1 k.1).2.2
        have c := memo_may m (by omega)
        rw [k.1] at c
        refine aw_cut ⟨⟨115, [(3, i64 now), (5, .ref 0 0), (10, mem m)]⟩, [.cells 24 [i64 x.id, i64 x.tm, i64 x.code, i64 x.a]]⟩ (last ≤ now ∧ now ≤ 1099511627776) (aw_seq (aw_region hT ?_)) (fun hC => ?_)
        · refine boolI (fun h => ?_) (fun h1 => ?_)
          · refine aw_cond ?_
            refine aw_seq (aw_region hT ?_)
            refine callP (af_at c _ rfl rfl) ?_
            refine aw_ret ?_
            exact retPick [] ⟨rfl, rfl⟩ rfl
          have h1 : decide (now < last) = false := h1
          refine aw_cond (boolI (fun h => ?_) (fun h2 => ?_))
          · refine aw_seq (aw_region hT ?_)
            refine callP (af_at c _ rfl rfl) ?_
            refine aw_ret ?_
            exact retPick [] ⟨rfl, rfl⟩ rfl
          have h2 : decide (now > 1099511627776) = false := h2
          refine aw_skip ⟨wk_pick [0] [3, 5, 10] rfl, ?_, ?_⟩
          · simpa using h1
          · simpa using h2
        · obtain ⟨hc1, hc2⟩ := hC
          have hx0 := k.2.2.1
          refine aw_seq (aw_region hT ?_)
          refine callP (af_at (memo_find m (by omega) x.id now) _ rfl rfl) ?_
          refine aw_seq (aw_region hT ?_)
          refine aw_seq (aw_seq (aw_region hT ?_))
          refine aw_cond (boolI (fun h => ?_) (fun h => ?_))
          · have h : decide (IntKind.i64.wrap (now - x.tm) ≤ 50) = true := h
            rw [wrap_in _ (by omega) (by omega), decide_eq_true_eq] at h
            have hf := kept_fresh k hc1 h
            refine aw_seq (aw_region hT ?_)
            refine callP (af_at c _ rfl rfl) ?_
            refine boolI (fun h1 => ?_) (fun h1 => ?_)
            · refine ⟨_, (memo_eq _ _ _ _).1, rfl, ?_⟩
              refine aw_ret ?_
              refine retPick [] ⟨?_, rfl⟩ rfl
              show bl (decide ((find m x.id now).1 = x)) = _
              rw [hf]; simp
            · have h1 : (find m x.id now).2 = false := h1
              rw [hf] at h1; simp at h1
          · refine aw_skip ?_
            have h : decide (IntKind.i64.wrap (now - x.tm) ≤ 50) = false := h
            rw [wrap_in _ (by omega) (by omega), decide_eq_false_iff_not] at h
            refine aw_seq (aw_region hT ?_)
            refine callP (af_at c _ rfl rfl) ?_
            refine boolI (fun h1 => ?_) (fun h1 => ?_)
            · refine aw_ret ?_
              exact retPick [] ⟨rfl, rfl⟩ rfl
            · have h1 : (!(find m x.id now).2) = false := h1
              have ho := kept_old k h (by simpa using h1)
              refine aw_ret ?_
              refine retPick [] ⟨?_, rfl⟩ rfl
              show bl (decide ((find m x.id now).1.tm > x.tm)) = _
              rw [decide_eq_true ho]
end Go.Proofs.Ytdncagppilehgaa.AL
