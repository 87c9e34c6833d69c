/- The layer 08 (geo), two lists of numbers are compared; the chapter's example. -/
import Derived.Test.YtdncagppilehgaaALGd
namespace Go.Proofs.Ytdncagppilehgaa.AL
open Go Go.Proofs

theorem iget {l : List Int} {i : Nat} {x : Int} (h : l[i]? = some x) : (l.map ip)[((i : Nat) : Int).toNat]? = some [.raw (.int .i64 x)] := by
  rw [Int.toNat_natCast, List.getElem?_map, h]; rfl

theorem itake_succ {a b : List Int} {i : Nat} {x y : Int} (h : a.take i = b.take i) (hx : a[i]? = some x) (hy : b[i]? = some y) (e : x = y) : a.take (i + 1) = b.take (i + 1) := by
  rw [List.take_add_one, List.take_add_one, h, hx, hy, e]

theorem flat_nil : flatH [] := by intro k hk; simp at hk

theorem ref_ints (a b : List Int) (ha : a.length ≤ 100000) : AF Try.prog 26 [ints a, ints b] [] (Pure (bl (decide (a = b))) []) := by
  refine af_body hT Try.func26 rfl rfl Try.ntmps26 rfl ?_
  refine aw_seq (aw_region hT ?_)
  refine aw_seq (aw_seq (aw_region hT ?_))
  refine aw_cond (boolI (fun h => ?_) (fun h => ?_))
  · refine aw_seq (aw_region hT ?_)
    refine aw_ret ?_
    refine retPick [] ⟨?_, rfl⟩ rfl
    have h : ((((a.map ip).length : Int)) != ((b.map ip).length : Int)) = true := h
    have : ¬ a = b := fun e => by subst e; simp at h
    rw [decide_eq_false this]; rfl
  · have hlen : a.length = b.length := by
      have h : ((((a.map ip).length : Int)) != ((b.map ip).length : Int)) = false := h
      simp at h; omega
    refine aw_skip ?_
    refine aw_seq (aw_seq (aw_region hT ?_))
    refine aw_block ?_
    refine aw_loopW (fun n s => ∃ (i : Nat) (j : Int), n + i = a.length ∧ j = i ∧ a.take i = b.take i ∧ s = ⟨⟨26, [(0, ints a), (1, ints b), (5, i64 j)]⟩, []⟩) a.length ⟨⟨26, _⟩, []⟩ (wk_pick [] [0, 1, 5] rfl) ⟨0, _, rfl, rfl, rfl, rfl⟩ ?_
    rintro n s ⟨i, j, hn, rfl, hs, rfl⟩
    refine aw_seq (aw_seq (aw_region hT ?_))
    refine aw_cond (boolI (fun h => ?_) (fun h => ?_))
    · have hi : i < a.length := by simpa using h
      have hx := List.getElem?_eq_getElem hi
      have hy := List.getElem?_eq_getElem (l := b) (i := i) (by omega)
      generalize a[i] = x at hx
      generalize b[i] = y at hy
      refine aw_skip ?_
      refine aw_seq (aw_block (aw_seq (aw_quiet hT follows_mixed (by rfl) ?_)))
      refine ⟨Int.natCast_nonneg _, optI (iget hx) ?_⟩
      refine ⟨Int.natCast_nonneg _, optI (iget hy) ?_⟩
      refine aw_cond (boolI (fun h2 => ?_) (fun h2 => ?_))
      · refine aw_seq (aw_region hT ?_)
        refine aw_ret ?_
        refine retPick [] ⟨?_, rfl⟩ rfl
        have h2 : ¬ x = y := by simpa using h2
        have : ¬ a = b := fun e => by subst e; rw [hx] at hy; exact h2 (Option.some.inj hy)
        rw [decide_eq_false this]; rfl
      · refine aw_skip ?_
        refine aw_region hT ?_
        have h2 : x = y := by simpa using h2
        refine ⟨a.length - (i + 1), by omega, _, wk_pick [] [0, 1, 5] rfl, i + 1, _, by omega, ?_, ?_, rfl⟩
        · rw [wrap64 _ (by omega) (by omega)]; rfl
        · exact itake_succ hs hx hy h2
    · refine aw_exit ?_
      refine aw_seq (aw_region hT ?_)
      refine aw_ret ?_
      refine retPick [] ⟨?_, rfl⟩ rfl
      have hi : i = a.length := by
        have : ¬ i < a.length := by simpa using h
        omega
      have : a = b := by
        rw [hi, List.take_length, hlen, List.take_length] at hs; exact hs
      rw [decide_eq_true this]; rfl

abbrev g0 : G := ⟨8, 1, 2, 1⟩

set_option maxRecDepth 4000 in
theorem geo_awake : AF Try.prog 20 [] [] (Pure (bl true) []) := by
  have e1 : gWhere g0 25 = (10, 2, 0) := by decide +kernel
  have e2 : members g0 1 = [4, 12] := by decide +kernel
  have e3 : members g0 9 = [20, 21, 22] := by decide +kernel
  have e4 : gMay g0 = true := by decide +kernel
  have e5 : sec g0 = 26 := by decide +kernel
  have e6 : grp g0 = 11 := by decide +kernel
  have e7 : room g0 = 456 := by decide +kernel
  have c1 := geo_where g0 25
  have c2 := geo_members g0 1
  have c3 := geo_members g0 9
  have c4 := geo_may g0
  have c5 := geo_Sectors g0
  have c6 := geo_Groups g0
  have c7 := geo_Room g0
  rw [e1] at c1; rw [e2] at c2; rw [e3] at c3; rw [e4] at c4; rw [e4, e5] at c5; rw [e4, e6] at c6; rw [e4, e7] at c7
  refine af_body hT Try.func20 rfl rfl Try.ntmps20 rfl ?_
  refine aw_seq (aw_region hT ?_)
  refine aw_seq (aw_region hT ?_)
  refine aw_seq (aw_region hT ?_)
  refine callP (af_at c1 _ rfl rfl) ?_
  refine aw_seq (aw_region hT ?_)
  refine callP (af_at c2 _ rfl rfl) ?_
  refine callP (af_lent (ref_ints [4, 12] [4, 12] (by decide)) 1 rfl ⟨.inl ⟨rfl, rfl⟩, .inr (.inl ⟨rfl, rfl⟩), trivial⟩ rfl flat_nil) ?_
  refine aw_seq (aw_region hT ?_)
  refine callP (af_at c3 _ rfl rfl) ?_
  refine callP (af_lent (ref_ints [20, 21, 22] [20, 21, 22] (by decide)) 2 rfl ⟨.inl ⟨rfl, rfl⟩, .inr (.inl ⟨rfl, rfl⟩), trivial⟩ rfl flat_nil) ?_
  refine aw_seq (aw_region hT ?_)
  refine callP (af_at c4 _ rfl rfl) ?_
  refine callP (af_at c5 _ rfl rfl) ?_
  refine callP (af_at c6 _ rfl rfl) ?_
  refine callP (af_at c7 _ rfl rfl) ?_
  refine aw_ret ?_
  exact retPick [] ⟨rfl, rfl⟩ rfl
end Go.Proofs.Ytdncagppilehgaa.AL
