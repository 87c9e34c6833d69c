/- The layer 08 (geo), a row of numbers that a function tells. -/
import Derived.Test.YtdncagppilehgaaALGa
namespace Go.Proofs.Ytdncagppilehgaa.AL
open Go Go.Proofs

def ip (z : Int) : List PV := [.raw (.int .i64 z)]
def ints (l : List Int) : AV := .p (.sl 1 (l.map ip))

theorem geo_row0 (n : Nat) (hn : n ≤ 1000) (fn : Nat) (f : Nat → Int) (hf : ∀ k, k < n → AF Try.prog fn [i64 (k : Nat)] [] (Pure (i64 (f k)) [])) :
    AF Try.prog 44 [i64 (n : Nat), .clo (.func fn) []] [] (Pure (.msl 0 1 0 n) [.row 3 1 (((List.range n).map f).map ip)]) := by
  refine af_body hT Try.func44 rfl rfl Try.ntmps44 rfl ?_
  refine aw_seq (aw_region hT ?_)
  refine aw_seq (aw_region hT ?_)
  refine ⟨⟨rfl, by omega, (show ((n : Nat) : Int) * 8 ≤ 140737488355328 by omega), by omega⟩, ?_⟩
  refine aw_seq (aw_seq (aw_region hT ?_))
  refine aw_block ?_
  refine aw_loopW (fun r s => ∃ (i : Nat) (j : Int) (xs : List (List PV)), r + i = n ∧ j = i ∧ xs = ((List.range i).map f).map ip ++ List.replicate (n - i) (ip 0) ∧ s = ⟨⟨22, [(1, .clo (.func fn) []), (5, .msl 0 1 0 n), (10, i64 (n : Nat)), (11, i64 j)]⟩, [.row 3 1 xs]⟩) n ⟨⟨22, _⟩, [_]⟩ (wk_pick [0] [1, 5, 10, 11] rfl) ⟨0, _, _, rfl, rfl, rfl, rfl⟩ ?_
  rintro r s ⟨i, j, xs, hr, rfl, hxs, rfl⟩
  refine aw_seq (aw_region hT ?_)
  refine aw_seq (aw_cond (boolI (fun h => ?_) (fun h => ?_)))
  · refine aw_skip ?_
    have hi : i < n := by simpa using h
    have hg : xs[i]? = some [.raw (.int .i64 0)] := by
      rw [hxs, List.getElem?_append_right (by simp)]
      rw [List.length_map, List.length_map, List.length_range, Nat.sub_self, show n - i = (n - i - 1) + 1 by omega]; rfl
    refine aw_seq (aw_block (aw_seq (aw_region hT ?_)))
    refine aw_region hT ?_
    refine callP (af_at (hf i hi) _ rfl rfl) ?_
    refine ⟨⟨Int.natCast_nonneg _, by omega⟩, optI (show xs[0 + ((i : Nat) : Int).toNat]? = _ by rw [Int.toNat_natCast, Nat.zero_add]; exact hg) ?_⟩
    refine aw_region hT ?_
    refine ⟨n - (i + 1), by omega, _, wk_pick [0] [1, 5, 10, 11] rfl, i + 1, _, _, by omega, ?_, ?_, rfl⟩
    · rw [wrap64 _ (by omega) (by omega)]; rfl
    · show xs.set (0 + ((i : Nat) : Int).toNat) [.raw (.int .i64 (f i))] = _
      rw [Int.toNat_natCast, Nat.zero_add, hxs, List.range_succ, List.map_append, List.map_append, show n - i = (n - (i + 1)) + 1 by omega, List.replicate_succ]
      rw [List.set_append_right _ _ (by simp)]
      simp; rfl
  · refine aw_exit ?_
    refine aw_seq (aw_region hT ?_)
    refine aw_ret ?_
    have hi : i = n := by
      have : ¬ i < n := by simpa using h
      omega
    have hx : xs = ((List.range n).map f).map ip := by rw [hxs, hi]; simp
    refine retPick [0] ⟨rfl, ?_⟩ rfl
    rw [hx]; rfl

theorem geo_row1 (n : Nat) (hn : n ≤ 1000) (fn : Nat) (c0 : PV) (f : Nat → Int) (hf : ∀ k, k < n → AF Try.prog fn [i64 (k : Nat), .p c0] [] (Pure (i64 (f k)) [])) :
    AF Try.prog 44 [i64 (n : Nat), .clo (.func fn) [.p c0]] [] (Pure (.msl 0 1 0 n) [.row 3 1 (((List.range n).map f).map ip)]) := by
  refine af_body hT Try.func44 rfl rfl Try.ntmps44 rfl ?_
  refine aw_seq (aw_region hT ?_)
  refine aw_seq (aw_region hT ?_)
  refine ⟨⟨rfl, by omega, (show ((n : Nat) : Int) * 8 ≤ 140737488355328 by omega), by omega⟩, ?_⟩
  refine aw_seq (aw_seq (aw_region hT ?_))
  refine aw_block ?_
  refine aw_loopW (fun r s => ∃ (i : Nat) (j : Int) (xs : List (List PV)), r + i = n ∧ j = i ∧ xs = ((List.range i).map f).map ip ++ List.replicate (n - i) (ip 0) ∧ s = ⟨⟨22, [(1, .clo (.func fn) [.p c0]), (5, .msl 0 1 0 n), (10, i64 (n : Nat)), (11, i64 j)]⟩, [.row 3 1 xs]⟩) n ⟨⟨22, _⟩, [_]⟩ (wk_pick [0] [1, 5, 10, 11] rfl) ⟨0, _, _, rfl, rfl, rfl, rfl⟩ ?_
  rintro r s ⟨i, j, xs, hr, rfl, hxs, rfl⟩
  refine aw_seq (aw_region hT ?_)
  refine aw_seq (aw_cond (boolI (fun h => ?_) (fun h => ?_)))
  · refine aw_skip ?_
    have hi : i < n := by simpa using h
    have hg : xs[i]? = some [.raw (.int .i64 0)] := by
      rw [hxs, List.getElem?_append_right (by simp)]
      rw [List.length_map, List.length_map, List.length_range, Nat.sub_self, show n - i = (n - i - 1) + 1 by omega]; rfl
    refine aw_seq (aw_block (aw_seq (aw_region hT ?_)))
    refine aw_region hT ?_
    refine callP (af_at (hf i hi) _ rfl rfl) ?_
    refine ⟨⟨Int.natCast_nonneg _, by omega⟩, optI (show xs[0 + ((i : Nat) : Int).toNat]? = _ by rw [Int.toNat_natCast, Nat.zero_add]; exact hg) ?_⟩
    refine aw_region hT ?_
    refine ⟨n - (i + 1), by omega, _, wk_pick [0] [1, 5, 10, 11] rfl, i + 1, _, _, by omega, ?_, ?_, rfl⟩
    · rw [wrap64 _ (by omega) (by omega)]; rfl
    · show xs.set (0 + ((i : Nat) : Int).toNat) [.raw (.int .i64 (f i))] = _
      rw [Int.toNat_natCast, Nat.zero_add, hxs, List.range_succ, List.map_append, List.map_append, show n - i = (n - (i + 1)) + 1 by omega, List.replicate_succ]
      rw [List.set_append_right _ _ (by simp)]
      simp; rfl
  · refine aw_exit ?_
    refine aw_seq (aw_region hT ?_)
    refine aw_ret ?_
    have hi : i = n := by
      have : ¬ i < n := by simpa using h
      omega
    have hx : xs = ((List.range n).map f).map ip := by rw [hxs, hi]; simp
    refine retPick [0] ⟨rfl, ?_⟩ rfl
    rw [hx]; rfl

theorem geo_row2 (n : Nat) (hn : n ≤ 1000) (fn : Nat) (c0 : PV) (c1 : PV) (f : Nat → Int) (hf : ∀ k, k < n → AF Try.prog fn [i64 (k : Nat), .p c0, .p c1] [] (Pure (i64 (f k)) [])) :
    AF Try.prog 44 [i64 (n : Nat), .clo (.func fn) [.p c0, .p c1]] [] (Pure (.msl 0 1 0 n) [.row 3 1 (((List.range n).map f).map ip)]) := by
  refine af_body hT Try.func44 rfl rfl Try.ntmps44 rfl ?_
  refine aw_seq (aw_region hT ?_)
  refine aw_seq (aw_region hT ?_)
  refine ⟨⟨rfl, by omega, (show ((n : Nat) : Int) * 8 ≤ 140737488355328 by omega), by omega⟩, ?_⟩
  refine aw_seq (aw_seq (aw_region hT ?_))
  refine aw_block ?_
  refine aw_loopW (fun r s => ∃ (i : Nat) (j : Int) (xs : List (List PV)), r + i = n ∧ j = i ∧ xs = ((List.range i).map f).map ip ++ List.replicate (n - i) (ip 0) ∧ s = ⟨⟨22, [(1, .clo (.func fn) [.p c0, .p c1]), (5, .msl 0 1 0 n), (10, i64 (n : Nat)), (11, i64 j)]⟩, [.row 3 1 xs]⟩) n ⟨⟨22, _⟩, [_]⟩ (wk_pick [0] [1, 5, 10, 11] rfl) ⟨0, _, _, rfl, rfl, rfl, rfl⟩ ?_
  rintro r s ⟨i, j, xs, hr, rfl, hxs, rfl⟩
  refine aw_seq (aw_region hT ?_)
  refine aw_seq (aw_cond (boolI (fun h => ?_) (fun h => ?_)))
  · refine aw_skip ?_
    have hi : i < n := by simpa using h
    have hg : xs[i]? = some [.raw (.int .i64 0)] := by
      rw [hxs, List.getElem?_append_right (by simp)]
      rw [List.length_map, List.length_map, List.length_range, Nat.sub_self, show n - i = (n - i - 1) + 1 by omega]; rfl
    refine aw_seq (aw_block (aw_seq (aw_region hT ?_)))
    refine aw_region hT ?_
    refine callP (af_at (hf i hi) _ rfl rfl) ?_
    refine ⟨⟨Int.natCast_nonneg _, by omega⟩, optI (show xs[0 + ((i : Nat) : Int).toNat]? = _ by rw [Int.toNat_natCast, Nat.zero_add]; exact hg) ?_⟩
    refine aw_region hT ?_
    refine ⟨n - (i + 1), by omega, _, wk_pick [0] [1, 5, 10, 11] rfl, i + 1, _, _, by omega, ?_, ?_, rfl⟩
    · rw [wrap64 _ (by omega) (by omega)]; rfl
    · show xs.set (0 + ((i : Nat) : Int).toNat) [.raw (.int .i64 (f i))] = _
      rw [Int.toNat_natCast, Nat.zero_add, hxs, List.range_succ, List.map_append, List.map_append, show n - i = (n - (i + 1)) + 1 by omega, List.replicate_succ]
      rw [List.set_append_right _ _ (by simp)]
      simp; rfl
  · refine aw_exit ?_
    refine aw_seq (aw_region hT ?_)
    refine aw_ret ?_
    have hi : i = n := by
      have : ¬ i < n := by simpa using h
      omega
    have hx : xs = ((List.range n).map f).map ip := by rw [hxs, hi]; simp
    refine retPick [0] ⟨rfl, ?_⟩ rfl
    rw [hx]; rfl
end Go.Proofs.Ytdncagppilehgaa.AL
