/- The layer 20 (memo), the document's answer. -/
import Derived.Test.YtdncagppilehgaaALMb
namespace Go.Proofs.Ytdncagppilehgaa.AL
open Go Go.Proofs

theorem ref_one (x : M) : AF Try.prog 37 [x.av] [] (Pure (bl (one x)) []) := by
  refine af_body hT Try.func37 rfl rfl Try.ntmps37 rfl ?_
  refine aw_seq (aw_region hT ?_)
  refine aw_seq (aw_region hT ?_)
  refine boolI (fun h1 => ?_) (fun h1 => ?_)
  · refine boolI (fun h2 => ?_) (fun h2 => ?_)
    · refine boolI (fun h3 => ?_) (fun h3 => ?_)
      · refine aw_ret ?_
        refine retPick [] ⟨?_, rfl⟩ rfl
        show bl (decide (x.tm ≤ 1099511627776)) = _
        have h2 : (decide (x.id ≤ 1099511627776)) = true := h2
        have h3 : (decide (x.tm ≥ 0)) = true := h3
        rw [one, h1, h2, h3]; rfl
      · refine aw_ret ?_
        refine retPick [] ⟨?_, rfl⟩ rfl
        have h3 : (decide (x.tm ≥ 0)) = false := h3
        rw [one, h3]; simp; rfl
    · refine aw_ret ?_
      refine retPick [] ⟨?_, rfl⟩ rfl
      have h2 : (decide (x.id ≤ 1099511627776)) = false := h2
      rw [one, h2]; simp; rfl
  · refine aw_ret ?_
    refine retPick [] ⟨?_, rfl⟩ rfl
    rw [one, h1]; rfl

def okB (x y : M) : Bool := !(y.id == x.id) && !(decide (y.tm > x.tm))
def rstep (l : List M) (i : Nat) : Bool := match l[i]? with
  | none => true
  | some x => one x && (l.take i).all (okB x)
def rmay (l : List M) : Bool := (List.range l.length).all (rstep l) && decide (l.length ≤ 16)

theorem rmay_not {l : List M} {i : Nat} (h : i < l.length) (hf : rstep l i = false) : rmay l = false := by
  rw [rmay, range_all_lt h hf]; rfl
theorem rstep_some {l : List M} {i : Nat} {x : M} (h : l[i]? = some x) : rstep l i = (one x && (l.take i).all (okB x)) := by rw [rstep, h]

theorem take_all_not {α : Type} {l : List α} {f : α → Bool} {k i : Nat} {y : α} (hy : l[k]? = some y) (hk : k < i) (hf : f y = false) : (l.take i).all f = false := by
  cases h : (l.take i).all f with
  | false => rfl
  | true =>
    rw [List.all_eq_true] at h
    rw [h y (List.mem_of_getElem? (i := k) (by rw [List.getElem?_take_of_lt hk]; exact hy))] at hf
    exact absurd hf (by simp)
theorem take_all_succ {α : Type} {l : List α} {f : α → Bool} {k : Nat} {y : α} (hy : l[k]? = some y) : (l.take (k + 1)).all f = ((l.take k).all f && f y) := by
  rw [List.take_add_one, hy, List.all_append]; simp

theorem ref_may (l : List M) (hl : l.length ≤ 1000) : AF Try.prog 19 [mem l] [] (Pure (bl (rmay l)) []) := by
  refine af_body hT Try.func19 rfl rfl Try.ntmps19 rfl ?_
  refine aw_seq (aw_region hT ?_)
  refine aw_seq (aw_seq (aw_region hT ?_))
  refine aw_block ?_
  refine aw_loopW (fun n s => ∃ (i : Nat) (j : Int), n + i = l.length ∧ j = i ∧ (List.range i).all (rstep l) = true ∧ s = ⟨⟨51, [(0, mem l), (3, i64 j)]⟩, []⟩) l.length ⟨⟨51, _⟩, []⟩ (wk_pick [] [0, 3] rfl) ⟨0, _, rfl, rfl, rfl, rfl⟩ ?_
  rintro n s ⟨i, j, hn, rfl, hs, rfl⟩
  refine aw_seq (aw_seq (aw_region hT ?_))
  refine aw_cond (boolI (fun h => ?_) (fun h => ?_))
  · refine aw_skip ?_
    have hi : i < l.length := by simpa using h
    have hx := List.getElem?_eq_getElem hi
    generalize l[i] = x at hx
    have hr := range_all_succ i (rstep l)
    rw [hs, Bool.true_and] at hr
    refine aw_seq (aw_block (aw_seq (aw_region hT ?_)))
    refine ⟨Int.natCast_nonneg _, optI (mget hx) ?_⟩
    refine callP (af_at (ref_one x) _ rfl rfl) ?_
    refine aw_seq (aw_seq (aw_region hT ?_))
    refine aw_cond (boolI (fun h1 => ?_) (fun h1 => ?_))
    · refine aw_seq (aw_region hT ?_)
      refine aw_ret ?_
      refine retPick [] ⟨?_, rfl⟩ rfl
      have h1 : one x = false := by simpa using h1
      rw [rmay_not hi (by rw [rstep_some hx, h1]; rfl)]; rfl
    · refine aw_skip ?_
      have h1 : one x = true := by simpa using h1
      refine aw_seq (aw_region hT ?_)
      refine aw_block ?_
      refine aw_loopW (fun n s => ∃ (k : Nat) (q : Int), n + k = i ∧ q = k ∧ (l.take k).all (okB x) = true ∧ s = ⟨⟨51, [(0, mem l), (3, i64 i), (5, i64 q)]⟩, []⟩) i ⟨⟨51, _⟩, []⟩ (wk_pick [] [0, 3, 5] rfl) ⟨0, _, rfl, rfl, rfl, rfl⟩ ?_
      rintro n2 s2 ⟨k, q, hk, rfl, hs2, rfl⟩
      refine aw_seq (aw_seq (aw_region hT ?_))
      refine aw_cond (boolI (fun h2 => ?_) (fun h2 => ?_))
      · refine aw_skip ?_
        have hki : k < i := by simpa using h2
        have hy := List.getElem?_eq_getElem (l := l) (i := k) (by omega)
        generalize l[k] = y at hy
        refine aw_seq (aw_block (aw_seq (aw_quiet hT follows_mixed (by rfl) ?_)))
        refine ⟨Int.natCast_nonneg _, optI (mget hy) ?_⟩
        refine ⟨Int.natCast_nonneg _, optI (mget hx) ?_⟩
        refine boolI (fun h3 => ?_) (fun h3 => ?_)
        · refine aw_cond ?_
          refine aw_seq (aw_region hT ?_)
          refine aw_ret ?_
          refine retPick [] ⟨?_, rfl⟩ rfl
          rw [rmay_not hi (by rw [rstep_some hx, h1, take_all_not hy hki (by rw [okB, h3]; rfl)]; rfl)]; rfl
        · refine ⟨Int.natCast_nonneg _, optI (mget hy) ?_⟩
          refine ⟨Int.natCast_nonneg _, optI (mget hx) ?_⟩
          refine aw_cond (boolI (fun h4 => ?_) (fun h4 => ?_))
          · refine aw_seq (aw_region hT ?_)
            refine aw_ret ?_
            refine retPick [] ⟨?_, rfl⟩ rfl
            have h4 : decide (y.tm > x.tm) = true := h4
            rw [rmay_not hi (by rw [rstep_some hx, h1, take_all_not hy hki (by rw [okB, h3, h4]; rfl)]; rfl)]; rfl
          · refine aw_skip ?_
            have h4 : decide (y.tm > x.tm) = false := h4
            refine aw_region hT ?_
            refine ⟨i - (k + 1), by omega, _, wk_pick [] [0, 3, 5] rfl, k + 1, _, by omega, ?_, ?_, rfl⟩
            · rw [wrap_in _ (by omega) (by omega)]; rfl
            · rw [take_all_succ hy, hs2, okB, h3, h4]; rfl
      · refine aw_exit ?_
        refine aw_region hT ?_
        have hki : k = i := by
          have : ¬ k < i := by simpa using h2
          omega
        subst hki
        refine ⟨l.length - (k + 1), by omega, _, wk_pick [] [0, 3] rfl, k + 1, _, by omega, ?_, ?_, rfl⟩
        · rw [wrap_in _ (by omega) (by omega)]; rfl
        · rw [hr, rstep_some hx, h1, hs2]; rfl
  · refine aw_exit ?_
    refine aw_seq (aw_region hT ?_)
    refine aw_ret ?_
    refine retPick [] ⟨?_, rfl⟩ rfl
    have hi : i = l.length := by
      have : ¬ i < l.length := by simpa using h
      omega
    subst hi
    have e : decide (((l.map M.pv).length : Int) ≤ 16) = rmay l := by
      rw [rmay, hs, List.length_map, Bool.true_and]
      exact decide_eq_decide.2 (by omega)
    show bl (decide (((l.map M.pv).length : Int) ≤ 16)) = _
    rw [e]
end Go.Proofs.Ytdncagppilehgaa.AL
