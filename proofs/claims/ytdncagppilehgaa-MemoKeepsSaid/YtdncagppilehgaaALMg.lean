/- The layer 20 (memo), the statements. -/
import Derived.Test.YtdncagppilehgaaALMf
namespace Go.Proofs.Ytdncagppilehgaa.AL
open Go Go.Proofs

theorem memo_putP (l : List M) (hl : l.length ≤ 900) (x : M) : AF Try.prog 11 [mem l, x.av] [] (Pure (.tup [mem (put l x).1, i64 (put l x).2]) []) :=
  af_frzT (memo_put l hl x) (by simp) rfl
theorem ref_putP (l : List M) (hl : l.length ≤ 900) (x : M) : AF Try.prog 12 [mem l, x.av] [] (Pure (.tup [mem (put l x).1, i64 (put l x).2]) []) :=
  af_frzT (ref_put l hl x) (by simp) rfl

set_option maxRecDepth 4000 in
theorem memo_awake : AF Try.prog 10 [] [] (Pure (bl true) []) := by
  have hp : put [] ⟨7, 0, 3, 0⟩ = ([⟨7, 0, 3, 0⟩], 0) := by decide +kernel
  have hf1 : find [⟨7, 0, 3, 0⟩] 7 50 = (⟨7, 0, 3, 0⟩, true) := by decide +kernel
  have hf2 : find [⟨7, 0, 3, 0⟩] 7 51 = (⟨0, 0, 0, 0⟩, false) := by decide +kernel
  have hm : may [⟨7, 0, 3, 0⟩] = true := by decide +kernel
  have hfr : fresh [⟨7, 0, 3, 0⟩] 0 = [⟨7, 0, 3, 0⟩] := by decide +kernel
  have c1 := memo_putP [] (by simp) ⟨7, 0, 3, 0⟩
  have c2 := memo_find [⟨7, 0, 3, 0⟩] (by simp) 7 50
  have c3 := memo_find [⟨7, 0, 3, 0⟩] (by simp) 7 51
  have c4 := memo_may [⟨7, 0, 3, 0⟩] (by simp)
  have c5 := memo_freshP [⟨7, 0, 3, 0⟩] (by simp) 0
  rw [hp] at c1; rw [hf1] at c2; rw [hf2] at c3; rw [hm] at c4; rw [hfr] at c5
  refine af_body hT Try.func10 rfl rfl Try.ntmps10 rfl ?_
  refine aw_seq (aw_region hT ?_)
  refine aw_seq (aw_region hT ?_)
  refine callP (af_at (af_args (args := [.p (.raw (.slice none 0 0)), (⟨7, 0, 3, 0⟩ : M).av]) c1 ⟨.inr ⟨rfl, 4, rfl⟩, .inl rfl, trivial⟩) _ rfl rfl) ?_
  refine aw_seq (aw_region hT ?_)
  refine callP (af_at c2 _ rfl rfl) ?_
  refine aw_seq (aw_region hT ?_)
  refine callP (af_at c3 _ rfl rfl) ?_
  refine aw_seq (aw_region hT ?_)
  refine callP (af_at c4 _ rfl rfl) ?_
  refine callP (af_at c5 _ rfl rfl) ?_
  refine aw_ret ?_
  exact retPick [] ⟨rfl, rfl⟩ rfl

theorem memo_tells (l : List M) (x : M) (id now : Int) : AF Try.prog 3 [mem l, x.av, i64 id, i64 now] [] (Pure (bl true) []) := by
  refine af_body hT Try.func3 rfl rfl Try.ntmps3 rfl ?_
  refine aw_seq (aw_region hT ?_)
  refine aw_seq (aw_region hT ?_)
  refine callP (af_at memo_awake _ rfl rfl) ?_
  refine aw_seq (aw_seq (aw_region hT ?_))
  refine aw_cond (boolI (fun h => ?_) (fun h => ?_))
  · refine aw_seq (aw_region hT ?_)
    refine aw_ret ?_
    exact retPick [] ⟨rfl, rfl⟩ rfl
  · refine aw_skip ?_
    have hl : l.length ≤ 40 := by
      have h : decide (((l.map M.pv).length : Int) > 40) = false := h
      simp at h; omega
    refine aw_seq (aw_region hT ?_)
    refine callP (af_at (memo_putP l (by omega) x) _ rfl rfl) ?_
    refine aw_seq (aw_region hT ?_)
    refine callP (af_at (ref_putP l (by omega) x) _ rfl rfl) ?_
    have hput : (put l x).1.length ≤ 1000 := by
      have := fresh_len l x.tm
      unfold put
      split
      · simp
      · split
        · simp
        · split
          · simp
          · simp; omega
    refine aw_seq (aw_region hT ?_)
    refine callP (af_at (ref_same _ _ hput) _ rfl rfl) ?_
    refine aw_seq (aw_region hT ?_)
    refine callP (af_at (memo_find l (by omega) id now) _ rfl rfl) ?_
    refine aw_seq (aw_region hT ?_)
    have c1 := ref_find l (by omega) id now
    rw [rfind_eq] at c1
    refine callP (af_at c1 _ rfl rfl) ?_
    refine aw_seq (aw_region hT ?_)
    refine callP (af_at (memo_freshP l (by omega) now) _ rfl rfl) ?_
    have c2 := ref_freshP l (by omega) now
    rw [rfresh_eq] at c2
    refine callP (af_at c2 _ rfl rfl) ?_
    have hfl := fresh_len l now
    refine callP (af_at (ref_same _ _ (by omega)) _ rfl rfl) ?_
    refine aw_seq (aw_region hT ?_)
    refine boolI (fun h1 => ?_) (fun h1 => absurd h1 (by simp))
    refine boolI (fun h2 => ?_) (fun h2 => absurd (show decide (fresh l now = fresh l now) = false from h2) (by simp))
    refine boolI (fun h3 => ?_) (fun h3 => absurd (show ((put l x).2 == (put l x).2) = false from h3) (by simp))
    refine ⟨_, (memo_eq _ _ _ _).1, rfl, ?_⟩
    refine boolI (fun h4 => ?_) (fun h4 => absurd (show decide ((find l id now).1 = (find l id now).1) = false from h4) (by simp))
    refine boolI (fun h5 => ?_) (fun h5 => absurd (show ((find l id now).2 == (find l id now).2) = false from h5) (by simp))
    refine callP (af_at (memo_may l (by omega)) _ rfl rfl) ?_
    have c3 := ref_may l (by omega)
    rw [rmay_eq] at c3
    refine callP (af_at c3 _ rfl rfl) ?_
    refine aw_ret ?_
    refine retPick [] ⟨?_, rfl⟩ rfl
    show bl (may l == may l) = _
    rw [beq_self_eq_true]
end Go.Proofs.Ytdncagppilehgaa.AL
