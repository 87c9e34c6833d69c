/- The layer 20 (memo), what may be, and what is fresh. -/
import Derived.Test.YtdncagppilehgaaALMa
namespace Go.Proofs.Ytdncagppilehgaa.AL
open Go Go.Proofs

def ofId (l : List M) (id : Int) : List M := l.filter fun x => x.id == id

theorem memo_of (l : List M) (hl : l.length ≤ 1000) (id : Int) : AF Try.prog 36 [mem l, i64 id] [] (Pure (mem (ofId l id)) []) := by
  refine af_frz (t := 24) (n := (ofId l id).length) ?_ (by simp)
  refine af_body hT Try.func36 rfl rfl Try.ntmps36 rfl ?_
  refine aw_seq (aw_region hT ?_)
  refine aw_wk (wk_boxL 0 [.raw (.int .i64 id)] rfl rfl) ?_
  refine aw_seq (aw_region hT ?_)
  refine callP (af_lift (memo_all l hl 52 _ _ (fun x => memo_is x id)) _ rfl) ?_
  refine aw_ret ?_
  exact retPick [1] ⟨rfl, rfl⟩ rfl

def step (l : List M) (i : Nat) : Bool := match l[i]? with
  | none => true
  | some x => one x && !(decide (i > 0) && decide (x.tm < ((l[i-1]?).map M.tm).getD 0)) && !(decide (0 < (ofId (l.take i) x.id).length))
def may (l : List M) : Bool := (List.range l.length).all (step l) && decide (l.length ≤ 16)

theorem range_all_succ (i : Nat) (f : Nat → Bool) : (List.range (i + 1)).all f = ((List.range i).all f && f i) := by
  rw [List.range_succ, List.all_append]; simp

theorem range_all_lt {n i : Nat} {f : Nat → Bool} (h : i < n) (hf : f i = false) : (List.range n).all f = false := by
  cases hr : (List.range n).all f with
  | false => rfl
  | true => rw [List.all_eq_true] at hr; rw [hr i (List.mem_range.2 h)] at hf; exact absurd hf (by simp)

theorem may_not {l : List M} {i : Nat} (h : i < l.length) (hf : step l i = false) : may l = false := by
  rw [may, range_all_lt h hf]; rfl

theorem step_some {l : List M} {i : Nat} {x : M} (h : l[i]? = some x) : step l i = (one x && !(decide (i > 0) && decide (x.tm < ((l[i-1]?).map M.tm).getD 0)) && !(decide (0 < (ofId (l.take i) x.id).length))) := by
  rw [step, h]

theorem memo_of' (l : List M) (hl : l.length ≤ 1000) (i : Nat) (id : Int) : AF Try.prog 36 [.p (.sl 4 (((l.map M.pv).take ((i : Nat) : Int).toNat).drop (0 : Int).toNat)), i64 id] [] (Pure (mem (ofId (l.take i) id)) []) := by
  have : ((l.map M.pv).take ((i : Nat) : Int).toNat).drop (0 : Int).toNat = (l.take i).map M.pv := by rw [Int.toNat_natCast]; simp
  rw [this]
  exact memo_of (l.take i) (by simp; omega) id

theorem memo_may (l : List M) (hl : l.length ≤ 1000) : AF Try.prog 18 [mem l] [] (Pure (bl (may l)) []) := by
  refine af_body hT Try.func18 rfl rfl Try.ntmps18 rfl ?_
  refine aw_seq (aw_region hT ?_)
  refine aw_seq (aw_seq (aw_region hT ?_))
  refine aw_block ?_
  refine aw_loopW (fun n s => ∃ (i : Nat) (j : Int), n + i = l.length ∧ j = i ∧ (List.range i).all (step l) = true ∧ s = ⟨⟨44, [(0, mem l), (5, mem l), (6, i64 (l.map M.pv).length), (7, i64 j)]⟩, []⟩) l.length ⟨⟨44, _⟩, []⟩ (wk_pick [] [0, 5, 6, 7] rfl) ⟨0, _, rfl, rfl, rfl, rfl⟩ ?_
  rintro n s ⟨i, j, hn, rfl, hs, rfl⟩
  refine aw_seq (aw_region hT ?_)
  refine aw_seq (aw_cond (boolI (fun h => ?_) (fun h => ?_)))
  · refine aw_skip ?_
    have hi : i < l.length := by simpa using h
    have hx := List.getElem?_eq_getElem hi
    generalize l[i] = x at hx
    have hr := range_all_succ i (step l)
    rw [hs, Bool.true_and] at hr
    refine aw_seq (aw_block (aw_seq (aw_region hT ?_)))
    refine ⟨Int.natCast_nonneg _, optI (mget hx) ?_⟩
    refine aw_seq (aw_quiet hT follows_mixed (by rfl) ?_)
    refine ⟨_, af_at (memo_one x) _ rfl rfl, ?_⟩
    refine boolI (fun h1 => ?_) (fun h1 => ?_)
    · refine aw_cond ?_
      refine aw_seq (aw_region hT ?_)
      refine aw_ret ?_
      refine retPick [] ⟨?_, rfl⟩ rfl
      rw [may_not hi (by simp [step, hx]; intro h; rw [h] at h1; simp at h1)]; rfl
    · have h1 : one x = true := by simpa using h1
      refine boolI (fun h2 => ?_) (fun h2 => ?_)
      · have hy := List.getElem?_eq_getElem (l := l) (i := i - 1) (by omega)
        generalize l[i - 1] = y at hy
        have hw : IntKind.i64.wrap ((i : Int) - 1) = ((i - 1 : Nat) : Int) := by rw [wrap_in _ (by omega) (by omega)]; simp at h2; omega
        refine ⟨(show 0 ≤ IntKind.i64.wrap ((i : Int) - 1) by rw [hw]; exact Int.natCast_nonneg _), optI (show (l.map M.pv)[(IntKind.i64.wrap ((i : Int) - 1)).toNat]? = _ by rw [hw]; exact mget hy) ?_⟩
        refine boolI (fun h3 => ?_) (fun h3 => ?_)
        · refine aw_cond ?_
          refine aw_seq (aw_region hT ?_)
          refine aw_ret ?_
          refine retPick [] ⟨?_, rfl⟩ rfl
          rw [may_not hi (by simp [step, hx, hy, h1] at *; omega)]; rfl
        · refine ⟨⟨by omega, by omega, by simp; omega⟩, ?_⟩
          refine ⟨_, af_at (memo_of' l hl i x.id) _ rfl rfl, ?_⟩
          refine aw_cond (boolI (fun h4 => ?_) (fun h4 => ?_))
          · refine aw_seq (aw_region hT ?_)
            refine aw_ret ?_
            refine retPick [] ⟨?_, rfl⟩ rfl
            rw [may_not hi (by simp [step, hx, hy, h1] at *; omega)]; rfl
          · refine aw_skip ?_
            refine aw_region hT ?_
            refine ⟨l.length - (i + 1), by omega, _, wk_pick [] [0, 5, 6, 7] rfl, i + 1, _, by omega, ?_, ?_, rfl⟩
            · rw [wrap_in _ (by omega) (by omega)]; rfl
            · have e4 : (ofId (l.take i) x.id).length = 0 := by simpa using h4
              rw [hr, step_some hx, h1, hy, e4]
              have h3 : ¬ x.tm < y.tm := by simpa using h3
              simp [h3]
      · refine ⟨⟨by omega, by omega, by simp; omega⟩, ?_⟩
        refine ⟨_, af_at (memo_of' l hl i x.id) _ rfl rfl, ?_⟩
        refine aw_cond (boolI (fun h4 => ?_) (fun h4 => ?_))
        · refine aw_seq (aw_region hT ?_)
          refine aw_ret ?_
          refine retPick [] ⟨?_, rfl⟩ rfl
          rw [may_not hi (by simp [step, hx, h1] at *; omega)]; rfl
        · refine aw_skip ?_
          refine aw_region hT ?_
          refine ⟨l.length - (i + 1), by omega, _, wk_pick [] [0, 5, 6, 7] rfl, i + 1, _, by omega, ?_, ?_, rfl⟩
          · rw [wrap_in _ (by omega) (by omega)]; rfl
          · have e4 : (ofId (l.take i) x.id).length = 0 := by simpa using h4
            have h2 : i = 0 := by simpa using h2
            rw [hr, step_some hx, h1, e4, h2]; rfl
  · refine aw_exit ?_
    refine aw_seq (aw_region hT ?_)
    refine aw_ret ?_
    refine retPick [] ⟨?_, rfl⟩ rfl
    have hi : i = l.length := by
      have : ¬ i < l.length := by simpa using h
      omega
    subst hi
    have e : decide (((l.map M.pv).length : Int) ≤ 16) = may l := by
      rw [may, hs, List.length_map, Bool.true_and]
      exact decide_eq_decide.2 (by omega)
    show bl (decide (((l.map M.pv).length : Int) ≤ 16)) = _
    rw [e]

def fresh (l : List M) (now : Int) : List M := match may l with
  | true => l.filter (isFresh now)
  | false => []

theorem fresh_len (l : List M) (now : Int) : (fresh l now).length ≤ l.length := by
  unfold fresh; split
  · exact List.length_filter_le _ _
  · exact Nat.zero_le _

theorem memo_fresh (l : List M) (hl : l.length ≤ 1000) (now : Int) : AF Try.prog 16 [mem l, i64 now] [] (Pure (.msl 0 4 0 (fresh l now).length) [.row 24 4 ((fresh l now).map M.pv)]) := by
  refine af_body hT Try.func16 rfl rfl Try.ntmps16 rfl ?_
  refine aw_seq (aw_region hT ?_)
  refine aw_wk (wk_boxL 0 [.raw (.int .i64 now)] rfl rfl) ?_
  refine aw_seq (aw_seq (aw_region hT ?_))
  refine callP (af_at (memo_may l hl) _ rfl rfl) ?_
  refine aw_cond (boolI (fun h => ?_) (fun h => ?_))
  · refine aw_seq (aw_region hT ?_)
    refine aw_ret ?_
    have h : may l = false := by simpa using h
    rw [fresh, h]
    refine retNil 24 4 ⟨rfl, rfl⟩
  · refine aw_skip ?_
    refine aw_seq (aw_region hT ?_)
    refine callP (af_lift (memo_all l hl 39 _ _ (fun x => memo_isFresh x now)) _ rfl) ?_
    refine aw_ret ?_
    have h : may l = true := by simpa using h
    rw [fresh, h]
    exact retPick [1] ⟨rfl, rfl⟩ rfl

theorem memo_freshP (l : List M) (hl : l.length ≤ 1000) (now : Int) : AF Try.prog 16 [mem l, i64 now] [] (Pure (mem (fresh l now)) []) :=
  af_frz (memo_fresh l hl now) (by simp)

def find (l : List M) (id now : Int) : M × Bool := match ofId (fresh l now) id with
  | [] => (⟨0, 0, 0, 0⟩, false)
  | x :: _ => (x, true)

theorem memo_find (l : List M) (hl : l.length ≤ 1000) (id now : Int) : AF Try.prog 14 [mem l, i64 id, i64 now] [] (Pure (.tup [(find l id now).1.av, bl (find l id now).2]) []) := by
  refine af_body hT Try.func14 rfl rfl Try.ntmps14 rfl ?_
  refine aw_seq (aw_region hT ?_)
  refine aw_seq (aw_region hT ?_)
  refine callP (af_at (memo_freshP l hl now) _ rfl rfl) ?_
  refine callP (af_at (memo_of (fresh l now) (Nat.le_trans (fresh_len l now) hl) id) _ rfl rfl) ?_
  refine aw_seq (aw_seq (aw_region hT ?_))
  unfold find
  generalize ofId (fresh l now) id = r
  cases r with
  | nil =>
    refine aw_cond ?_
    refine aw_seq (aw_region hT ?_)
    refine aw_ret ?_
    exact retPick [] ⟨rfl, rfl⟩ rfl
  | cons x r =>
    refine aw_cond ?_
    refine aw_skip ?_
    refine aw_seq (aw_region hT ?_)
    refine ⟨Int.le_refl _, ?_⟩
    refine aw_ret ?_
    exact retPick [] ⟨rfl, rfl⟩ rfl
end Go.Proofs.Ytdncagppilehgaa.AL
