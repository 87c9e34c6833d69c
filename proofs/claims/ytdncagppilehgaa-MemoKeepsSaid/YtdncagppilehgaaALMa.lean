/- The layer 20 (memo), its inner functions. -/
import Derived.Test.YtdncagppilehgaaALTab
import Derived.Test.YtdncagppilehgaaALq
namespace Go.Proofs.Ytdncagppilehgaa.AL
open Go Go.Proofs

structure M where
  id : Int
  tm : Int
  code : Int
  a : Int
  deriving DecidableEq

def M.pv (x : M) : List PV := [.raw (.int .i64 x.id), .raw (.int .i64 x.tm), .raw (.int .i64 x.code), .raw (.int .i64 x.a)]
abbrev M.av (x : M) : AV := .agg [i64 x.id, i64 x.tm, i64 x.code, i64 x.a]
def mem (l : List M) : AV := .p (.sl 4 (l.map M.pv))

theorem memo_in (a b c : Int) : AF Try.prog 51 [i64 a, i64 b, i64 c] [] (Pure (bl (decide (a ≥ b) && decide (a ≤ c))) []) := by
  refine af_body hT Try.func51 rfl rfl Try.ntmps51 rfl ?_
  refine aw_seq (aw_region hT ?_)
  refine aw_seq (aw_region hT ?_)
  refine boolI (fun h => ?_) (fun h => ?_)
  · refine aw_ret ?_
    refine retI 0 ⟨?_, rfl⟩ rfl rfl rfl
    rw [h]; rfl
  · refine aw_ret ?_
    refine retI 0 ⟨?_, rfl⟩ rfl rfl rfl
    rw [h]; rfl

def one (x : M) : Bool := (decide (x.id ≥ 1) && decide (x.id ≤ 1099511627776)) && (decide (x.tm ≥ 0) && decide (x.tm ≤ 1099511627776))

theorem memo_one (x : M) : AF Try.prog 35 [x.av] [] (Pure (bl (one x)) []) := by
  refine af_body hT Try.func35 rfl rfl Try.ntmps35 rfl ?_
  refine aw_seq (aw_region hT ?_)
  refine aw_seq (aw_region hT ?_)
  refine callP (af_at (memo_in _ _ _) _ rfl rfl) ?_
  refine boolI (fun h => ?_) (fun h => ?_)
  · refine callP (af_at (memo_in _ _ _) _ rfl rfl) ?_
    refine aw_ret ?_
    refine retI 0 ⟨?_, rfl⟩ rfl rfl rfl
    rw [one, h]; rfl
  · refine aw_ret ?_
    refine retI 0 ⟨?_, rfl⟩ rfl rfl rfl
    rw [one, h]; rfl

theorem memo_is (x : M) (id : Int) : AF Try.prog 52 [x.av, .p (.box [.raw (.int .i64 id)])] [] (Pure (bl (x.id == id)) []) := by
  refine af_body hT Try.func52 rfl rfl Try.ntmps52 rfl ?_
  refine aw_seq (aw_region hT ?_)
  refine aw_seq (aw_region hT ?_)
  refine aw_ret ?_
  exact retI 0 ⟨rfl, rfl⟩ rfl rfl rfl

def isFresh (now : Int) (x : M) : Bool := decide (IntKind.i64.wrap (x.tm + 50) ≥ now)

theorem memo_isFresh (x : M) (now : Int) : AF Try.prog 39 [x.av, .p (.box [.raw (.int .i64 now)])] [] (Pure (bl (isFresh now x)) []) := by
  refine af_body hT Try.func39 rfl rfl Try.ntmps39 rfl ?_
  refine aw_seq (aw_region hT ?_)
  refine aw_seq (aw_region hT ?_)
  refine aw_ret ?_
  exact retI 0 ⟨rfl, rfl⟩ rfl rfl rfl

theorem take_filter {α : Type} (l : List α) (g : α → Bool) (i : Nat) (x : α) (h : l[i]? = some x) : (l.take (i + 1)).filter g = (l.take i).filter g ++ (match g x with | true => [x] | false => []) := by
  rw [List.take_add_one, h, List.filter_append]
  cases hg : g x <;> simp [hg]

theorem mget {l : List M} {i : Nat} {x : M} (h : l[i]? = some x) : (l.map M.pv)[((i : Nat) : Int).toNat]? = some [.raw (.int .i64 x.id), .raw (.int .i64 x.tm), .raw (.int .i64 x.code), .raw (.int .i64 x.a)] := by
  rw [Int.toNat_natCast, List.getElem?_map, h]; rfl

theorem wrap_in (n : Int) (h0 : -9223372036854775808 ≤ n) (h : n ≤ 9223372036854775807) : IntKind.i64.wrap n = n := by
  rw [IntKind.wrap_i64]; omega

theorem memo_all (l : List M) (hl : l.length ≤ 1000) (fn : Nat) (c : PV) (g : M → Bool) (hg : ∀ x : M, AF Try.prog fn [x.av, .p c] [] (Pure (bl (g x)) [])) :
    AF Try.prog 38 [mem l, .clo (.func fn) [.p c]] [] (Pure (.msl 0 4 0 (l.filter g).length) [.row 24 4 ((l.filter g).map M.pv)]) := by
  refine af_body hT Try.func38 rfl rfl Try.ntmps38 rfl ?_
  refine aw_seq (aw_region hT ?_)
  refine aw_seq (aw_region hT ?_)
  refine aw_seq (aw_seq (aw_region hT ?_))
  refine aw_wk (Wk.trans (wk_phantom 24 4) (wk_nil 5 0 4 0 rfl)) ?_
  refine aw_block ?_
  refine aw_loopW (fun n s => ∃ (i : Nat) (j : Int) (k : Nat) (xs : List (List PV)), n + i = l.length ∧ j = i ∧ k = xs.length ∧ xs = ((l.take i).filter g).map M.pv ∧ s = ⟨⟨23, [(0, mem l), (1, .clo (.func fn) [.p c]), (5, .msl 0 4 0 k), (8, mem l), (9, i64 (l.map M.pv).length), (10, i64 j)]⟩, [.row 24 4 xs]⟩) l.length ⟨⟨23, _⟩, [_]⟩ (wk_trunc 1 [0, 1, 5, 8, 9, 10] rfl rfl rfl rfl) ⟨0, _, _, _, rfl, rfl, rfl, rfl, rfl⟩ ?_
  rintro n s ⟨i, j, k, xs, hn, rfl, rfl, hxs, rfl⟩
  have hxl : xs.length ≤ 1000 := by
    rw [hxs, List.length_map]
    exact Nat.le_trans (List.length_filter_le _ _) (by simp; omega)
  refine aw_seq (aw_region hT ?_)
  refine aw_seq (aw_cond (boolI (fun h => ?_) (fun h => ?_)))
  · refine aw_skip ?_
    have hi : i < l.length := by simpa using h
    have hx := List.getElem?_eq_getElem hi
    generalize l[i] = x at hx
    have ht := take_filter l g i x hx
    refine aw_seq (aw_block (aw_seq (aw_region hT ?_)))
    refine ⟨Int.natCast_nonneg _, optI (mget hx) ?_⟩
    refine aw_seq (aw_region hT ?_)
    refine callP (af_at (hg x) _ rfl rfl) ?_
    refine aw_cond (boolI (fun h2 => ?_) (fun h2 => ?_))
    · refine aw_region hT ?_
      refine ⟨rfl, ⟨by simp; omega, by simp; omega⟩, ?_⟩
      refine aw_region hT ?_
      refine ⟨l.length - (i + 1), by omega, _, wk_pick [3] [0, 1, 5, 8, 9, 10] rfl, i + 1, _, _, _, by omega, ?_, rfl, ?_, rfl⟩
      · rw [wrap_in _ (by omega) (by omega)]; rfl
      · rw [ht, h2, hxs]; simp [M.pv]; rfl
    · refine aw_skip ?_
      refine aw_region hT ?_
      refine ⟨l.length - (i + 1), by omega, _, wk_pick [0] [0, 1, 5, 8, 9, 10] rfl, i + 1, _, _, _, by omega, ?_, rfl, ?_, rfl⟩
      · rw [wrap_in _ (by omega) (by omega)]; rfl
      · rw [ht, h2, hxs]; simp
  · refine aw_exit ?_
    refine aw_seq (aw_region hT ?_)
    refine aw_ret ?_
    have hi : i = l.length := by
      have : ¬ i < l.length := by simpa using h
      omega
    subst hi
    rw [List.take_length] at hxs
    refine retPick [0] ⟨?_, ?_⟩ rfl
    · rw [hxs]; simp [AV.ren, inv]
    · rw [hxs]; rfl
end Go.Proofs.Ytdncagppilehgaa.AL
