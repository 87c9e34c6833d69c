/- The layer 20 (memo), the document's answer, on. -/
import Derived.Test.YtdncagppilehgaaALMc
namespace Go.Proofs.Ytdncagppilehgaa.AL
open Go Go.Proofs

def rfresh (l : List M) (now : Int) : List M := match rmay l with
  | true => l.filter (isFresh now)
  | false => []

theorem ref_fresh (l : List M) (hl : l.length ≤ 1000) (now : Int) : AF Try.prog 17 [mem l, i64 now] [] (Pure (.msl 0 4 0 (rfresh l now).length) [.row 24 4 ((rfresh l now).map M.pv)]) := by
  refine af_body hT Try.func17 rfl rfl Try.ntmps17 rfl ?_
  refine aw_seq (aw_region hT ?_)
  refine aw_seq (aw_region hT ?_)
  refine callP (af_at (ref_may l hl) _ rfl rfl) ?_
  refine aw_seq (aw_region hT ?_)
  refine aw_seq (aw_seq (aw_region hT ?_))
  refine aw_wk (Wk.trans (wk_phantom 24 4) (wk_nil 6 0 4 0 rfl)) ?_
  refine aw_block ?_
  refine aw_loopW (fun n s => ∃ (i : Nat) (j : Int) (k : Nat) (xs : List (List PV)), n + i = l.length ∧ j = i ∧ k = xs.length ∧ xs = ((l.take i).filter (isFresh now)).map M.pv ∧ (rmay l = false → i = 0) ∧ s = ⟨⟨35, [(0, mem l), (1, i64 now), (5, bl (rmay l)), (6, .msl 0 4 0 k), (7, i64 j)]⟩, [.row 24 4 xs]⟩) l.length ⟨⟨35, _⟩, [_]⟩ (wk_pick [0] [0, 1, 5, 6, 7] rfl) ⟨0, _, _, _, rfl, rfl, rfl, rfl, fun _ => rfl, rfl⟩ ?_
  rintro n s ⟨i, j, k, xs, hn, rfl, rfl, hxs, hm, rfl⟩
  have hxl : xs.length ≤ 1000 := by
    rw [hxs, List.length_map]
    exact Nat.le_trans (List.length_filter_le _ _) (by simp; omega)
  refine aw_seq (aw_seq (aw_region hT ?_))
  have hfin : (i = l.length ∨ rmay l = false) → xs = (rfresh l now).map M.pv := by
    rintro (h | h)
    · subst h
      rw [List.take_length] at hxs
      cases hb : rmay l with
      | true => rw [rfresh, hb]; exact hxs
      | false => have := hm hb; rw [rfresh, hb, hxs, List.length_eq_zero_iff.1 this]; rfl
    · rw [rfresh, h, hxs, hm h]; rfl
  refine boolI (fun h => ?_) (fun h => ?_)
  · have hi : i < l.length := by simpa using h
    have hx := List.getElem?_eq_getElem hi
    generalize l[i] = x at hx
    have ht := take_filter l (isFresh now) i x hx
    refine aw_cond (boolI (fun hb => ?_) (fun hb => ?_))
    · refine aw_skip ?_
      have hb : rmay l = true := hb
      refine aw_seq (aw_block (aw_seq (aw_region hT ?_)))
      refine ⟨Int.natCast_nonneg _, optI (mget hx) ?_⟩
      refine aw_cond (boolI (fun h2 => ?_) (fun h2 => ?_))
      · refine aw_region hT ?_
        refine ⟨Int.natCast_nonneg _, optI (mget hx) ?_⟩
        refine ⟨rfl, ⟨by simp; omega, by simp; omega⟩, ?_⟩
        refine aw_region hT ?_
        have h2 : isFresh now x = true := h2
        refine ⟨l.length - (i + 1), by omega, _, wk_pick [2] [0, 1, 5, 6, 7] rfl, i + 1, _, _, _, by omega, ?_, rfl, ?_, fun h => absurd (hb.symm.trans h) (by simp), rfl⟩
        · rw [wrap_in _ (by omega) (by omega)]; rfl
        · rw [ht, h2, hxs]; simp [M.pv]; rfl
      · refine aw_skip ?_
        refine aw_region hT ?_
        have h2 : isFresh now x = false := h2
        refine ⟨l.length - (i + 1), by omega, _, wk_pick [0] [0, 1, 5, 6, 7] rfl, i + 1, _, _, _, by omega, ?_, rfl, ?_, fun h => absurd (hb.symm.trans h) (by simp), rfl⟩
        · rw [wrap_in _ (by omega) (by omega)]; rfl
        · rw [ht, h2, hxs]; simp
    · refine aw_exit ?_
      refine aw_seq (aw_region hT ?_)
      refine aw_ret ?_
      have hxs := hfin (.inr hb)
      refine retPick [0] ⟨?_, ?_⟩ rfl
      · rw [hxs]; simp [AV.ren, inv]
      · rw [hxs]; rfl
  · refine aw_cond ?_
    refine aw_exit ?_
    refine aw_seq (aw_region hT ?_)
    refine aw_ret ?_
    have hxs := hfin (.inl (by
      have : ¬ i < l.length := by simpa using h
      omega))
    refine retPick [0] ⟨?_, ?_⟩ rfl
    · rw [hxs]; simp [AV.ren, inv]
    · rw [hxs]; rfl

theorem ref_freshP (l : List M) (hl : l.length ≤ 1000) (now : Int) : AF Try.prog 17 [mem l, i64 now] [] (Pure (mem (rfresh l now)) []) :=
  af_frz (ref_fresh l hl now) (by simp)

def firstId (l : List M) (id : Int) : M × Bool := match l.find? (fun x => x.id == id) with
  | none => (⟨0, 0, 0, 0⟩, false)
  | some x => (x, true)
def rfind (l : List M) (id now : Int) : M × Bool := firstId (rfresh l now) id

theorem find_take_succ {α : Type} {l : List α} {f : α → Bool} {k : Nat} {y : α} (hy : l[k]? = some y) (h : (l.take k).find? f = none) : (l.take (k + 1)).find? f = (match f y with | true => some y | false => none) := by
  rw [List.take_add_one, hy, List.find?_append, h]
  cases hf : f y <;> simp [hf]

theorem find_take_some {α : Type} {l : List α} {f : α → Bool} {k : Nat} {y : α} (hy : l[k]? = some y) (h : (l.take k).find? f = none) (hf : f y = true) : l.find? f = some y := by
  have h1 := find_take_succ hy h
  rw [hf] at h1
  rw [← List.take_append_drop (k + 1) l, List.find?_append, h1]; rfl

theorem ref_find (l : List M) (hl : l.length ≤ 1000) (id now : Int) : AF Try.prog 15 [mem l, i64 id, i64 now] [] (Pure (.tup [(rfind l id now).1.av, bl (rfind l id now).2]) []) := by
  refine af_body hT Try.func15 rfl rfl Try.ntmps15 rfl ?_
  refine aw_seq (aw_region hT ?_)
  refine aw_seq (aw_region hT ?_)
  refine callP (af_at (ref_freshP l hl now) _ rfl rfl) ?_
  have hr : (rfresh l now).length ≤ 1000 := by
    unfold rfresh
    split
    · exact Nat.le_trans (List.length_filter_le _ _) hl
    · exact Nat.zero_le _
  unfold rfind
  generalize rfresh l now = r at hr ⊢
  refine aw_seq (aw_seq (aw_region hT ?_))
  refine aw_block ?_
  refine aw_loopW (fun n s => ∃ (i : Nat) (j : Int), n + i = r.length ∧ j = i ∧ (r.take i).find? (fun x => x.id == id) = none ∧ s = ⟨⟨31, [(1, i64 id), (6, .ref 0 0), (7, bl false), (8, mem r), (9, i64 j)]⟩, [.cells 24 [i64 0, i64 0, i64 0, i64 0]]⟩) r.length ⟨⟨31, _⟩, [_]⟩ (wk_pick [0] [1, 6, 7, 8, 9] rfl) ⟨0, _, rfl, rfl, rfl, rfl⟩ ?_
  rintro n s ⟨i, j, hn, rfl, hs, rfl⟩
  refine aw_seq (aw_seq (aw_region hT ?_))
  refine aw_cond (boolI (fun h => ?_) (fun h => ?_))
  · have hi : i < r.length := by simpa using h
    have hx := List.getElem?_eq_getElem hi
    generalize r[i] = x at hx
    refine aw_skip ?_
    refine aw_seq (aw_block (aw_seq (aw_region hT ?_)))
    refine ⟨Int.natCast_nonneg _, optI (mget hx) ?_⟩
    refine aw_cond (boolI (fun h2 => ?_) (fun h2 => ?_))
    · refine aw_seq (aw_region hT ?_)
      refine ⟨Int.natCast_nonneg _, optI (mget hx) ?_⟩
      refine aw_ret ?_
      refine retPick [] ⟨?_, rfl⟩ rfl
      rw [firstId, find_take_some hx hs h2]; rfl
    · refine aw_skip ?_
      refine aw_region hT ?_
      have h2 : (x.id == id) = false := h2
      refine ⟨r.length - (i + 1), by omega, _, wk_pick [0] [1, 6, 7, 8, 9] rfl, i + 1, _, by omega, ?_, ?_, rfl⟩
      · rw [wrap_in _ (by omega) (by omega)]; rfl
      · rw [find_take_succ hx hs, h2]
  · refine aw_exit ?_
    refine aw_seq (aw_region hT ?_)
    refine aw_ret ?_
    refine retPick [] ⟨?_, rfl⟩ rfl
    have hi : i = r.length := by
      have : ¬ i < r.length := by simpa using h
      omega
    subst hi
    rw [List.take_length] at hs
    rw [firstId, hs]; rfl
end Go.Proofs.Ytdncagppilehgaa.AL
