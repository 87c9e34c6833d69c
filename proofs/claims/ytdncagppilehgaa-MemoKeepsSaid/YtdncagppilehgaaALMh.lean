/- The layer 20 (memo), what is fresh: the plain facts, and the walk. -/
import Derived.Test.YtdncagppilehgaaALMg
namespace Go.Proofs.Ytdncagppilehgaa.AL
open Go Go.Proofs

theorem mayP_filter {l : List M} (h : MayP l) (p : M → Bool) : MayP (l.filter p) := by
  obtain ⟨h1, h2, h3⟩ := h
  have hp : l.Pairwise (fun y x => y.id ≠ x.id ∧ y.tm ≤ x.tm) := by
    rw [List.pairwise_iff_getElem]
    intro i j hi hj hij
    exact h2 i j _ _ (List.getElem?_eq_getElem hi) (List.getElem?_eq_getElem hj) hij
  have hq := hp.filter p
  refine ⟨fun i x hx => ?_, fun k i y x hy hx hk => ?_, Nat.le_trans (List.length_filter_le _ _) h3⟩
  · have hm := List.mem_of_getElem? hx
    rw [List.mem_filter] at hm
    obtain ⟨j, hj⟩ := List.getElem?_of_mem hm.1
    exact h1 j x hj
  · rw [List.pairwise_iff_getElem] at hq
    obtain ⟨a1, a2⟩ := List.getElem?_eq_some_iff.1 hy
    obtain ⟨b1, b2⟩ := List.getElem?_eq_some_iff.1 hx
    have := hq k i a1 b1 hk
    rw [a2, b2] at this
    exact this

theorem may_fresh {l : List M} (h : may l = true) (now : Int) : may (fresh l now) = true := by
  rw [fresh, h]
  exact (may_iff _).2 (mayP_filter ((may_iff l).1 h) _)

theorem fresh_fresh {l : List M} (h : may l = true) (now : Int) : fresh (fresh l now) now = fresh l now := by
  have h1 := may_fresh h now
  rw [fresh, h1]
  show (fresh l now).filter (isFresh now) = fresh l now
  rw [fresh, h]
  show (l.filter _).filter _ = l.filter _
  rw [List.filter_filter]; simp

theorem mem_fresh {l : List M} (h : may l = true) {now : Int} {x : M} : x ∈ fresh l now ↔ x ∈ l ∧ x.tm + 50 ≥ now := by
  rw [fresh, h]
  show x ∈ l.filter (isFresh now) ↔ _
  rw [List.mem_filter]
  refine and_congr_right fun hx => ?_
  obtain ⟨i, hi⟩ := List.getElem?_of_mem hx
  have h1 := ((may_iff l).1 h).1 i x hi
  simp only [one, Bool.and_eq_true, decide_eq_true_eq] at h1
  rw [isFresh, wrap_in _ (by omega) (by omega), decide_eq_true_eq]

theorem fresh_early {l : List M} (h : may l = true) {now less : Int} (hn : -1000 ≤ now) (hn2 : now ≤ 2199023255552) (h0 : 0 ≤ less) (hl : less ≤ 1000) {x : M} (hx : x ∈ fresh l now) : x ∈ fresh l (IntKind.i64.wrap (now - less)) := by
  rw [wrap_in _ (by omega) (by omega)]
  rw [mem_fresh h] at hx ⊢
  exact ⟨hx.1, by omega⟩

theorem find_id {l : List M} {id now : Int} (h : (find l id now).2 = true) : (find l id now).1.id = id := by
  unfold find at h ⊢
  cases hr : ofId (fresh l now) id with
  | nil => rw [hr] at h; simp at h
  | cons x r =>
    have : x ∈ ofId (fresh l now) id := by rw [hr]; simp
    rw [ofId, List.mem_filter] at this
    simpa using this.2

theorem find_any (l : List M) (id now : Int) : (find l id now).2 = (fresh l now).any fun x => x.id == id := by
  rw [find_snd, Bool.eq_iff_iff, decide_eq_true_eq, List.any_eq_true]
  constructor
  · intro h
    obtain ⟨x, hx⟩ : ∃ x, x ∈ ofId (fresh l now) id := List.exists_mem_of_length_pos h
    rw [ofId, List.mem_filter] at hx
    exact ⟨x, hx⟩
  · rintro ⟨x, hx⟩
    have : x ∈ ofId (fresh l now) id := by rw [ofId, List.mem_filter]; exact hx
    exact List.length_pos_of_mem this

theorem take_any_succ {α : Type} {l : List α} {f : α → Bool} {k : Nat} {y : α} (hy : l[k]? = some y) : (l.take (k + 1)).any f = ((l.take k).any f || f y) := by
  rw [List.take_add_one, hy, List.any_append]; simp

theorem memo_freshLaw (l : List M) (id now less : Int) : AF Try.prog 5 [mem l, i64 id, i64 now, i64 less] [] (Pure (bl true) []) := by
  refine af_body hT Try.func5 rfl rfl Try.ntmps5 rfl ?_
  refine aw_seq (aw_region hT ?_)
  refine aw_seq (aw_region hT ?_)
  refine callP (af_at memo_awake _ rfl rfl) ?_
  refine aw_cut ⟨⟨123, [(0, mem l), (1, i64 id), (2, i64 now), (3, i64 less)]⟩, []⟩ (l.length ≤ 40 ∧ 0 ≤ less ∧ less ≤ 1000 ∧ -1000 ≤ now ∧ now ≤ 2199023255552 ∧ may l = true) (aw_seq (aw_region hT ?_)) (fun hC => ?_)
  · refine boolI (fun h => ?_) (fun h1 => ?_)
    · refine aw_cond ?_
      refine aw_seq (aw_region hT ?_)
      refine aw_ret ?_
      exact retPick [] ⟨rfl, rfl⟩ rfl
    have h1 : decide (((l.map M.pv).length : Int) > 40) = false := h1
    have hl : l.length ≤ 40 := by simp at h1; omega
    refine boolI (fun h => ?_) (fun h2 => ?_)
    · refine aw_cond ?_
      refine aw_seq (aw_region hT ?_)
      refine aw_ret ?_
      exact retPick [] ⟨rfl, rfl⟩ rfl
    have h2 : decide (less < 0) = false := h2
    refine boolI (fun h => ?_) (fun h3 => ?_)
    · refine aw_cond ?_
      refine aw_seq (aw_region hT ?_)
      refine aw_ret ?_
      exact retPick [] ⟨rfl, rfl⟩ rfl
    have h3 : decide (less > 1000) = false := h3
    refine boolI (fun h => ?_) (fun h4 => ?_)
    · refine aw_cond ?_
      refine aw_seq (aw_region hT ?_)
      refine aw_ret ?_
      exact retPick [] ⟨rfl, rfl⟩ rfl
    have h4 : decide (now < -1000) = false := h4
    refine boolI (fun h => ?_) (fun h5 => ?_)
    · refine aw_cond ?_
      refine aw_seq (aw_region hT ?_)
      refine aw_ret ?_
      exact retPick [] ⟨rfl, rfl⟩ rfl
    have h5 : decide (now > 2199023255552) = false := h5
    refine callP (af_at (memo_may l (by omega)) _ rfl rfl) ?_
    refine aw_cond (boolI (fun h => ?_) (fun h6 => ?_))
    · refine aw_seq (aw_region hT ?_)
      refine aw_ret ?_
      exact retPick [] ⟨rfl, rfl⟩ rfl
    have h6 : (!may l) = false := h6
    refine aw_skip ⟨wk_pick [] [0, 1, 2, 3] rfl, hl, ?_, ?_, ?_, ?_, by simpa using h6⟩
    · simpa using h2
    · simpa using h3
    · simpa using h4
    · simpa using h5
  · obtain ⟨hl, k0, k1, k2, k3, hm⟩ := hC
    have hal := fresh_len l now
    have c2 := memo_freshP (fresh l now) (by omega) now
    rw [fresh_fresh hm] at c2
    have hel := fresh_len l (IntKind.i64.wrap (now - less))
    have hsub : ∀ x ∈ fresh l now, x ∈ fresh l (IntKind.i64.wrap (now - less)) := fun x hx => fresh_early hm k2 k3 k0 k1 hx
    have hfi := fun h => find_id (l := l) (id := id) (now := now) h
    have hfa := find_any l id now
    refine aw_seq (aw_region hT ?_)
    refine callP (af_at (memo_freshP l (by omega) now) _ rfl rfl) ?_
    refine aw_seq (aw_region hT ?_)
    refine callP (af_at c2 _ rfl rfl) ?_
    refine aw_seq (aw_region hT ?_)
    refine callP (af_at (ref_same _ _ (by omega)) _ rfl rfl) ?_
    refine aw_seq (aw_region hT ?_)
    refine callP (af_at (memo_freshP l (by omega) (IntKind.i64.wrap (now - less))) _ rfl rfl) ?_
    refine aw_seq (aw_region hT ?_)
    refine callP (af_at (memo_find l (by omega) id now) _ rfl rfl) ?_
    generalize fresh l now = a at hal c2 hsub hfa ⊢
    generalize fresh l (IntKind.i64.wrap (now - less)) = early at hel hsub ⊢
    generalize find l id now = fi at hfi hfa ⊢
    obtain ⟨x, is⟩ := fi
    refine aw_seq (aw_region hT ?_)
    refine aw_cut ⟨⟨123, [(1, i64 id), (12, bl (decide (a = a))), (14, .ref 0 0), (15, bl is), (16, bl (a.any fun x => x.id == id))]⟩, [.cells 24 [i64 x.id, i64 x.tm, i64 x.code, i64 x.a]]⟩ True (aw_seq (aw_region hT ?_)) (fun _ => ?_)
    · refine aw_block ?_
      refine aw_loopW (fun n s => ∃ (i : Nat) (j : Int) (b : Bool), n + i = a.length ∧ j = i ∧ b = ((a.take i).any fun x => x.id == id) ∧
        s = ⟨⟨123, [(1, i64 id), (10, mem a), (12, bl (decide (a = a))), (13, mem early), (14, .ref 0 0), (15, bl is), (16, bl b), (17, i64 j)]⟩, [.cells 24 [i64 x.id, i64 x.tm, i64 x.code, i64 x.a]]⟩) a.length ⟨⟨123, _⟩, [_]⟩ (wk_pick [0] [1, 10, 12, 13, 14, 15, 16, 17] rfl) ⟨0, _, _, rfl, rfl, rfl, rfl⟩ ?_
      rintro n s ⟨i, j, b, hn, rfl, hb, rfl⟩
      refine aw_seq (aw_seq (aw_region hT ?_))
      refine aw_cond (boolI (fun h => ?_) (fun h => ?_))
      · have hi : i < a.length := by simpa using h
        have hx := List.getElem?_eq_getElem hi
        generalize a[i] = y at hx
        have hy : y ∈ early := hsub y (List.mem_of_getElem? hx)
        have ht := take_any_succ (f := fun x => x.id == id) hx
        refine aw_skip ?_
        refine aw_seq (aw_block ?_)
        refine aw_cut ⟨⟨123, [(1, i64 id), (10, mem a), (12, bl (decide (a = a))), (13, mem early), (14, .ref 0 0), (15, bl is), (16, bl ((a.take (i + 1)).any fun x => x.id == id)), (17, i64 i)]⟩, [.cells 24 [i64 x.id, i64 x.tm, i64 x.code, i64 x.a]]⟩ True (aw_region hT ?_) (fun _ => ?_)
        · refine boolI (fun h1 => ?_) (fun h1 => ?_)
          · have e : ((a.take (i + 1)).any fun x => x.id == id) = true := by rw [ht, ← hb, h1]; rfl
            rw [e]
            exact ⟨wk_pick [0] [1, 10, 12, 13, 14, 15, 16, 17] rfl, trivial⟩
          · refine ⟨Int.natCast_nonneg _, optI (mget hx) ?_⟩
            have e : ((a.take (i + 1)).any fun x => x.id == id) = (y.id == id) := by rw [ht, ← hb, h1]; rfl
            rw [e]
            exact ⟨wk_pick [0] [1, 10, 12, 13, 14, 15, 16, 17] rfl, trivial⟩
        · refine aw_seq (aw_region hT ?_)
          refine aw_seq (aw_seq (aw_region hT ?_))
          refine aw_block ?_
          refine aw_loopW (fun n s => ∃ (k : Nat) (q : Int) (w : Bool), n + k = early.length ∧ q = k ∧ w = ((early.take k).any fun z => decide (z = y)) ∧
            s = ⟨⟨123, [(1, i64 id), (10, mem a), (12, bl (decide (a = a))), (13, mem early), (14, .ref 0 0), (15, bl is), (16, bl ((a.take (i + 1)).any fun x => x.id == id)), (17, i64 i), (18, bl w), (19, i64 q)]⟩, [.cells 24 [i64 x.id, i64 x.tm, i64 x.code, i64 x.a]]⟩) early.length ⟨⟨123, _⟩, [_]⟩ (wk_pick [0] [1, 10, 12, 13, 14, 15, 16, 17, 18, 19] rfl) ⟨0, _, _, rfl, rfl, rfl, rfl⟩ ?_
          rintro n2 s2 ⟨k, q, w, hn2, rfl, hw, rfl⟩
          refine aw_seq (aw_seq (aw_region hT ?_))
          refine aw_cond (boolI (fun h2 => ?_) (fun h2 => ?_))
          · have hk : k < early.length := by simpa using h2
            have hz := List.getElem?_eq_getElem hk
            generalize early[k] = z at hz
            have hs := take_any_succ (f := fun z => decide (z = y)) hz
            refine aw_skip ?_
            refine aw_cut ⟨⟨123, [(1, i64 id), (10, mem a), (12, bl (decide (a = a))), (13, mem early), (14, .ref 0 0), (15, bl is), (16, bl ((a.take (i + 1)).any fun x => x.id == id)), (17, i64 i), (18, bl ((early.take (k + 1)).any fun z => decide (z = y))), (19, i64 k)]⟩, [.cells 24 [i64 x.id, i64 x.tm, i64 x.code, i64 x.a]]⟩ True (aw_block (aw_quiet hT follows_mixed (by rfl) ?_)) (fun _ => ?_)
            · refine boolI (fun h3 => ?_) (fun h3 => ?_)
              · have e : ((early.take (k + 1)).any fun z => decide (z = y)) = true := by rw [hs, ← hw, h3]; rfl
                rw [e]
                exact ⟨wk_pick [0] [1, 10, 12, 13, 14, 15, 16, 17, 18, 19] rfl, trivial⟩
              · refine ⟨Int.natCast_nonneg _, optI (mget hz) ?_⟩
                refine ⟨Int.natCast_nonneg _, optI (mget hx) ?_⟩
                refine ⟨_, (memo_eq z y _ _).1, rfl, ?_⟩
                have e : ((early.take (k + 1)).any fun z => decide (z = y)) = decide (z = y) := by rw [hs, ← hw, h3]; rfl
                rw [e]
                exact ⟨wk_pick [0] [1, 10, 12, 13, 14, 15, 16, 17, 18, 19] rfl, trivial⟩
            · refine aw_region hT ?_
              refine ⟨early.length - (k + 1), by omega, _, wk_pick [0] [1, 10, 12, 13, 14, 15, 16, 17, 18, 19] rfl, k + 1, _, _, by omega, ?_, rfl, rfl⟩
              rw [wrap_in _ (by omega) (by omega)]; rfl
          · refine aw_exit ?_
            have hk : k = early.length := by
              have : ¬ k < early.length := by simpa using h2
              omega
            have hw2 : w = true := by
              rw [hw, hk, List.take_length, List.any_eq_true]
              exact ⟨y, hy, by simp⟩
            subst hw2
            refine aw_seq (aw_region hT ?_)
            refine aw_cond (aw_skip ?_)
            refine aw_region hT ?_
            refine ⟨a.length - (i + 1), by omega, _, wk_pick [0] [1, 10, 12, 13, 14, 15, 16, 17] rfl, i + 1, _, _, by omega, ?_, rfl, rfl⟩
            rw [wrap_in _ (by omega) (by omega)]; rfl
      · refine aw_exit ?_
        have hi : i = a.length := by
          have : ¬ i < a.length := by simpa using h
          omega
        have e : b = (a.any fun x => x.id == id) := by rw [hb, hi, List.take_length]
        subst e
        exact ⟨wk_pick [0] [1, 12, 14, 15, 16] rfl, trivial⟩
    · refine aw_seq (aw_region hT ?_)
      have hfa : is = (a.any fun x => x.id == id) := hfa
      rw [← hfa]
      refine boolI (fun h1 => ?_) (fun h1 => absurd h1 (by simp))
      refine boolI (fun h2 => ?_) (fun h2 => absurd (show (is == is) = false from h2) (by simp))
      refine boolI (fun h3 => ?_) (fun h3 => ?_)
      · refine aw_ret ?_
        exact retPick [] ⟨rfl, rfl⟩ rfl
      · refine aw_ret ?_
        refine retPick [] ⟨?_, rfl⟩ rfl
        have h3 : (!is) = false := h3
        have hid : x.id = id := hfi (by simpa using h3)
        show bl (x.id == id) = bl true
        rw [hid, beq_self_eq_true]
end Go.Proofs.Ytdncagppilehgaa.AL
