/- The layer 20 (memo): two lists are compared; what is put. -/
import Derived.Test.YtdncagppilehgaaALMd
import Derived.Test.YtdncagppilehgaaALr
import Derived.Test.YtdncagppilehgaaALs
namespace Go.Proofs.Ytdncagppilehgaa.AL
open Go Go.Proofs

def M.vs (x : M) : Array Value := #[.int .i64 x.id, .int .i64 x.tm, .int .i64 x.code, .int .i64 x.a]

theorem memo_eq (x y : M) (xo yo : Operand) : (∀ w, (binG .eql 24 xo yo (.agg x.vs) (.agg y.vs)).run Try.prog w = .ok (.bool (decide (x = y))) w) ∧ (∀ w, (binG .neq 24 xo yo (.agg x.vs) (.agg y.vs)).run Try.prog w = .ok (.bool !(decide (x = y))) w) := by
  obtain ⟨r, h1, h2, h3⟩ := bin_agg (P := Try.prog) (t := 24) (xo := xo) (yo := yo) (vs := x.vs) (vs' := y.vs) (by kernel_rfl) (by kernel_rfl) (by kernel_rfl) (by rfl)
  have e : r = decide (x = y) := by
    rw [Bool.eq_iff_iff, h3, decide_eq_true_eq]
    show (_ ∧ _ ∧ _ ∧ _ ∧ True) ↔ _
    cases x; cases y
    simp [M.vs]
  subst e
  exact ⟨h1, h2⟩

theorem take_succ_eq {α : Type} {a b : List α} {i : Nat} {x y : α} (h : a.take i = b.take i) (hx : a[i]? = some x) (hy : b[i]? = some y) (e : x = y) : a.take (i + 1) = b.take (i + 1) := by
  rw [List.take_add_one, List.take_add_one, h, hx, hy, e]

theorem ref_same (a b : List M) (ha : a.length ≤ 1000) : AF Try.prog 13 [mem a, mem b] [] (Pure (bl (decide (a = b))) []) := by
  refine af_body hT Try.func13 rfl rfl Try.ntmps13 rfl ?_
  refine aw_seq (aw_region hT ?_)
  refine aw_seq (aw_seq (aw_region hT ?_))
  refine aw_cond (boolI (fun h => ?_) (fun h => ?_))
  · refine aw_seq (aw_region hT ?_)
    refine aw_ret ?_
    refine retPick [] ⟨?_, rfl⟩ rfl
    have h : ((((a.map M.pv).length : Int)) != ((b.map M.pv).length : Int)) = true := h
    have : ¬ a = b := fun e => by subst e; simp at h
    rw [decide_eq_false this]; rfl
  · have hlen : a.length = b.length := by
      have h : ((((a.map M.pv).length : Int)) != ((b.map M.pv).length : Int)) = false := h
      simp at h; omega
    refine aw_skip ?_
    refine aw_seq (aw_seq (aw_region hT ?_))
    refine aw_block ?_
    refine aw_loopW (fun n s => ∃ (i : Nat) (j : Int), n + i = a.length ∧ j = i ∧ a.take i = b.take i ∧ s = ⟨⟨26, [(0, mem a), (1, mem b), (5, i64 j)]⟩, []⟩) a.length ⟨⟨26, _⟩, []⟩ (wk_pick [] [0, 1, 5] rfl) ⟨0, _, rfl, rfl, rfl, rfl⟩ ?_
    rintro n s ⟨i, j, hn, rfl, hs, rfl⟩
    refine aw_seq (aw_seq (aw_region hT ?_))
    refine aw_cond (boolI (fun h => ?_) (fun h => ?_))
    · have hi : i < a.length := by simpa using h
      have hx := List.getElem?_eq_getElem hi
      have hy := List.getElem?_eq_getElem (l := b) (i := i) (by omega)
      generalize a[i] = x at hx
      generalize b[i] = y at hy
      refine aw_skip ?_
      refine aw_seq (aw_block (aw_seq (aw_quiet hT follows_mixed (by rfl) ?_)))
      refine ⟨Int.natCast_nonneg _, optI (mget hx) ?_⟩
      refine ⟨Int.natCast_nonneg _, optI (mget hy) ?_⟩
      refine ⟨_, (memo_eq x y _ _).2, rfl, ?_⟩
      refine aw_cond (boolI (fun h2 => ?_) (fun h2 => ?_))
      · refine aw_seq (aw_region hT ?_)
        refine aw_ret ?_
        refine retPick [] ⟨?_, rfl⟩ rfl
        have h2 : ¬ x = y := by simpa using h2
        have : ¬ a = b := fun e => by subst e; rw [hx] at hy; exact h2 (Option.some.inj hy)
        rw [decide_eq_false this]; rfl
      · refine aw_skip ?_
        refine aw_region hT ?_
        have h2 : x = y := by simpa using h2
        refine ⟨a.length - (i + 1), by omega, _, wk_pick [] [0, 1, 5] rfl, i + 1, _, by omega, ?_, ?_, rfl⟩
        · rw [wrap_in _ (by omega) (by omega)]; rfl
        · exact take_succ_eq hs hx hy h2
    · refine aw_exit ?_
      refine aw_seq (aw_region hT ?_)
      refine aw_ret ?_
      refine retPick [] ⟨?_, rfl⟩ rfl
      have hi : i = a.length := by
        have : ¬ i < a.length := by simpa using h
        omega
      have : a = b := by
        rw [hi, List.take_length, hlen, List.take_length] at hs; exact hs
      rw [decide_eq_true this]; rfl

def lastTm (l : List M) : Int := ((l[l.length - 1]?).map M.tm).getD 0
def bad (l : List M) (x : M) : Bool := (!(may l) || !(one x)) || (decide (0 < l.length) && decide (x.tm < lastTm l))
def put (l : List M) (x : M) : List M × Int :=
  match bad l x with
  | true => ([], 1)
  | false => match decide (0 < (ofId (fresh l x.tm) x.id).length) with
    | true => ([], 5)
    | false => match decide ((fresh l x.tm).length = 16) with
      | true => ([], 4)
      | false => (fresh l x.tm ++ [x], 0)

theorem flat_mem (l : List M) (t sz : Nat) : flatK (.row t sz (l.map M.pv)) := by
  intro e he u hu
  obtain ⟨x, _, rfl⟩ := List.mem_map.1 he
  simp only [M.pv, List.mem_cons, List.not_mem_nil, or_false] at hu
  rcases hu with rfl | rfl | rfl | rfl <;> trivial

theorem memo_ofN (l : List M) (hl : l.length ≤ 1000) (id : Int) : AF Try.prog 36 [mem l, i64 id] [] (Pure (.msl 0 4 0 (ofId l id).length) [.row 24 4 ((ofId l id).map M.pv)]) := by
  refine af_body hT Try.func36 rfl rfl Try.ntmps36 rfl ?_
  refine aw_seq (aw_region hT ?_)
  refine aw_wk (wk_boxL 0 [.raw (.int .i64 id)] rfl rfl) ?_
  refine aw_seq (aw_region hT ?_)
  refine callP (af_lift (memo_all l hl 52 _ _ (fun x => memo_is x id)) _ rfl) ?_
  refine aw_ret ?_
  exact retPick [1] ⟨rfl, rfl⟩ rfl

theorem memo_put (l : List M) (hl : l.length ≤ 900) (x : M) : AF Try.prog 11 [mem l, x.av] [] (Pure (.tup [.msl 0 4 0 (put l x).1.length, i64 (put l x).2]) [.row 24 4 ((put l x).1.map M.pv)]) := by
  have hl' : l.length ≤ 1000 := by omega
  have hfl := Nat.le_trans (fresh_len l x.tm) hl
  refine af_body hT Try.func11 rfl rfl Try.ntmps11 rfl ?_
  refine aw_seq (aw_region hT ?_)
  have key : bad l x = true → (put l x) = ([], 1) := fun h => by rw [put, h]
  refine aw_cut ⟨⟨51, [(0, mem l), (3, .ref 0 0)]⟩, [.cells 24 [i64 x.id, i64 x.tm, i64 x.code, i64 x.a]]⟩ (bad l x = false) (aw_seq (aw_quiet hT follows_mixed (by rfl) ?_)) (fun hb => ?_)
  · refine ⟨_, af_at (memo_may l hl') _ rfl rfl, ?_⟩
    refine boolI (fun h1 => ?_) (fun h1 => ?_)
    · refine aw_cond ?_
      refine aw_seq (aw_region hT ?_)
      refine aw_ret ?_
      have hbad : bad l x = true := by rw [bad, h1]; rfl
      refine retNilT 24 4 rfl ?_
      rw [key hbad]
      exact ⟨rfl, rfl⟩
    · refine ⟨_, af_at (memo_one x) _ rfl rfl, ?_⟩
      refine boolI (fun h2 => ?_) (fun h2 => ?_)
      · refine aw_cond ?_
        refine aw_seq (aw_region hT ?_)
        refine aw_ret ?_
        have h2 : (!one x) = true := h2
        have hbad : bad l x = true := by rw [bad, h1, h2]; rfl
        refine retNilT 24 4 rfl ?_
        rw [key hbad]
        exact ⟨rfl, rfl⟩
      · have h2 : (!one x) = false := h2
        refine boolI (fun h3 => ?_) (fun h3 => ?_)
        · have h3 : 0 < l.length := by simpa using h3
          have hy := List.getElem?_eq_getElem (l := l) (i := l.length - 1) (by omega)
          generalize l[l.length - 1] = y at hy
          have hw : IntKind.i64.wrap (((l.map M.pv).length : Int) - 1) = ((l.length - 1 : Nat) : Int) := by rw [wrap_in _ (by omega) (by simp; omega)]; simp; omega
          refine ⟨(show 0 ≤ IntKind.i64.wrap (((l.map M.pv).length : Int) - 1) by rw [hw]; exact Int.natCast_nonneg _), optI (show (l.map M.pv)[(IntKind.i64.wrap (((l.map M.pv).length : Int) - 1)).toNat]? = _ by rw [hw]; exact mget hy) ?_⟩
          have hlast : lastTm l = y.tm := by rw [lastTm, hy]; rfl
          refine aw_cond (boolI (fun h4 => ?_) (fun h4 => ?_))
          · refine aw_seq (aw_region hT ?_)
            refine aw_ret ?_
            have h4 : decide (x.tm < y.tm) = true := h4
            have hbad : bad l x = true := by rw [bad, h1, h2, hlast, h4, decide_eq_true h3]; rfl
            refine retNilT 24 4 rfl ?_
            rw [key hbad]
            exact ⟨rfl, rfl⟩
          · refine aw_skip ⟨wk_pick [0] [0, 3] rfl, ?_⟩
            have h4 : decide (x.tm < y.tm) = false := h4
            rw [bad, h1, h2, hlast, h4]; simp
        · refine aw_cond (aw_skip ⟨wk_pick [0] [0, 3] rfl, ?_⟩)
          have h3 : l = [] := by simpa using h3
          rw [bad, h1, h2, h3]; rfl
  · have hput : put l x = (match decide (0 < (ofId (fresh l x.tm) x.id).length) with
      | true => ([], 5)
      | false => match decide ((fresh l x.tm).length = 16) with
        | true => ([], 4)
        | false => (fresh l x.tm ++ [x], 0)) := by rw [put, hb]
    refine aw_seq (aw_region hT ?_)
    refine callP (af_lift (memo_fresh l hl' x.tm) _ rfl) ?_
    generalize fresh l x.tm = fr at hfl hput ⊢
    refine aw_cut ⟨⟨51, [(3, .ref 0 0), (6, .msl 1 4 0 fr.length)]⟩, [.cells 24 [i64 x.id, i64 x.tm, i64 x.code, i64 x.a], .row 24 4 (fr.map M.pv)]⟩ (put l x = (fr ++ [x], 0)) (aw_block (aw_seq (aw_region hT ?_))) (fun hp => ?_)
    · refine callP (af_lent (memo_ofN fr (by omega) x.id) 1 rfl ⟨.inr (.inl ⟨by simp, rfl⟩), .inl ⟨rfl, rfl⟩, trivial⟩ rfl (by intro k hk; simp at hk; subst hk; exact flat_mem _ _ _)) ?_
      refine aw_cond (boolI (fun h1 => ?_) (fun h1 => ?_))
      · refine aw_seq (aw_region hT ?_)
        refine aw_ret ?_
        refine retNilT 24 4 rfl ?_
        have h1 : decide (0 < (ofId fr x.id).length) = true := by simpa using h1
        rw [hput, h1]
        exact ⟨rfl, rfl⟩
      · have h1 : decide (0 < (ofId fr x.id).length) = false := by simpa using h1
        refine aw_seq (aw_region hT ?_)
        refine aw_cond (boolI (fun h2 => ?_) (fun h2 => ?_))
        · refine aw_seq (aw_region hT ?_)
          refine aw_ret ?_
          refine retNilT 24 4 rfl ?_
          have h2 : decide (fr.length = 16) = true := by
            have h2 : ((fr.length : Int) == 16) = true := h2
            simp at h2 ⊢; omega
          rw [hput, h1, h2]
          exact ⟨rfl, rfl⟩
        · refine aw_skip ⟨wk_pick [0, 1] [3, 6] rfl, ?_⟩
          have h2 : decide (fr.length = 16) = false := by
            have h2 : ((fr.length : Int) == 16) = false := h2
            simp at h2 ⊢; omega
          rw [hput, h1, h2]
    · refine aw_seq (aw_region hT ?_)
      refine ⟨by simp, ⟨by simp; omega, by simp; omega⟩, ?_⟩
      refine aw_ret ?_
      refine retPick [3] ⟨?_, ?_⟩ rfl
      · rw [hp]; simp [AV.ren, renL, inv]; rfl
      · rw [hp]; simp [M.pv]; rfl
end Go.Proofs.Ytdncagppilehgaa.AL
