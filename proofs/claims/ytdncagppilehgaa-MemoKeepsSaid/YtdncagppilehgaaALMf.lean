/- The layer 20 (memo), the plain law: both say the same. -/
import Derived.Test.YtdncagppilehgaaALMe
namespace Go.Proofs.Ytdncagppilehgaa.AL
open Go Go.Proofs

def MayP (l : List M) : Prop := (∀ (i : Nat) (x : M), l[i]? = some x → one x = true) ∧ (∀ (k i : Nat) (y x : M), l[k]? = some y → l[i]? = some x → k < i → y.id ≠ x.id ∧ y.tm ≤ x.tm) ∧ l.length ≤ 16

theorem all_range {n : Nat} {f : Nat → Bool} : (List.range n).all f = true ↔ ∀ i, i < n → f i = true := by
  rw [List.all_eq_true]; simp

theorem all_take {α : Type} {l : List α} {i : Nat} {f : α → Bool} : (l.take i).all f = true ↔ ∀ (k : Nat) (y : α), l[k]? = some y → k < i → f y = true := by
  rw [List.all_eq_true]
  constructor
  · intro h k y hy hk
    exact h y (List.mem_of_getElem? (i := k) (by rw [List.getElem?_take_of_lt hk]; exact hy))
  · intro h y hy
    obtain ⟨k, hk⟩ := List.getElem?_of_mem hy
    have hki : k < i := by have := (List.getElem?_eq_some_iff.1 hk).1; simp at this; omega
    rw [List.getElem?_take_of_lt hki] at hk
    exact h k y hk hki

theorem rmay_iff (l : List M) : rmay l = true ↔ MayP l := by
  rw [rmay, Bool.and_eq_true, all_range, decide_eq_true_eq]
  constructor
  · rintro ⟨h, hl⟩
    refine ⟨fun i x hx => ?_, fun k i y x hy hx hk => ?_, hl⟩
    · have := h i (List.getElem?_eq_some_iff.1 hx).1
      rw [rstep_some hx, Bool.and_eq_true] at this; exact this.1
    · have := h i (List.getElem?_eq_some_iff.1 hx).1
      rw [rstep_some hx, Bool.and_eq_true, all_take] at this
      have := this.2 k y hy hk
      simp [okB] at this
      exact this
  · rintro ⟨h1, h2, hl⟩
    refine ⟨fun i hi => ?_, hl⟩
    have hx := List.getElem?_eq_getElem hi
    generalize l[i] = x at hx
    rw [rstep_some hx, h1 i x hx, Bool.true_and, all_take]
    intro k y hy hk
    have := h2 k i y x hy hx hk
    simp [okB, this]

theorem ofId_none {l : List M} {id : Int} : (ofId l id).length = 0 ↔ ∀ y ∈ l, y.id ≠ id := by
  rw [List.length_eq_zero_iff, ofId, List.filter_eq_nil_iff]; simp

theorem step_iff {l : List M} {i : Nat} {x : M} (hx : l[i]? = some x) : step l i = true ↔ one x = true ∧ (∀ y : M, 0 < i → l[i-1]? = some y → y.tm ≤ x.tm) ∧ (∀ (k : Nat) (y : M), l[k]? = some y → k < i → y.id ≠ x.id) := by
  rw [step_some hx, Bool.and_eq_true, Bool.and_eq_true, and_assoc]
  refine and_congr Iff.rfl (and_congr ?_ ?_)
  · have hi := (List.getElem?_eq_some_iff.1 hx).1
    have hy := List.getElem?_eq_getElem (l := l) (i := i - 1) (by omega)
    generalize l[i-1] = y at hy
    rw [hy]
    simp
    omega
  · have : (!decide (0 < (ofId (l.take i) x.id).length)) = true ↔ (ofId (l.take i) x.id).length = 0 := by simp
    rw [this, ofId_none]
    constructor
    · intro h k y hy hk
      exact h y (List.mem_of_getElem? (i := k) (by rw [List.getElem?_take_of_lt hk]; exact hy))
    · intro h y hy
      obtain ⟨k, hk⟩ := List.getElem?_of_mem hy
      have hki : k < i := by have := (List.getElem?_eq_some_iff.1 hk).1; simp at this; omega
      rw [List.getElem?_take_of_lt hki] at hk
      exact h k y hk hki

theorem may_iff (l : List M) : may l = true ↔ MayP l := by
  rw [may, Bool.and_eq_true, all_range, decide_eq_true_eq]
  constructor
  · rintro ⟨h, hl⟩
    have hs : ∀ (i : Nat) (x : M), l[i]? = some x → one x = true ∧ (∀ y : M, 0 < i → l[i-1]? = some y → y.tm ≤ x.tm) ∧ (∀ (k : Nat) (y : M), l[k]? = some y → k < i → y.id ≠ x.id) := fun i x hx => (step_iff hx).1 (h i (List.getElem?_eq_some_iff.1 hx).1)
    have hsort : ∀ (i k : Nat) (y x : M), l[k]? = some y → l[i]? = some x → k < i → y.tm ≤ x.tm := by
      intro i
      induction i with
      | zero => intro k y x _ _ hk; omega
      | succ i ih =>
        intro k y x hy hx hk
        have hi := (List.getElem?_eq_some_iff.1 hx).1
        have hz := List.getElem?_eq_getElem (l := l) (i := i) (by omega)
        generalize l[i] = z at hz
        have h1 := (hs (i + 1) x hx).2.1 z (by omega) hz
        rcases Nat.lt_or_ge k i with hki | hki
        · have := ih k y z hy hz hki; omega
        · have : k = i := by omega
          subst this
          rw [hz] at hy; obtain rfl := Option.some.inj hy; exact h1
    exact ⟨fun i x hx => (hs i x hx).1, fun k i y x hy hx hk => ⟨(hs i x hx).2.2 k y hy hk, hsort i k y x hy hx hk⟩, hl⟩
  · rintro ⟨h1, h2, hl⟩
    refine ⟨fun i hi => ?_, hl⟩
    have hx := List.getElem?_eq_getElem hi
    generalize l[i] = x at hx
    exact (step_iff hx).2 ⟨h1 i x hx, fun y hi hy => (h2 (i - 1) i y x hy hx (by omega)).2, fun k y hy hk => (h2 k i y x hy hx hk).1⟩

theorem rmay_eq (l : List M) : rmay l = may l := by rw [Bool.eq_iff_iff, rmay_iff, may_iff]

theorem rfresh_eq (l : List M) (now : Int) : rfresh l now = fresh l now := by rw [rfresh, fresh, rmay_eq]; rfl

theorem rfind_eq (l : List M) (id now : Int) : rfind l id now = find l id now := by
  rw [rfind, find, firstId, rfresh_eq, ofId]
  generalize fresh l now = r
  induction r with
  | nil => rfl
  | cons x r ih =>
    rw [List.find?_cons, List.filter_cons]
    cases h : (x.id == id) with
    | true => simp
    | false => simp only; exact ih

theorem find_snd (l : List M) (id now : Int) : (find l id now).2 = decide (0 < (ofId (fresh l now) id).length) := by
  rw [find]; cases ofId (fresh l now) id <;> simp

theorem ref_put (l : List M) (hl : l.length ≤ 900) (x : M) : AF Try.prog 12 [mem l, x.av] [] (Pure (.tup [.msl 0 4 0 (put l x).1.length, i64 (put l x).2]) [.row 24 4 ((put l x).1.map M.pv)]) := by
  have hl' : l.length ≤ 1000 := by omega
  have hfl := Nat.le_trans (fresh_len l x.tm) hl
  have key : bad l x = true → (put l x) = ([], 1) := fun h => by rw [put, h]
  refine af_body hT Try.func12 rfl rfl Try.ntmps12 rfl ?_
  refine aw_seq (aw_region hT ?_)
  refine aw_seq (aw_region hT ?_)
  refine callP (af_at (ref_may l hl') _ rfl rfl) ?_
  refine aw_seq (aw_region hT ?_)
  refine callP (af_at (ref_one x) _ rfl rfl) ?_
  refine aw_cut ⟨⟨59, [(0, mem l), (3, .ref 0 0)]⟩, [.cells 24 [i64 x.id, i64 x.tm, i64 x.code, i64 x.a]]⟩ (bad l x = false) (aw_seq (aw_quiet hT follows_mixed (by rfl) ?_)) (fun hb => ?_)
  · refine boolI (fun h1 => ?_) (fun h1 => ?_)
    · refine aw_cond ?_
      refine aw_seq (aw_region hT ?_)
      refine aw_ret ?_
      have h1 : (!rmay l) = true := h1
      have hbad : bad l x = true := by rw [bad, ← rmay_eq, h1]; rfl
      refine retNilT 24 4 rfl ?_
      rw [key hbad]
      exact ⟨rfl, rfl⟩
    · have h1 : (!rmay l) = false := h1
      refine boolI (fun h2 => ?_) (fun h2 => ?_)
      · refine aw_cond ?_
        refine aw_seq (aw_region hT ?_)
        refine aw_ret ?_
        have h2 : (!one x) = true := h2
        have hbad : bad l x = true := by rw [bad, ← rmay_eq, h1, h2]; rfl
        refine retNilT 24 4 rfl ?_
        rw [key hbad]
        exact ⟨rfl, rfl⟩
      · have h2 : (!one x) = false := h2
        refine boolI (fun h3 => ?_) (fun h3 => ?_)
        · have h3 : 0 < l.length := by simpa using h3
          have hy := List.getElem?_eq_getElem (l := l) (i := l.length - 1) (by omega)
          generalize l[l.length - 1] = y at hy
          have hw : IntKind.i64.wrap (((l.map M.pv).length : Int) - 1) = ((l.length - 1 : Nat) : Int) := by rw [wrap_in _ (by omega) (by simp; omega)]; simp; omega
          refine ⟨(show 0 ≤ IntKind.i64.wrap (((l.map M.pv).length : Int) - 1) by rw [hw]; exact Int.natCast_nonneg _), optI (show (l.map M.pv)[(IntKind.i64.wrap (((l.map M.pv).length : Int) - 1)).toNat]? = _ by rw [hw]; exact mget hy) ?_⟩
          have hlast : lastTm l = y.tm := by rw [lastTm, hy]; rfl
          refine aw_cond (boolI (fun h4 => ?_) (fun h4 => ?_))
          · refine aw_seq (aw_region hT ?_)
            refine aw_ret ?_
            have h4 : decide (x.tm < y.tm) = true := h4
            have hbad : bad l x = true := by rw [bad, ← rmay_eq, h1, h2, hlast, h4, decide_eq_true h3]; rfl
            refine retNilT 24 4 rfl ?_
            rw [key hbad]
            exact ⟨rfl, rfl⟩
          · refine aw_skip ⟨wk_pick [0] [0, 3] rfl, ?_⟩
            have h4 : decide (x.tm < y.tm) = false := h4
            rw [bad, ← rmay_eq, h1, h2, hlast, h4]; simp
        · refine aw_cond (aw_skip ⟨wk_pick [0] [0, 3] rfl, ?_⟩)
          have h3 : l = [] := by simpa using h3
          rw [bad, ← rmay_eq, h1, h2, h3]; rfl
  · have hput : put l x = (match decide (0 < (ofId (fresh l x.tm) x.id).length) with
      | true => ([], 5)
      | false => match decide ((fresh l x.tm).length = 16) with
        | true => ([], 4)
        | false => (fresh l x.tm ++ [x], 0)) := by rw [put, hb]; rfl
    refine aw_seq (aw_region hT ?_)
    refine callP (af_at (ref_find l hl' x.id x.tm) _ rfl rfl) ?_
    refine aw_seq (aw_seq (aw_region hT ?_))
    refine aw_cond (boolI (fun h1 => ?_) (fun h1 => ?_))
    · refine aw_seq (aw_region hT ?_)
      refine aw_ret ?_
      refine retNilT 24 4 rfl ?_
      have h1 : (rfind l x.id x.tm).2 = true := h1
      rw [rfind_eq, find_snd] at h1
      rw [hput, h1]
      exact ⟨rfl, rfl⟩
    · refine aw_skip ?_
      have h1 : (rfind l x.id x.tm).2 = false := h1
      rw [rfind_eq, find_snd] at h1
      refine aw_seq (aw_region hT ?_)
      refine callP (af_lift (ref_fresh l hl' x.tm) _ rfl) ?_
      have h16 : (fresh l x.tm).length ≤ 16 := by
        unfold fresh
        split
        · rename_i h
          exact Nat.le_trans (List.length_filter_le _ _) ((may_iff l).1 h).2.2
        · exact Nat.zero_le _
      have hrf : rfresh l x.tm = fresh l x.tm := rfresh_eq l x.tm
      generalize rfresh l x.tm = q at hrf ⊢
      subst hrf
      generalize fresh l x.tm = fr at hfl hput h1 h16 ⊢
      refine aw_seq (aw_seq (aw_region hT ?_))
      refine aw_cond (boolI (fun h2 => ?_) (fun h2 => ?_))
      · refine aw_seq (aw_region hT ?_)
        refine aw_ret ?_
        refine retNilT 24 4 rfl ?_
        have h2 : decide ((fr.length : Int) > 15) = true := h2
        have h2 : decide (fr.length = 16) = true := by simp at h2 ⊢; omega
        rw [hput, h1, h2]
        exact ⟨rfl, rfl⟩
      · refine aw_skip ?_
        have h2 : decide ((fr.length : Int) > 15) = false := h2
        have h2 : decide (fr.length = 16) = false := by simp at h2 ⊢; omega
        refine aw_seq (aw_region hT ?_)
        refine ⟨by simp, ⟨by simp; omega, by simp; omega⟩, ?_⟩
        refine aw_ret ?_
        have hp : put l x = (fr ++ [x], 0) := by rw [hput, h1, h2]
        refine retPick [4] ⟨?_, ?_⟩ rfl
        · rw [hp]; simp [AV.ren, renL, inv]; rfl
        · rw [hp]; simp [M.pv]; rfl
end Go.Proofs.Ytdncagppilehgaa.AL
