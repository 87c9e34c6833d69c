/- The law DiskRots, as plain lists. -/
import Derived.Test.YtolefphdldmlkaaBDz
namespace Go.Proofs.Ytolefphdldmlkaa.AL
open Go Go.Proofs

theorem rotB_get (f : Flt) (h0 : 0 ≤ f.off) (s : Bytes) (k : Nat) : ∀ n, (rotB f s n)[k]? = if f.off.toNat ≤ k ∧ k < f.off.toNat + n then (s[k]?).map (fun c => c ^^^ f.m (k - f.off.toNat)) else s[k]?
  | 0 => by rw [if_neg (by omega)]; rfl
  | n + 1 => by
    have ih := rotB_get f h0 s k n
    have hl := rotB_len f s n
    unfold rotB
    by_cases h : f.off + (n : Int) < (s.length : Int)
    · rw [decide_eq_true h]
      simp only
      by_cases e : f.off.toNat + n = k
      · subst e
        rw [List.getElem?_set_self (by rw [hl]; omega), if_pos (by omega)]
        rw [if_neg (by omega)] at ih
        rw [List.getD_eq_getElem?_getD, ih, List.getElem?_eq_getElem (show f.off.toNat + n < s.length by omega), Nat.add_sub_cancel_left]
        rfl
      · rw [List.getElem?_set_ne e, ih]
        by_cases h2 : f.off.toNat ≤ k ∧ k < f.off.toNat + n
        · rw [if_pos h2, if_pos (by omega)]
        · rw [if_neg h2, if_neg (by omega)]
    · rw [decide_eq_false h]
      simp only
      rw [ih]
      by_cases h2 : f.off.toNat ≤ k ∧ k < f.off.toNat + n
      · rw [if_pos h2, if_pos (by omega)]
      · rw [if_neg h2]
        by_cases h3 : f.off.toNat ≤ k ∧ k < f.off.toNat + (n + 1)
        · rw [if_pos h3, List.getElem?_eq_none (show s.length ≤ k by omega)]; rfl
        · rw [if_neg h3]

theorem rotB_twice (f : Flt) (h0 : 0 ≤ f.off) (s : Bytes) : rotB f (rotB f s 4) 4 = s := by
  apply List.ext_getElem?
  intro k
  rw [rotB_get f h0, rotB_get f h0]
  by_cases h : f.off.toNat ≤ k ∧ k < f.off.toNat + 4
  · rw [if_pos h, if_pos h]
    cases s[k]? with
    | none => rfl
    | some c =>
      show some ((c ^^^ f.m (k - f.off.toNat)) ^^^ f.m (k - f.off.toNat)) = some c
      rw [UInt8.xor_assoc, UInt8.xor_self, UInt8.xor_zero]
  · rw [if_neg h, if_neg h]

theorem lastW_cons (hit : Wr → Bool) (x : Wr) (r : List Wr) : lastW hit (x :: r) = match lastW hit r with | some y => some y | none => match hit x with | true => some x | false => none := rfl

theorem settle_get (a : Int) (ha : 0 ≤ a) : ∀ (W : List Wr) (C : List Cell), (settleC a W C)[a.toNat]? = match lastW (hitA a) W with | some x => (C[a.toNat]?).map (fun c => { c with s := x.s, lost := false }) | none => C[a.toNat]?
  | [], _ => rfl
  | x :: r, C => by
    have ih := settle_get a ha r (match hitA a x with | true => doneL C x | false => C)
    have h : settleC a (x :: r) C = settleC a r (match hitA a x with | true => doneL C x | false => C) := rfl
    rw [h, ih]
    rw [lastW_cons]
    cases hh : hitA a x with
    | false => cases lastW (hitA a) r <;> rfl
    | true =>
      have hx : x.at_ = a := by simpa using hh
      have hd : (doneL C x)[a.toNat]? = (C[a.toNat]?).map (fun c => { c with s := x.s, lost := false }) := by
        unfold doneL
        rw [hx]
        cases hc : C[a.toNat]? with
        | none => simp only [hc]; rfl
        | some c => simp only; rw [List.getElem?_set_self (List.getElem?_eq_some_iff.1 hc).1]; rfl
      cases lastW (hitA a) r with
      | none => exact hd
      | some y =>
        simp only
        rw [hd]
        cases C[a.toNat]? <;> rfl

theorem lastW_settle (a i : Int) (W : List Wr) : lastW (hitA i) (settleW a W) = if i = a then none else lastW (hitA i) W := by
  induction W with
  | nil => by_cases h : i = a <;> simp [h, settleW, lastW]
  | cons x r ih =>
    unfold settleW at ih ⊢
    rw [List.filter_cons]
    by_cases e : i = a
    · subst e
      rw [if_pos rfl] at ih ⊢
      cases hh : hitA i x with
      | true => simpa using ih
      | false =>
        simp only [Bool.not_false, if_true]
        rw [lastW_cons, ih, hh]
    · rw [if_neg e] at ih ⊢
      cases hh : hitA a x with
      | true =>
        have hx : x.at_ = a := by simpa using hh
        have hi : hitA i x = false := by simp [hx]; omega
        simp only [Bool.not_true, Bool.false_eq_true, if_false]
        rw [ih]
        rw [lastW_cons, hi]
        cases lastW (hitA i) r <;> rfl
      | false =>
        simp only [Bool.not_false, if_true]
        rw [lastW_cons, lastW_cons, ih]

theorem settleC_at {a : Int} {W : List Wr} {C : List Cell} {c : Cell} (h : c ∈ settleC a W C) (hp : ∀ c ∈ C, c.drop = 0 ∧ c.miss = [] ∧ c.lost = false) : c.drop = 0 ∧ c.miss = [] ∧ c.lost = false := by
  induction W generalizing C with
  | nil => exact hp c h
  | cons x r ih =>
    refine ih (C := match hitA a x with | true => doneL C x | false => C) h (fun d hd => ?_)
    split at hd
    · rcases doneL_mem hd with hd | ⟨c0, h0, rfl⟩
      · exact hp d hd
      · exact ⟨(hp c0 h0).1, (hp c0 h0).2.1, rfl⟩
    · exact hp d hd

theorem plain_settle {D : Dev} {L : Bytes} {b : Nat} (h : PlainOk D L b) {a : Int} (ha : 0 ≤ a) (hb : a < 20) : PlainOk (D.settle a) L b := by
  refine ⟨h.ok.settle a, (settleC_len _ _ _).trans h.len, h.dead, h.armed, fun c hc => settleC_at hc h.pl, h.ll, fun i hi => ?_⟩
  have hv := h.val i hi
  rw [readAt_eq] at hv ⊢
  unfold readIn at hv ⊢
  show (match lastW (hitA (i : Int)) (settleW a D.waits) with | some x => (0, x.s) | none => cellAt (settleC a D.waits D.cells)[((i : Nat) : Int).toNat]?) = _
  rw [lastW_settle]
  by_cases e : (i : Int) = a
  · rw [if_pos e]
    subst e
    show cellAt (settleC (i : Int) D.waits D.cells)[((i : Nat) : Int).toNat]? = _
    rw [settle_get _ ha]
    cases hl : lastW (hitA (i : Int)) D.waits with
    | none => rw [hl] at hv; exact hv
    | some x =>
      rw [hl] at hv
      rw [List.getElem?_eq_getElem (show ((i : Nat) : Int).toNat < D.cells.length by rw [h.len]; omega)]
      exact hv
  · rw [if_neg e, show (settleC a D.waits D.cells)[((i : Nat) : Int).toNat]? = D.cells[((i : Nat) : Int).toNat]? from settleC_ne (by omega) (fun h => e h.symm) (fun x hx => (h.ok.at_ x hx).1)]
    exact hv
end Go.Proofs.Ytolefphdldmlkaa.AL
