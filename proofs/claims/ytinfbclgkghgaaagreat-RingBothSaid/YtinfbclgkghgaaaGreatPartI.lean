/- A part of the proof. -/
import Derived.Test.YtinfbclgkghgaaaGreatPartH
/- The layer 05 (code): what stands next is told, and got. -/
namespace Go.Proofs.YtinfbclgkghgaaaGreat.AL
open Go Go.Proofs

abbrev w64 (n : Int) : AV := .p (.raw (.int .u64 n))
abbrev inC (b : Bytes) : ABlk := .cells t_code_In [bA b]
theorem wrapU (n : Int) (h0 : 0 ≤ n) (h : n < 18446744073709551616) : IntKind.u64.wrap n = n := by
  show n % 18446744073709551616 = n
  omega

theorem In_look (b : Bytes) (_hb : b.length ≤ 1000000) : AFm Tryz.prog 1 f_code_In_look [.ref 0 0] [inC b] (Pure (.tup [w64 (lookB b).1, i64 (lookB b).2.1, i64 (lookB b).2.2]) [inC b]) := by
  have hbl := bx_len b
  refine af_bodyM 1 hT F_code_In_look rfl rfl N_code_In_look rfl rfl ?_
  refine aw_seq (aw_region hT ?_)
  refine aw_seq (aw_seq (aw_region hT ?_))
  refine aw_cond ?_
  refine aw_skip ?_
  refine aw_seq (aw_region hT ?_)
  refine aw_seq (aw_seq (aw_region hT ?_))
  refine aw_block ?_
  refine aw_loopW (fun m s => ∃ (i : Nat) (j n p : Int) (N : Nat), m + i = b.length ∧ j = i ∧ i ≤ 10 ∧ n = (N : Nat) ∧ p = ((128 ^ i : Nat) : Int) ∧ N < 128 ^ i ∧ lookB b = lookF i N (128 ^ i) (b.drop i) ∧ s = ⟨⟨58, [(0, .ref 0 0), (5, w64 n), (6, w64 p), (14, bA b), (15, i64 (bx b).length), (16, i64 j)]⟩, [inC b]⟩) b.length ⟨⟨58, _⟩, [_]⟩ (wk_pick [0] [0, 5, 6, 14, 15, 16] rfl) ⟨0, 0, 0, 1, 0, rfl, rfl, by omega, rfl, rfl, by simp, rfl, rfl⟩ ?_
  rintro m s ⟨i, j, n, p, N, hmi, rfl, hi10, hn, hp, hN, hlk, rfl⟩
  refine aw_seq (aw_region hT ?_)
  refine aw_seq (aw_cond (boolI (fun h => ?_) (fun h => ?_)))
  · have hi : i < b.length := by
      have := of_decide_eq_true (show decide ((i : Int) < ((bx b).length : Int)) = true from h)
      omega
    have hx := List.getElem?_eq_getElem hi
    have hdr : b.drop i = b[i] :: b.drop (i + 1) := List.drop_eq_getElem_cons hi
    generalize b[i] = c at hx hdr
    have hxp : (bx b)[((i : Nat) : Int).toNat]? = some [u8 c] := by rw [Int.toNat_natCast]; exact bx_get hx
    have hc := c.toNat_lt
    refine aw_skip ?_
    rw [hdr] at hlk
    unfold lookF at hlk
    obtain ⟨G, hG⟩ : ∃ G, G = (decide (i = 10) || (decide (i = 9) && decide (c.toNat > 1))) := ⟨_, rfl⟩
    rw [← hG] at hlk
    have e10 : ((i : Int) == 10) = decide (i = 10) := by
      by_cases e : i = 10
      · rw [decide_eq_true e, e]; rfl
      · rw [decide_eq_false e]; exact beq_eq_false_iff_ne.mpr (by omega)
    have e9 : ((i : Int) == 9) = decide (i = 9) := by
      by_cases e : i = 9
      · rw [decide_eq_true e, e]; rfl
      · rw [decide_eq_false e]; exact beq_eq_false_iff_ne.mpr (by omega)
    have ec : decide ((c.toNat : Int) > 1) = decide (c.toNat > 1) := decide_eq_decide.mpr (by omega)
    have ez : ((c.toNat : Int) == 0) = decide (c.toNat = 0) := by
      by_cases e : c.toNat = 0
      · rw [decide_eq_true e, e]; rfl
      · rw [decide_eq_false e]; exact beq_eq_false_iff_ne.mpr (by omega)
    have e8 : decide ((c.toNat : Int) ≥ 128) = decide (c.toNat ≥ 128) := decide_eq_decide.mpr (by omega)
    have e0 : decide ((i : Int) > 0) = decide (i > 0) := decide_eq_decide.mpr (by omega)
    refine aw_seq (aw_block (aw_seq (aw_region hT ?_)))
    refine ⟨Int.natCast_nonneg _, optI hxp ?_⟩
    refine aw_cut ⟨⟨58, [(0, .ref 0 0), (5, w64 n), (6, w64 p), (7, i64 i), (8, .p (u8 c))]⟩, [inC b]⟩ (lookB b = (N + c.toNat * 128 ^ i, i + 1, 0) ∧ c.toNat < 128 ∧ (i = 9 → c.toNat ≤ 1) ∧ i ≤ 9) (aw_block ?_) ?_
    · refine aw_cut ⟨⟨58, [(0, .ref 0 0), (5, w64 n), (6, w64 p), (7, i64 i), (8, .p (u8 c)), (14, bA b), (15, i64 (bx b).length), (16, i64 i), (21, bl G)]⟩, [inC b]⟩ True (aw_seq (aw_region hT ?_)) (fun _ => ?_)
      · refine aw_cond (boolI (fun h1 => ?_) (fun h1 => ?_))
        · have h1 : ((i : Int) == 10) = true := h1
          refine aw_skip ?_
          rw [show G = ((i : Int) == 10) by rw [hG, ← e10, h1]; rfl]
          exact ⟨wk_pick [0] [0, 5, 6, 7, 8, 14, 15, 16, 21] rfl, trivial⟩
        · have h1 : ((i : Int) == 10) = false := h1
          refine aw_region hT ?_
          refine boolI (fun h2 => ?_) (fun h2 => ?_)
          · have h2 : ((i : Int) == 9) = true := h2
            rw [show G = decide ((c.toNat : Int) > 1) by rw [hG, ← e10, h1, ← e9, h2, ec]; rfl]
            exact ⟨wk_pick [0] [0, 5, 6, 7, 8, 14, 15, 16, 21] rfl, trivial⟩
          · have h2 : ((i : Int) == 9) = false := h2
            rw [show G = false by rw [hG, ← e10, h1, ← e9, h2]; rfl]
            exact ⟨wk_pick [0] [0, 5, 6, 7, 8, 14, 15, 16, 21] rfl, trivial⟩
      · refine aw_cond (boolI (fun h1 => ?_) (fun h1 => ?_))
        · have h1 : G = true := h1
          rw [h1] at hlk
          refine aw_seq (aw_region hT ?_)
          refine aw_ret ?_
          rw [hlk]
          exact retPick [0] ⟨rfl, rfl⟩ rfl
        · have h1 : G = false := h1
          rw [h1] at hlk hG
          have go : (i = 9 → c.toNat ≤ 1) ∧ i ≤ 9 := by
            have h := hG.symm
            rw [Bool.or_eq_false_iff, Bool.and_eq_false_iff] at h
            have a1 := of_decide_eq_false h.1
            refine ⟨fun e => ?_, by omega⟩
            rcases h.2 with h | h
            · exact absurd e (of_decide_eq_false h)
            · have := of_decide_eq_false h; omega
          refine aw_seq (aw_region hT ?_)
          refine aw_cond (boolI (fun h2 => ?_) (fun h2 => ?_))
          · have h2 : decide ((c.toNat : Int) ≥ 128) = true := h2
            rw [e8] at h2
            rw [h2] at hlk
            have h2 := of_decide_eq_true h2
            have i8 : i ≤ 8 := by
              rcases Nat.lt_or_ge i 9 with h | h
              · omega
              · have := go.1 (by omega); omega
            have hpw : 128 ^ i ≤ 128 ^ 8 := Nat.pow_le_pow_right (by omega) i8
            have hmul : (c.toNat - 128) * 128 ^ i ≤ 127 * 128 ^ i := Nat.mul_le_mul_right _ (by omega)
            have hsum : N + (c.toNat - 128) * 128 ^ i < 128 ^ (i + 1) := by rw [Nat.pow_succ]; omega
            have v1 : IntKind.u64.wrap (n + IntKind.u64.wrap (IntKind.u64.wrap (IntKind.u8.wrap ((c.toNat : Int) - 128)) * p)) = ((N + (c.toNat - 128) * 128 ^ i : Nat) : Int) := by
              rw [show IntKind.u8.wrap ((c.toNat : Int) - 128) = ((c.toNat - 128 : Nat) : Int) by show ((c.toNat : Int) - 128) % 256 = _; omega]
              rw [wrapU ((c.toNat - 128 : Nat) : Int) (by omega) (by omega), hp, ← Int.natCast_mul, wrapU (((c.toNat - 128) * 128 ^ i : Nat) : Int) (by omega) (by omega), hn, wrapU _ (by omega) (by omega)]
              omega
            have v2 : IntKind.u64.wrap (p * 128) = ((128 ^ (i + 1) : Nat) : Int) := by
              rw [hp, Nat.pow_succ]
              generalize 128 ^ i = Q at hpw
              rw [wrapU _ (by omega) (by omega)]
              omega
            refine aw_seq (aw_region hT ?_)
            refine aw_seq (aw_region hT ?_)
            refine aw_exit ?_
            refine aw_region hT ?_
            refine ⟨m - 1, by omega, _, wk_pick [0] [0, 5, 6, 14, 15, 16] rfl, i + 1, IntKind.i64.wrap ((i : Int) + 1), _, _, N + (c.toNat - 128) * 128 ^ i, by omega, ?_, by omega, v1, v2, hsum, ?_, rfl⟩
            · rw [wrap64 _ (by omega) (by omega)]; rfl
            · rw [hlk, Nat.pow_succ]
          · have h2 : decide ((c.toNat : Int) ≥ 128) = false := h2
            rw [e8] at h2
            rw [h2] at hlk
            have h2 := of_decide_eq_false h2
            refine aw_seq (aw_region hT ?_)
            refine boolI (fun h3 => ?_) (fun h3 => ?_)
            · have h3 : ((c.toNat : Int) == 0) = true := h3
              rw [ez] at h3
              rw [h3] at hlk
              refine aw_cond (boolI (fun h4 => ?_) (fun h4 => ?_))
              · have h4 : decide ((i : Int) > 0) = true := h4
                rw [e0] at h4
                rw [h4] at hlk
                refine aw_seq (aw_region hT ?_)
                refine aw_ret ?_
                rw [hlk]
                exact retPick [0] ⟨rfl, rfl⟩ rfl
              · have h4 : decide ((i : Int) > 0) = false := h4
                rw [e0] at h4
                rw [h4] at hlk
                exact aw_skip ⟨wk_pick [0] [0, 5, 6, 7, 8] rfl, hlk, by omega, go⟩
            · have h3 : ((c.toNat : Int) == 0) = false := h3
              rw [ez] at h3
              rw [h3] at hlk
              refine aw_cond ?_
              exact aw_skip ⟨wk_pick [0] [0, 5, 6, 7, 8] rfl, hlk, by omega, go⟩
    · rintro ⟨hlk, h128, h9, hi9⟩
      have hb2 : N + c.toNat * 128 ^ i < 18446744073709551616 ∧ c.toNat * 128 ^ i < 18446744073709551616 := by
        rcases Nat.lt_or_ge i 9 with h8 | h8
        · have h1 : 128 ^ i ≤ 128 ^ 8 := Nat.pow_le_pow_right (by omega) (by omega)
          have h2 : c.toNat * 128 ^ i ≤ 127 * 128 ^ 8 := Nat.mul_le_mul (by omega) h1
          omega
        · have hi : i = 9 := by omega
          have h1 := h9 hi
          subst hi
          have h2 : c.toNat * 128 ^ 9 ≤ 1 * 128 ^ 9 := Nat.mul_le_mul_right _ h1
          omega
      have v1 : IntKind.u64.wrap (n + IntKind.u64.wrap (IntKind.u64.wrap (c.toNat : Int) * p)) = ((N + c.toNat * 128 ^ i : Nat) : Int) := by
        rw [wrapU (c.toNat : Int) (by omega) (by omega), hp, ← Int.natCast_mul, wrapU ((c.toNat * 128 ^ i : Nat) : Int) (by omega) (by omega), hn, wrapU _ (by omega) (by omega)]
        omega
      have v2 : IntKind.i64.wrap ((i : Int) + 1) = ((i + 1 : Nat) : Int) := by rw [wrap64 _ (by omega) (by omega)]; rfl
      refine aw_seq (aw_region hT ?_)
      refine aw_ret ?_
      rw [hlk]
      show ∃ u2 H2, _ ∧ Pure (.tup [w64 ((N + c.toNat * 128 ^ i : Nat) : Int), i64 ((i + 1 : Nat) : Int), i64 0]) [inC b] u2 H2
      rw [← v1, ← v2]
      exact retPick [0] ⟨rfl, rfl⟩ rfl
  · have hi : ¬ (i : Int) < ((bx b).length : Int) := of_decide_eq_false h
    have hib : i = b.length := by omega
    rw [List.drop_eq_nil_of_le (by omega)] at hlk
    refine aw_exit ?_
    refine aw_seq (aw_region hT ?_)
    refine aw_ret ?_
    rw [hlk]
    exact retPick [0] ⟨rfl, rfl⟩ rfl

theorem numS_of (b : Bytes) : numS b = match decide ((lookB b).2.2 = 0) && decide ((lookB b).1 ≥ 2 ^ 63) with | true => (0, 0, 7) | false => ((lookB b).1, (lookB b).2.1, (lookB b).2.2) := by
  unfold numS; rfl
theorem In_num (b : Bytes) (hb : b.length ≤ 1000000) : AFm Tryz.prog 1 f_code_In_num [.ref 0 0] [inC b] (Pure (.tup [i64 (numS b).1, i64 (numS b).2.1, i64 (numS b).2.2]) [inC b]) := by
  have w := In_look b hb
  have hlt := lookB_ok (b := b)
  have hz : (lookB b).2.2 ≠ 0 → (lookB b).1 = 0 := fun h => (lookF_err b 0 0 1 h).1
  have hN := numS_of b
  generalize numS b = Z at hN
  generalize lookB b = Y at w hlt hz hN
  obtain ⟨n, k, e⟩ := Y
  have hN : Z = match decide (e = 0) && decide (n ≥ 2 ^ 63) with | true => (0, 0, 7) | false => (n, k, e) := hN
  have w : AFm Tryz.prog 1 f_code_In_look [.ref 0 0] [inC b] (Pure (.tup [w64 n, i64 k, i64 e]) [inC b]) := w
  have hlt : e = 0 → n < 2 ^ 64 := fun h => (hlt h).2.2.2.2
  have hz : e ≠ 0 → n = 0 := hz
  refine af_bodyM 1 hT F_code_In_num rfl rfl N_code_In_num rfl rfl ?_
  refine aw_seq (aw_region hT ?_)
  refine aw_seq (aw_region hT ?_)
  refine callP (af_in [0] w rfl rfl rfl) ?_
  refine aw_cut ⟨⟨24, [(5, w64 n), (6, i64 k), (7, i64 e)]⟩, [inC b]⟩ ((decide (e = 0) && decide (n ≥ 2 ^ 63)) = false) (aw_seq (aw_region hT ?_)) ?_
  · have ee : (e == 0) = decide (e = 0) := by
      by_cases h : e = 0
      · rw [decide_eq_true h, h]; rfl
      · rw [decide_eq_false h]; exact beq_eq_false_iff_ne.mpr h
    have en : decide ((n : Int) ≥ 9223372036854775808) = decide (n ≥ 2 ^ 63) := decide_eq_decide.mpr (by omega)
    refine boolI (fun h1 => ?_) (fun h1 => ?_)
    · have h1 : (e == 0) = true := h1
      rw [ee] at h1
      refine aw_cond (boolI (fun h2 => ?_) (fun h2 => ?_))
      · have h2 : decide ((n : Int) ≥ 9223372036854775808) = true := h2
        rw [en] at h2
        refine aw_seq (aw_region hT ?_)
        refine aw_ret ?_
        rw [h1, h2] at hN
        have hN : Z = (0, 0, 7) := hN
        subst hN
        exact retPick [0] ⟨rfl, rfl⟩ rfl
      · have h2 : decide ((n : Int) ≥ 9223372036854775808) = false := h2
        rw [en] at h2
        exact aw_skip ⟨wk_pick [0] [5, 6, 7] rfl, by rw [h1, h2]; rfl⟩
    · have h1 : (e == 0) = false := h1
      rw [ee] at h1
      refine aw_cond ?_
      exact aw_skip ⟨wk_pick [0] [5, 6, 7] rfl, by rw [h1]; rfl⟩
  · intro h
    rw [h] at hN
    have hN : Z = (n, k, e) := hN
    subst hN
    have hn : n < 2 ^ 63 := by
      by_cases he : e = 0
      · rw [decide_eq_true he, Bool.true_and] at h
        have := of_decide_eq_false h; omega
      · rw [hz he]; omega
    have v : IntKind.i64.wrap (n : Int) = n := wrap64 _ (by omega) (by omega)
    refine aw_seq (aw_region hT ?_)
    refine aw_ret ?_
    show ∃ u2 H2, _ ∧ Pure (.tup [i64 (n : Int), i64 k, i64 e]) [inC b] u2 H2
    rw [show i64 (n : Int) = i64 (IntKind.i64.wrap (n : Int)) by rw [v]]
    exact retPick [0] ⟨rfl, rfl⟩ rfl

theorem numS_k (b : Bytes) : (numS b).2.1 ≤ b.length ∧ ((numS b).2.2 ≠ 0 → (numS b).2.1 = 0) := by
  have hok := lookB_ok (b := b)
  have hz : (lookB b).2.2 ≠ 0 → (lookB b).2.1 = 0 := fun h => (lookF_err b 0 0 1 h).2
  unfold numS
  generalize lookB b = Y at hok hz
  obtain ⟨n, k, e⟩ := Y
  have hok : e = 0 → k ≤ b.length := fun h => (hok h).2.1
  have hz : e ≠ 0 → k = 0 := hz
  show (match decide (e = 0) && decide (n ≥ 2 ^ 63) with | true => (0, 0, 7) | false => (n, k, e) : Nat × Nat × Int).2.1 ≤ _ ∧ ((match decide (e = 0) && decide (n ≥ 2 ^ 63) with | true => (0, 0, 7) | false => (n, k, e) : Nat × Nat × Int).2.2 ≠ 0 → (match decide (e = 0) && decide (n ≥ 2 ^ 63) with | true => (0, 0, 7) | false => (n, k, e) : Nat × Nat × Int).2.1 = 0)
  cases decide (e = 0) && decide (n ≥ 2 ^ 63) with
  | true => exact ⟨Nat.zero_le _, fun _ => rfl⟩
  | false =>
    refine ⟨?_, hz⟩
    show k ≤ _
    by_cases he : e = 0
    · exact hok he
    · rw [hz he]; exact Nat.zero_le _

theorem In_Num (b : Bytes) (hb : b.length ≤ 1000000) : AFm Tryz.prog 1 f_code_In_Num [.ref 0 0] [inC b] (Pure (.tup [i64 (numS b).1, i64 (numS b).2.2]) [inC (b.drop (numS b).2.1)]) := by
  have w := In_num b hb
  have hk := numS_k b
  generalize numS b = Y at w hk
  obtain ⟨n, k, e⟩ := Y
  have w : AFm Tryz.prog 1 f_code_In_num [.ref 0 0] [inC b] (Pure (.tup [i64 n, i64 k, i64 e]) [inC b]) := w
  have hk1 : k ≤ b.length := hk.1
  have hk2 : e ≠ 0 → k = 0 := hk.2
  have hbl := bx_len b
  refine af_bodyM 1 hT F_code_In_Num rfl rfl N_code_In_Num rfl rfl ?_
  refine aw_seq (aw_region hT ?_)
  refine aw_seq (aw_region hT ?_)
  refine callP (af_in [0] w rfl rfl rfl) ?_
  refine aw_cut ⟨⟨26, [(4, i64 n), (6, i64 e)]⟩, [inC (b.drop k)]⟩ True (aw_seq (aw_region hT ?_)) (fun _ => ?_)
  · refine aw_cond (boolI (fun h => ?_) (fun h => ?_))
    · refine aw_region hT ?_
      refine ⟨⟨Int.natCast_nonneg _, by omega⟩, ?_⟩
      show _ ∧ True
      rw [show inC (b.drop k) = .cells t_code_In [.p (.sl 1 (((bx b).take ((bx b).length : Int).toNat).drop ((k : Nat) : Int).toNat))] by rw [Int.toNat_natCast, Int.toNat_natCast, List.take_length, ← bx_drop]]
      exact ⟨wk_pick [0] [4, 6] rfl, trivial⟩
    · have h : (e == 0) = false := h
      have he : e ≠ 0 := by intro e0; rw [e0] at h; exact absurd h (by decide)
      rw [hk2 he, List.drop_zero]
      exact aw_skip ⟨wk_pick [0] [4, 6] rfl, trivial⟩
  · refine aw_seq (aw_region hT ?_)
    refine aw_ret ?_
    exact retPick [0] ⟨rfl, rfl⟩ rfl
end Go.Proofs.YtinfbclgkghgaaaGreat.AL

/- The document's layer 05: digits; what stands next. -/
namespace Go.Proofs.YtinfbclgkghgaaaGreat.AL
open Go Go.Proofs

theorem numD_le (n : Nat) (h : n < 2 ^ 63) : (numD n).length ≤ 9 := numD_len 8 n (by rw [show (128 : Nat) ^ 9 = 2 ^ 63 by decide]; exact h)

end Go.Proofs.YtinfbclgkghgaaaGreat.AL

/- The layer 05 (code): a number is put. -/
namespace Go.Proofs.YtinfbclgkghgaaaGreat.AL
open Go Go.Proofs

abbrev outC (at_ : Nat) (b : Bytes) : ABlk := .cells t_code_Out [.msl at_ 1 0 (bx b).length]
abbrev outH (b : Bytes) : List ABlk := [outC 1 b, .row t_u8 1 (bx b)]

theorem code_digits (n : Int) : AF Tryz.prog f_code_digits [w64 n] [] (Pure (.clo (.func f_code_digits_1) [.ref 0 0]) [.cells t_uint64 [w64 n]]) := by
  refine af_body hT F_code_digits rfl rfl N_code_digits rfl ?_
  refine aw_seq (aw_region hT ?_)
  refine aw_seq (aw_region hT ?_)
  refine aw_ret ?_
  exact retPick [0] ⟨rfl, rfl⟩ rfl

abbrev putJ (L : ABlk) (x : Bytes × Int) : List ABlk := [outC 4 x.1, .cells t_p_code_Out [.ref 0 0], .cells t_uint64 [w64 x.2], L, .row t_u8 1 (bx x.1)]

abbrev putK (L : ABlk) (x : Bytes × Int) : List ABlk := [outC 5 x.1, .cells t_p_code_Out [.ref 0 0], .cells t_uint64 [w64 x.2], L, .dead, .row t_u8 1 (bx x.1)]
theorem put_pad {args : List AV} {q : RecK} {l : List AV} {b b' : Bytes} {m : Int} (hl : belowL 4 l = true) (ha : belowL 0 args = true) (h : AYm Tryz.prog 4 3 args (putJ (.lp q .ready none l) (b, m)) (fun r H' => r = bl true ∧ H' = putJ (.lp q .ready none l) (b', m))) :
    AY Tryz.prog 3 args (putJ (.lp q .ready none l) (b, m)) (fun r H' => r = bl true ∧ H' = putK (.lp q .ready none l) (b', m)) := by
  have hid : ∀ c, c < 4 → rho 5 [0, 1, 2, 3, 4] c = c := fun c hc => by
    rcases c with _ | _ | _ | _ | c
    · rfl
    · rfl
    · rfl
    · rfl
    · omega
  have hid2 : ∀ c, c < 4 → rho2 5 [0, 1, 2, 3] c = c := fun c hc => by
    rcases c with _ | _ | _ | _ | c
    · rfl
    · rfl
    · rfl
    · rfl
    · omega
  refine ay_pad [0, 1, 2, 3, 4] h ⟨rfl, by decide, ?_⟩ (show ∀ p ∈ [0, 1, 2, 3, 4], p < 5 by decide) (by decide) rfl (ren_idL (fun c hc => absurd hc (by omega)) args ha).symm ?_
  · intro c k hk
    right
    rcases c with _ | _ | _ | _ | _ | c
    · obtain rfl := Option.some.inj hk; exact ⟨0, rfl, rfl⟩
    · obtain rfl := Option.some.inj hk; exact ⟨1, rfl, rfl⟩
    · obtain rfl := Option.some.inj hk; exact ⟨2, rfl, rfl⟩
    · obtain rfl := Option.some.inj hk
      refine ⟨3, rfl, ?_⟩
      show some (ABlk.lp q .ready none l) = some (ABlk.lp q .ready none (renL (rho 5 [0, 1, 2, 3, 4]) l))
      rw [ren_idL hid l hl]
    · obtain rfl := Option.some.inj hk; exact ⟨4, rfl, rfl⟩
    · simp at hk
  · rintro r1 H1' ⟨rfl, rfl⟩
    refine ⟨show 4 ≤ 5 by decide, rfl, ?_⟩
    show [_, _, _, ABlk.lp q .ready none (renL (rho2 5 [0, 1, 2, 3]) l), _, _] = _
    rw [ren_idL hid2 l hl]
    rfl

theorem digits_seq (q : RecK) (l : List AV) (b0 : Bytes) (n : Nat) (hn : n < 2 ^ 64) (hl : belowL 4 l = true)
    (hy : ∀ (b : Bytes) (m : Int) (c : UInt8), b.length ≤ b0.length + 9 → AYm Tryz.prog 4 3 [.p (u8 c)] (putJ (.lp q .ready none l) (b, m)) (fun r H' => r = bl true ∧ H' = putJ (.lp q .ready none l) (b ++ [c], m))) :
    AFm Tryz.prog 4 f_code_digits_1 [.yld 3, .ref 2 0] (putJ (.lp q .ready none l) (b0, n)) (fun _ H' => ∃ m, H' = putJ (.lp q .ready none l) (b0 ++ numD n, m)) := by
  refine af_bodyM 4 hT F_code_digits_1 rfl rfl N_code_digits_1 rfl rfl ?_
  refine aw_cut2 (fun s => ∃ (b : Bytes) (m : Nat) (v : Int), v = m ∧ m < 128 ∧ b.length ≤ b0.length + 9 ∧ b ++ [UInt8.ofNat m] = b0 ++ numD n ∧ s = ⟨⟨18, [(0, .yld 3), (1, .ref 2 0)]⟩, putJ (.lp q .ready none l) (b, v)⟩) (aw_block ?_) ?_
  · refine aw_loopW (fun k s => ∃ (b : Bytes) (m : Nat) (v : Int), v = m ∧ k = m ∧ m < 2 ^ 64 ∧ (∃ j, b.length + j ≤ b0.length + 9 ∧ m < 128 ^ (j + 1)) ∧ b ++ numD m = b0 ++ numD n ∧ s = ⟨⟨18, [(0, .yld 3), (1, .ref 2 0)]⟩, putJ (.lp q .ready none l) (b, v)⟩) n ⟨⟨18, _⟩, _⟩ (wk_keep [0, 1]) ⟨b0, n, _, rfl, rfl, hn, ⟨9, by omega, by omega⟩, rfl, rfl⟩ ?_
    rintro k s ⟨b, m, v, hv, rfl, hm, ⟨j, hj, hmj⟩, hbn, rfl⟩
    refine aw_seq (aw_seq (aw_region hT ?_))
    refine aw_cond (boolI (fun h => ?_) (fun h => ?_))
    · have h := of_decide_eq_true (show decide (v ≥ 128) = true from h)
      have hm128 : ¬ k < 128 := by omega
      rw [numD_ge hm128] at hbn
      refine aw_skip ?_
      have hj0 : 0 < j := by
        rcases Nat.eq_zero_or_pos j with rfl | h0
        · omega
        · exact h0
      obtain ⟨j, rfl⟩ : ∃ i, j = i + 1 := ⟨j - 1, by omega⟩
      have y : AYm Tryz.prog 4 3 [.p (.raw (.int .u8 (IntKind.u8.wrap (IntKind.u8.wrap (v.tmod ((128 : Nat) : Int)) + 128))))] (putJ (.lp q .ready none l) (b, v)) (fun r H' => r = bl true ∧ H' = putJ (.lp q .ready none l) (b ++ [UInt8.ofNat (k % 128 + 128)], v)) := by
        have e : IntKind.u8.wrap (IntKind.u8.wrap (v.tmod ((128 : Nat) : Int)) + 128) = ((UInt8.ofNat (k % 128 + 128)).toNat : Int) := by
          rw [hv, nat_tmod, ← u8_wrapN]
          show (((k % 128 : Nat) : Int) % 256 + 128) % 256 = ((k % 128 + 128 : Nat) : Int) % 256
          omega
        rw [e]
        exact hy b v _ (by omega)
      refine aw_block (aw_seq (aw_seq (aw_region hT ?_)))
      refine ⟨_, put_pad hl rfl y, ?_⟩
      rintro r H' ⟨rfl, rfl⟩
      refine aw_cond ?_
      refine aw_skip ?_
      refine aw_region hT ?_
      have hdiv : k / 128 < 128 ^ (j + 1) := by rw [Nat.pow_succ] at hmj; exact Nat.div_lt_of_lt_mul (by rw [Nat.mul_comm]; exact hmj)
      refine ⟨k / 128, by omega, _, wk_pickL 3 [0, 1, 2, 3, 5] [0, 1] _ rfl hl rfl rfl rfl, b ++ [UInt8.ofNat (k % 128 + 128)], k / 128, IntKind.u64.wrap (v.tdiv 128), ?_, rfl, by omega, ⟨j, by rw [List.length_append]; simp; omega, hdiv⟩, by rw [List.append_assoc]; exact hbn, rfl⟩
      rw [hv, Int.tdiv_eq_ediv_of_nonneg (Int.natCast_nonneg _), wrapU _ (by omega) (by omega)]
      omega
    · have h := of_decide_eq_false (show decide (v ≥ 128) = false from h)
      have hm128 : k < 128 := by omega
      rw [numD_lt hm128] at hbn
      refine aw_exit ?_
      refine ⟨_, wk_keep [0, 1], b, k, v, hv, hm128, by omega, hbn, rfl⟩
  · rintro s ⟨b, m, v, hv, hm, hb, hbn, rfl⟩
    have y : AYm Tryz.prog 4 3 [.p (.raw (.int .u8 (IntKind.u8.wrap v)))] (putJ (.lp q .ready none l) (b, v)) (fun r H' => r = bl true ∧ H' = putJ (.lp q .ready none l) (b ++ [UInt8.ofNat m], v)) := by
      rw [hv, u8_wrapN]
      exact hy b _ _ hb
    refine aw_region hT ?_
    refine ⟨_, put_pad hl rfl y, ?_⟩
    rintro r H' ⟨rfl, rfl⟩
    exact ⟨_, _, wk_pickL 3 [0, 1, 2, 3, 5] [0] _ rfl hl rfl rfl rfl, v, by rw [← hbn]; rfl⟩

theorem Out_put (b0 : Bytes) (n : Nat) (hn : n < 2 ^ 64) (hb : b0.length ≤ 1000000) : AFm Tryz.prog 1 f_code_Out_put [.ref 0 0, w64 n] (outH b0) (Pure (.tup []) (outH (b0 ++ numD n))) := by
  refine af_bodyM 1 hT F_code_Out_put rfl rfl N_code_Out_put rfl rfl ?_
  refine aw_seq (aw_region hT ?_)
  refine aw_seq (aw_region hT ?_)
  refine callP (af_lift (code_digits n) _ rfl) ?_
  refine aw_block ?_
  have hlen : (numD n).length ≤ 10 := numD_len 9 n (by omega)
  refine aw_rangeFunc 3 18 [0, 2, 3, 4, 1] [2, 6] putJ (fun L (_ : Unit) => putJ L (b0, 0)) (b0, (n : Int)) (fun x => x.1 = b0 ++ numD n) (fun _ _ => False) rfl rfl (fun L _ => ⟨rfl, fun _ => rfl⟩) (fun L _ => ⟨rfl, fun _ => rfl⟩) rfl ?_ ?_ ?_
  · refine AFm.mono (digits_seq _ _ b0 n hn (belowL_dense (by rfl)) ?_) ?_
    · intro b m c hbl
      refine AYm.mono (ay_roundL (J := putJ) (Z := fun L (_ : Unit) => putJ L (b0, 0)) (a := (b, m)) (Rnd := fun x => x = (b ++ [c], m)) (Stp := fun _ _ => False) (fun L _ => ⟨rfl, fun _ => rfl⟩) (fun L _ => ⟨rfl, fun _ => rfl⟩) ?_ ?_ rfl rfl ?_) ?_
      · exact fun t u ht => pickF_lt (ks := [2, 6]) rfl ht
      · show ∀ p ∈ [7], p < 18
        decide
      · intro B l hl
        refine aw_region hT ?_
        refine ⟨rfl, ?_⟩
        refine aw_block ?_
        refine aw_draw [6, 7, 10] [] hT follows_mixed (by rfl) ?_
        have hb2 := bx_len b
        refine ⟨rfl, ⟨?_, ?_⟩, ?_⟩
        · show ((bx b).length + 1) * 1 ≤ 140737488355328
          omega
        · show (bx b).length + 1 ≤ 140737488355328
          omega
        refine ⟨rfl, ?_⟩
        refine ⟨rfl, ?_⟩
        refine ⟨rfl, ?_⟩
        refine ⟨rfl, ?_⟩
        refine ⟨(b ++ [c], m), ⟨18, []⟩, rfl, ?_⟩
        show Wk _ _ ⟨_, [.cells t_code_Out [.msl 4 1 0 (bx (b ++ [c])).length], .cells t_p_code_Out [.ref 0 0], .cells t_uint64 [w64 m], _, .row t_u8 1 (bx (b ++ [c]))]⟩
        rw [bx_snoc]
        exact wk_pickL 3 [0, 1, 2, 3, 6] [] _ rfl hl rfl rfl rfl
      · rintro r H' (⟨hr, a', rfl, hH⟩ | ⟨hr, c, z, h3, hH⟩)
        · exact ⟨hr, hH⟩
        · exact h3.elim
    · rintro r H' ⟨m, rfl⟩
      exact .inl ⟨(b0 ++ numD n, m), rfl, rfl⟩
  · rintro ⟨b, m⟩ hb'
    have hb' : b = b0 ++ numD n := hb'
    subst hb'
    exact retPick [0, 4] ⟨rfl, rfl⟩ rfl
  · intro _ _ h; exact h.elim

theorem Out_Num (b : Bytes) (n : Nat) (hn : n < 2 ^ 63) (hb : b.length ≤ 1000000) : AFm Tryz.prog 1 f_code_Out_Num [.ref 0 0, i64 n] (outH b) (Pure (i64 0) (outH (b ++ numD n))) := by
  have w := Out_put b n (by omega) hb
  obtain ⟨v, hv⟩ : ∃ v : Int, v = n := ⟨_, rfl⟩
  rw [← hv] at w ⊢
  rw [← wrapU v (by omega) (by omega)] at w
  refine af_bodyM 1 hT F_code_Out_Num rfl rfl N_code_Out_Num rfl rfl ?_
  refine aw_seq (aw_region hT ?_)
  refine aw_seq (aw_seq (aw_region hT ?_))
  refine aw_cond (boolI (fun h => ?_) (fun h => ?_))
  · have h := of_decide_eq_true (show decide (v < 0) = true from h)
    omega
  refine aw_skip ?_
  refine aw_seq (aw_region hT ?_)
  refine callP (af_in [0, 1] w rfl rfl rfl) ?_
  refine aw_seq (aw_region hT ?_)
  refine aw_ret ?_
  exact retPick [0, 2] ⟨rfl, rfl⟩ rfl

theorem Out_All (b : Bytes) (hb : b.length ≤ 1000000) : AFm Tryz.prog 2 f_code_Out_All [.ref 0 0] (outH b) (Pure (bA b) (outH b)) := by
  refine af_bodyM 2 hT F_code_Out_All rfl rfl N_code_Out_All rfl rfl ?_
  refine aw_seq (aw_region hT ?_)
  refine aw_seq (aw_seq (aw_region hT ?_))
  refine aw_cond ?_
  refine aw_skip ?_
  refine aw_seq (aw_region hT ?_)
  have flat : flatH [ABlk.row t_u8 1 (bx b)] := by
    intro k hk
    simp only [List.mem_singleton] at hk
    subst hk
    intro e he u hu
    simp only [bx, List.mem_map] at he
    obtain ⟨c, _, rfl⟩ := he
    simp only [List.mem_singleton] at hu
    subst hu
    trivial
  refine callP (af_lent (clone_u8M b hb) 1 rfl ⟨.inr (.inl ⟨rfl, rfl⟩), trivial⟩ rfl flat) ?_
  refine aw_wk (wk_frzE 2 2 _ rfl (bx_len b).symm rfl rfl) ?_
  refine aw_ret ?_
  exact retPick [0, 1] ⟨rfl, rfl⟩ rfl

theorem code_NewIn (b : Bytes) (hb : b.length ≤ 1000000) : AF Tryz.prog f_code_NewIn [bA b] [] (Pure (.ref 0 0) [inC b]) := by
  refine af_body hT F_code_NewIn rfl rfl N_code_NewIn rfl ?_
  refine aw_seq (aw_region hT ?_)
  refine aw_seq (aw_region hT ?_)
  refine callP (af_at (clone_u8 b hb) _ rfl rfl) ?_
  refine aw_ret ?_
  exact retPick [0] ⟨rfl, rfl⟩ rfl
end Go.Proofs.YtinfbclgkghgaaaGreat.AL

/- The layer 05 (code): bytes. -/
namespace Go.Proofs.YtinfbclgkghgaaaGreat.AL
open Go Go.Proofs

def numsD (l : List Int) : Bytes := l.flatMap fun n => numD n.toNat
theorem numsD_snoc (l : List Int) (n : Int) : numsD (l ++ [n]) = numsD l ++ numD n.toNat := by unfold numsD; simp

/-- The bytes that stand first, what is left, and what is wrong. -/
def bytesS (b : Bytes) : Bytes × Bytes × Int := match (numS b).2.2 != 0 with
  | true => ([], b, (numS b).2.2)
  | false => match decide ((numS b).1 > 4096) with
    | true => ([], b, 2)
    | false => match decide ((numS b).2.1 + (numS b).1 > b.length) with
      | true => ([], b, 6)
      | false => ((b.drop (numS b).2.1).take (numS b).1, (b.drop (numS b).2.1).drop (numS b).1, 0)
def bytesD (s : Bytes) : Bytes := numD s.length ++ s
theorem bytesS_bytesD (s r : Bytes) (hs : s.length ≤ 4096) : bytesS (bytesD s ++ r) = (s, r, 0) := by
  unfold bytesS bytesD
  rw [List.append_assoc, numS_numD _ _ (by omega)]
  show (match decide (s.length > 4096) with
    | true => ([], numD s.length ++ (s ++ r), 2)
    | false => match decide ((numD s.length).length + s.length > (numD s.length ++ (s ++ r)).length) with
      | true => ([], numD s.length ++ (s ++ r), 6)
      | false => (((numD s.length ++ (s ++ r)).drop (numD s.length).length).take s.length, ((numD s.length ++ (s ++ r)).drop (numD s.length).length).drop s.length, 0) : Bytes × Bytes × Int) = _
  rw [decide_eq_false (show ¬ s.length > 4096 by omega), decide_eq_false (show ¬ (numD s.length).length + s.length > (numD s.length ++ (s ++ r)).length by simp only [List.length_append]; omega)]
  simp
theorem sl_eq (b : Bytes) (i j : Nat) : ((bx b).take j).drop i = bx ((b.take j).drop i) := by rw [bx_drop, bx_take]
theorem td_eq (b : Bytes) (k n : Nat) : (b.take (k + n)).drop k = (b.drop k).take n := by rw [List.drop_take, Nat.add_sub_cancel_left]

set_option maxRecDepth 20000 in
theorem In_Bytes (b : Bytes) (hb : b.length ≤ 1000000) : AFm Tryz.prog 1 f_code_In_Bytes [.ref 0 0] [inC b] (Pure (.tup [bA (bytesS b).1, i64 (bytesS b).2.2]) [inC (bytesS b).2.1]) := by
  refine AFm.mono (R := fun r H' => ∃ z, z = bytesS b ∧ r = .tup [bA z.1, i64 z.2.2] ∧ H' = [inC z.2.1]) ?_ (by rintro r H' ⟨b, rfl, rfl, rfl⟩; exact ⟨rfl, rfl⟩)
  have w := In_num b hb
  have hk := (numS_k b).1
  have hn := numS_lt b
  have hz : bytesS b = match (numS b).2.2 != 0 with
    | true => ([], b, (numS b).2.2)
    | false => match decide ((numS b).1 > 4096) with
      | true => ([], b, 2)
      | false => match decide ((numS b).2.1 + (numS b).1 > b.length) with
        | true => ([], b, 6)
        | false => ((b.drop (numS b).2.1).take (numS b).1, (b.drop (numS b).2.1).drop (numS b).1, 0) := rfl
  generalize bytesS b = Z at hz
  generalize numS b = Y at w hk hn hz
  obtain ⟨n, k, e⟩ := Y
  have w : AFm Tryz.prog 1 f_code_In_num [.ref 0 0] [inC b] (Pure (.tup [i64 n, i64 k, i64 e]) [inC b]) := w
  have hz : Z = match e != 0 with
    | true => ([], b, e)
    | false => match decide (n > 4096) with
      | true => ([], b, 2)
      | false => match decide (k + n > b.length) with
        | true => ([], b, 6)
        | false => ((b.drop k).take n, (b.drop k).drop n, 0) := hz
  have hk : k ≤ b.length := hk
  have hn : n < 2 ^ 63 := hn
  have hbl := bx_len b
  refine af_bodyM 1 hT F_code_In_Bytes rfl rfl N_code_In_Bytes rfl rfl ?_
  refine aw_seq (aw_region hT ?_)
  refine aw_cut ⟨⟨53, [(0, .ref 0 0), (4, i64 n), (5, i64 k), (6, i64 e)]⟩, [inC b]⟩ True (aw_region hT ?_) (fun _ => ?_)
  · refine callP (af_in [0] w rfl rfl rfl) ?_
    exact ⟨wk_pick [0] [0, 4, 5, 6] rfl, trivial⟩
  refine aw_cut ⟨⟨53, [(0, .ref 0 0), (4, i64 n), (5, i64 k)]⟩, [inC b]⟩ (k + n ≤ b.length ∧ Z = ((b.drop k).take n, (b.drop k).drop n, 0)) (aw_block (aw_seq (aw_region hT ?_))) ?_
  · refine aw_cond (boolI (fun h => ?_) (fun h => ?_))
    · have h : (e != 0) = true := h
      rw [h] at hz
      refine aw_seq (aw_region hT ?_)
      refine aw_wk (wk_nilP 2 1 rfl) ?_
      refine aw_ret ?_
      exact retPick [0] ⟨_, hz.symm, rfl, rfl⟩ rfl
    have h : (e != 0) = false := h
    rw [h] at hz
    refine aw_seq (aw_region hT ?_)
    refine aw_cond (boolI (fun h1 => ?_) (fun h1 => ?_))
    · have h1 := of_decide_eq_true (show decide ((n : Int) > 4096) = true from h1)
      rw [decide_eq_true (show n > 4096 by omega)] at hz
      refine aw_seq (aw_region hT ?_)
      refine aw_wk (wk_nilP 2 1 rfl) ?_
      refine aw_ret ?_
      exact retPick [0] ⟨_, hz.symm, rfl, rfl⟩ rfl
    have h1 := of_decide_eq_false (show decide ((n : Int) > 4096) = false from h1)
    rw [decide_eq_false (show ¬ n > 4096 by omega)] at hz
    have hw : IntKind.i64.wrap (((bx b).length : Int) - k) = ((b.length - k : Nat) : Int) := by rw [hbl, wrap64 _ (by omega) (by omega)]; omega
    refine aw_seq (aw_region hT ?_)
    refine aw_cond (boolI (fun h2 => ?_) (fun h2 => ?_))
    · have h2 := of_decide_eq_true (show decide ((n : Int) > IntKind.i64.wrap (((bx b).length : Int) - k)) = true from h2)
      rw [hw] at h2
      rw [decide_eq_true (show k + n > b.length by omega)] at hz
      refine aw_seq (aw_region hT ?_)
      refine aw_wk (wk_nilP 2 1 rfl) ?_
      refine aw_ret ?_
      exact retPick [0] ⟨_, hz.symm, rfl, rfl⟩ rfl
    have h2 := of_decide_eq_false (show decide ((n : Int) > IntKind.i64.wrap (((bx b).length : Int) - k)) = false from h2)
    rw [hw] at h2
    rw [decide_eq_false (show ¬ k + n > b.length by omega)] at hz
    exact aw_skip ⟨wk_pick [0] [0, 4, 5] rfl, by omega, hz⟩
  rintro ⟨hkn, hz⟩
  have hw : IntKind.i64.wrap ((k : Int) + n) = ((k + n : Nat) : Int) := by rw [wrap64 _ (by omega) (by omega)]; omega
  have w2 : AF Tryz.prog f_slices_Clone_byte [.p (.sl 1 (((bx b).take (IntKind.i64.wrap ((k : Int) + n)).toNat).drop ((k : Nat) : Int).toNat))] [] (Pure (bA ((b.drop k).take n)) []) := by
    rw [hw, Int.toNat_natCast, Int.toNat_natCast, sl_eq, td_eq]
    exact clone_u8 _ (by rw [List.length_take, List.length_drop]; omega)
  refine aw_cut ⟨⟨53, [(0, .ref 0 0), (4, i64 n), (5, i64 k), (7, bA ((b.drop k).take n))]⟩, [inC b]⟩ True (aw_region hT ?_) (fun _ => ?_)
  · refine ⟨⟨Int.natCast_nonneg _, by rw [hw]; omega, by rw [hw]; omega⟩, ?_⟩
    refine callP (af_at w2 _ rfl rfl) ?_
    exact ⟨wk_pick [0] [0, 4, 5, 7] rfl, trivial⟩
  refine aw_cut2 (fun s => ∃ X, X = bx ((b.drop k).drop n) ∧ s = ⟨⟨53, [(7, bA ((b.drop k).take n))]⟩, [.cells t_code_In [.p (.sl 1 X)]]⟩) (aw_region hT ?_) ?_
  · refine ⟨⟨by rw [hw]; exact Int.natCast_nonneg _, by rw [hw]; omega⟩, ?_⟩
    refine ⟨_, wk_pick [0] [7] rfl, _, ?_, rfl⟩
    rw [hw, Int.toNat_natCast, Int.toNat_natCast, List.take_length, ← bx_drop, List.drop_drop]
  · rintro _ ⟨X, rfl, rfl⟩
    refine aw_seq (aw_region hT ?_)
    refine aw_ret ?_
    exact retPick [0] ⟨_, hz.symm, rfl, rfl⟩ rfl

set_option maxRecDepth 20000 in
theorem Out_Bytes (b s : Bytes) (hb : b.length ≤ 900000) (hs : s.length ≤ 4096) : AFm Tryz.prog 1 f_code_Out_Bytes [.ref 0 0, bA s] (outH b) (Pure (i64 0) (outH (b ++ bytesD s))) := by
  have w := Out_put b s.length (by omega) (by omega)
  have hbl := bx_len s
  have hl : (numD s.length).length ≤ 9 := numD_le _ (by omega)
  refine af_bodyM 1 hT F_code_Out_Bytes rfl rfl N_code_Out_Bytes rfl rfl ?_
  refine aw_seq (aw_region hT ?_)
  refine aw_seq (aw_block (aw_seq (aw_region hT ?_)))
  refine aw_cond ?_
  refine aw_seq (aw_region hT ?_)
  refine aw_cond (boolI (fun h => ?_) (fun h => ?_))
  · have h := of_decide_eq_true (show decide (((bx s).length : Int) > 4096) = true from h)
    omega
  refine aw_skip ?_
  rw [← hbl] at w
  obtain ⟨v, hv⟩ : ∃ v : Int, v = ((bx s).length : Int) := ⟨_, rfl⟩
  rw [← hv] at w
  rw [← wrapU v (by omega) (by omega)] at w
  refine aw_cut ⟨⟨26, [(0, .ref 0 0), (1, bA s)]⟩, outH (b ++ numD (bx s).length)⟩ True (aw_region hT ?_) (fun _ => ?_)
  · rw [hv] at w
    refine callP (af_in [0, 1] w rfl rfl rfl) ?_
    exact ⟨wk_pick [0, 2] [0, 1] rfl, trivial⟩
  generalize hB : b ++ numD (bx s).length = B
  have hBl := bx_len B
  have hBn : B.length ≤ 900009 := by rw [← hB, List.length_append, hbl]; omega
  refine aw_seq (aw_region hT ?_)
  refine ⟨rfl, ⟨?_, ?_⟩, ?_⟩
  · show ((bx B).length + (bx s).length) * 1 ≤ _
    omega
  · show (bx B).length + (bx s).length ≤ _
    omega
  refine aw_seq (aw_region hT ?_)
  refine aw_ret ?_
  rw [bytesD, ← hbl, ← List.append_assoc, hB]
  show ∃ u2 H2, _ ∧ Pure (i64 0) [.cells t_code_Out [.msl 1 1 0 (bx (B ++ s)).length], .row t_u8 1 (bx (B ++ s))] u2 H2
  rw [bx_app]
  exact retPick [0, 2] ⟨rfl, rfl⟩ rfl
end Go.Proofs.YtinfbclgkghgaaaGreat.AL

/- The layer 07, plain: what was sealed is opened. -/
namespace Go.Proofs.YtinfbclgkghgaaaGreat.AL
open Go Go.Proofs Go.Proofs.YtinfbclgkghgaaaGreat.AL.Crc

theorem leB_cons (k n : Nat) : leB (k + 1) n = UInt8.ofNat n :: leB k (n / 256) := by
  unfold leB
  rw [List.range_succ_eq_map, List.map_cons, List.map_map]
  congr 1
  · rw [Nat.pow_zero, Nat.div_one]
  · apply List.map_congr_left
    intro j _
    show UInt8.ofNat (n / 256 ^ (j + 1)) = UInt8.ofNat (n / 256 / 256 ^ j)
    rw [Nat.pow_succ, Nat.mul_comm, Nat.div_div_eq_div_mul]
theorem lenum_leB : ∀ k n, lenum (leB k n) = n % 256 ^ k
  | 0, n => by show 0 = n % 1; omega
  | k + 1, n => by
    rw [leB_cons, lenum, lenum_leB k, UInt8.toNat_ofNat', show (256 : Nat) ^ (k + 1) = 256 * 256 ^ k by rw [Nat.pow_succ, Nat.mul_comm], Nat.mod_mul, Nat.mul_comm]
    omega
theorem numB_of {s p c r : Bytes} {a w n : Nat} (hs : s = p ++ (c ++ r)) (hp : p.length = a) (hc : c.length = w) (hl : lenum c = n) : numB s a w = n := by
  subst hs; subst hp; subst hc
  unfold numB
  rw [List.drop_left, List.take_left]; exact hl

theorem open_seal {b : Blk} (hn : b.nums = true) (hb : b.body.length ≤ 228) : openB (sealB b.all) = (b, 0) := by
  obtain ⟨k, v, a, e, q, hbk, k1, k4, hv, ha, he, hq⟩ := nums_nat hn
  generalize hbody : b.body = body at hbk hb
  have hall := all_len b (by rw [hbody]; exact hb)
  have hs : sealB b.all = [81, 77, UInt8.ofNat k, 0] ++ (leB 4 v ++ (leB 4 a ++ (leB 4 e ++ (leB 4 q ++ (leB 2 body.length ++ (leB 2 0 ++ (body ++ (List.replicate (228 - body.length) 0 ++ leB 4 (sum b.all).toNat)))))))) := by
    show b.all ++ leB 4 (sum b.all).toNat = _
    have : b.all = [81, 77, UInt8.ofNat k, 0] ++ (leB 4 v ++ (leB 4 a ++ (leB 4 e ++ (leB 4 q ++ (leB 2 body.length ++ (leB 2 0 ++ (body ++ List.replicate (228 - body.length) 0))))))) := by
      unfold Blk.all Blk.head
      rw [hbk]
      simp only [layB_cons, layB_nil, Int.toNat_natCast, List.append_assoc, List.append_nil]
    generalize leB 4 (sum b.all).toNat = z
    rw [this]
    simp only [List.append_assoc]
  have hlen := sealB_len b.all
  have hw := whole_seal b.all
  have hseal : b.sld = (sealB b.all, 0) := by unfold Blk.sld; rw [hn, decide_eq_false (by rw [hbody]; omega)]
  generalize sealB b.all = s at hs hlen hw hseal
  have l4 := fun n => leB_len 4 n
  have n20 : numB s 20 2 = body.length := numB_of (p := [81, 77, UInt8.ofNat k, 0] ++ (leB 4 v ++ (leB 4 a ++ (leB 4 e ++ leB 4 q)))) (c := leB 2 body.length) (by rw [hs]; simp only [List.append_assoc]; rfl) (by simp only [List.length_append, l4]; rfl) (leB_len _ _) (by rw [lenum_leB]; omega)
  have n4 : numB s 4 4 = v := numB_of (p := [81, 77, UInt8.ofNat k, 0]) (c := leB 4 v) hs rfl (leB_len _ _) (by rw [lenum_leB]; omega)
  have n8 : numB s 8 4 = a := numB_of (p := [81, 77, UInt8.ofNat k, 0] ++ leB 4 v) (c := leB 4 a) (by rw [hs]; simp only [List.append_assoc]; rfl) (by simp only [List.length_append, l4]; rfl) (leB_len _ _) (by rw [lenum_leB]; omega)
  have n12 : numB s 12 4 = e := numB_of (p := [81, 77, UInt8.ofNat k, 0] ++ (leB 4 v ++ leB 4 a)) (c := leB 4 e) (by rw [hs]; simp only [List.append_assoc]; rfl) (by simp only [List.length_append, l4]; rfl) (leB_len _ _) (by rw [lenum_leB]; omega)
  have n16 : numB s 16 4 = q := numB_of (p := [81, 77, UInt8.ofNat k, 0] ++ (leB 4 v ++ (leB 4 a ++ leB 4 e))) (c := leB 4 q) (by rw [hs]; simp only [List.append_assoc]; rfl) (by simp only [List.length_append, l4]; rfl) (leB_len _ _) (by rw [lenum_leB]; omega)
  have hd : (s.drop 24).take body.length = body := by
    have e1 : s = ([81, 77, UInt8.ofNat k, 0] ++ (leB 4 v ++ (leB 4 a ++ (leB 4 e ++ (leB 4 q ++ (leB 2 body.length ++ leB 2 0)))))) ++ (body ++ (List.replicate (228 - body.length) 0 ++ leB 4 (sum b.all).toNat)) := by rw [hs]; simp only [List.append_assoc]
    have e2 : ([81, 77, UInt8.ofNat k, 0] ++ (leB 4 v ++ (leB 4 a ++ (leB 4 e ++ (leB 4 q ++ (leB 2 body.length ++ leB 2 0)))))).length = 24 := by simp only [List.length_append, l4, leB_len]; rfl
    rw [e1, ← e2, List.drop_left, List.take_left]
  have hk : s.getD 2 0 = UInt8.ofNat k := by rw [hs]; rfl
  have hblk : blkOf s = b := by
    unfold blkOf
    rw [n20, n4, n8, n12, n16, hd, hk, hbk, UInt8.toNat_ofNat']
    congr 1
    omega
  unfold openB
  rw [hw, n20, hblk, hseal, decide_eq_true (show s.length = 256 by omega), decide_eq_false (show ¬ (body.length : Int) > 228 by omega)]
  show (match (0 : Int) != 0 || !(s == s) with | true => (Blk.zero, 7) | false => (b, 0) : Blk × Int) = _
  rw [show (s == s) = true from beq_self_eq_true s]
  rfl

theorem openB_len (s : Bytes) : (openB s).1.body.length ≤ s.length := by
  unfold openB
  split
  · exact Nat.zero_le _
  · split
    · exact Nat.zero_le _
    · split
      · exact Nat.zero_le _
      · show ((s.drop 24).take _).length ≤ _
        rw [List.length_take, List.length_drop]; omega

end Go.Proofs.YtinfbclgkghgaaaGreat.AL

/- Numbers that stand behind each other (plain). -/
namespace Go.Proofs.YtinfbclgkghgaaaGreat.AL
open Go Go.Proofs Go.Proofs.YtinfbclgkghgaaaGreat.AL.Crc

def rst (b : Bytes) : Nat → Bytes
  | 0 => b
  | i + 1 => (rst b i).drop (numS (rst b i)).2.1
def nv (b : Bytes) (i : Nat) : Int := ((numS (rst b i)).1 : Int)
theorem rst_len (b : Bytes) : ∀ i, (rst b i).length ≤ b.length
  | 0 => Nat.le_refl _
  | i + 1 => by
    have := rst_len b i
    show ((rst b i).drop _).length ≤ _
    rw [List.length_drop]; omega
end Go.Proofs.YtinfbclgkghgaaaGreat.AL

/- The layer 08 (geo): may a geometry be; its room. -/
namespace Go.Proofs.YtinfbclgkghgaaaGreat.AL
open Go Go.Proofs

def inR (n lo hi : Int) : Bool := decide (n ≥ lo) && decide (n ≤ hi)
theorem geo_in (n lo hi : Int) : AF Tryz.prog f_geo_in [i64 n, i64 lo, i64 hi] [] (Pure (bl (inR n lo hi)) []) := by
  refine af_body hT F_geo_in rfl rfl N_geo_in rfl ?_
  refine aw_seq (aw_region hT ?_)
  unfold inR
  refine aw_seq (aw_region hT ?_)
  refine boolI (fun h => ?_) (fun h => ?_)
  · rw [show decide (n ≥ lo) = true from h]
    refine aw_ret ?_
    exact retPick [] ⟨rfl, rfl⟩ rfl
  · rw [show decide (n ≥ lo) = false from h]
    refine aw_ret ?_
    exact retPick [] ⟨rfl, rfl⟩ rfl

structure GeoV where
  w : Int
  s : Int
  k : Int
  m : Int
  deriving DecidableEq
abbrev GeoV.pv (g : GeoV) : List PV := [.raw (.int .i64 g.w), .raw (.int .i64 g.s), .raw (.int .i64 g.k), .raw (.int .i64 g.m)]
abbrev GeoV.av (g : GeoV) : AV := .agg [i64 g.w, i64 g.s, i64 g.k, i64 g.m]
def GeoV.fits (g : GeoV) : Bool := inR g.w 8 512 && inR g.s 1 32 && inR g.k 1 16 && inR g.m 1 8
def GeoV.may (g : GeoV) : Bool := g.fits && decide (4 + 2 * g.w + 2 * g.s * (g.k + g.m) ≤ 4096)
def GeoV.room (g : GeoV) : Int := match g.may with | true => g.s * g.k * 228 | false => 0
theorem fits_of {g : GeoV} (h : g.fits = true) : 8 ≤ g.w ∧ g.w ≤ 512 ∧ 1 ≤ g.s ∧ g.s ≤ 32 ∧ 1 ≤ g.k ∧ g.k ≤ 16 ∧ 1 ≤ g.m ∧ g.m ≤ 8 := by
  unfold GeoV.fits inR at h
  simp only [Bool.and_eq_true, decide_eq_true_eq] at h
  omega
theorem fits_mul {g : GeoV} (h : g.fits = true) : 0 ≤ g.s * (g.k + g.m) ∧ g.s * (g.k + g.m) ≤ 768 ∧ 0 ≤ g.s * g.k ∧ g.s * g.k ≤ 512 ∧ 2 * g.s * (g.k + g.m) = 2 * (g.s * (g.k + g.m)) := by
  obtain ⟨h1, h2, h3, h4, h5, h6, h7, h8⟩ := fits_of h
  have a := Int.mul_le_mul (show g.s ≤ 32 from h4) (show g.k + g.m ≤ 24 by omega) (by omega) (by omega)
  have b := Int.mul_le_mul (show g.s ≤ 32 from h4) (show g.k ≤ 16 by omega) (by omega) (by omega)
  exact ⟨Int.mul_nonneg (by omega) (by omega), by omega, Int.mul_nonneg (by omega) (by omega), by omega, Int.mul_assoc _ _ _⟩

theorem geo_sectors (g : GeoV) (h : g.fits = true) : AF Tryz.prog f_geo_sectors [g.av] [] (Pure (i64 (4 + 2 * g.w + 2 * g.s * (g.k + g.m))) []) := by
  obtain ⟨h1, h2, h3, h4, h5, h6, h7, h8⟩ := fits_of h
  obtain ⟨m1, m2, m3, m4, m5⟩ := fits_mul h
  have wl : AF Tryz.prog f_geo_logged [g.av] [] (Pure (i64 (4 + 2 * g.w)) []) := by
    refine af_body hT F_geo_logged rfl rfl N_geo_logged rfl ?_
    refine aw_seq (aw_region hT ?_)
    refine aw_wk (wk_boxL 0 g.pv rfl rfl) ?_
    refine aw_seq (aw_region hT ?_)
    refine aw_ret ?_
    rw [show i64 (4 + 2 * g.w) = i64 (IntKind.i64.wrap (4 + IntKind.i64.wrap (2 * g.w))) by rw [wrap64 (2 * g.w) (by omega) (by omega), wrap64 _ (by omega) (by omega)]]
    exact retPick [] ⟨rfl, rfl⟩ rfl
  have ww : AF Tryz.prog f_geo_wide [g.av] [] (Pure (i64 (g.k + g.m)) []) := by
    refine af_body hT F_geo_wide rfl rfl N_geo_wide rfl ?_
    refine aw_seq (aw_region hT ?_)
    refine aw_wk (wk_boxL 0 g.pv rfl rfl) ?_
    refine aw_seq (aw_region hT ?_)
    refine aw_ret ?_
    rw [show i64 (g.k + g.m) = i64 (IntKind.i64.wrap (g.k + g.m)) by rw [wrap64 _ (by omega) (by omega)]]
    exact retPick [] ⟨rfl, rfl⟩ rfl
  refine af_body hT F_geo_sectors rfl rfl N_geo_sectors rfl ?_
  refine aw_seq (aw_region hT ?_)
  refine aw_wk (wk_boxL 0 g.pv rfl rfl) ?_
  refine aw_seq ?_
  refine aw_draw [] [] hT follows_mixed (by rfl) ?_
  refine ⟨_, af_at wl _ rfl rfl, ?_⟩
  refine ⟨_, af_at ww _ rfl rfl, ?_⟩
  refine aw_ret ?_
  rw [show i64 (4 + 2 * g.w + 2 * g.s * (g.k + g.m)) = i64 (IntKind.i64.wrap (4 + 2 * g.w + IntKind.i64.wrap (IntKind.i64.wrap (2 * g.s) * (g.k + g.m)))) by
    rw [wrap64 (2 * g.s) (by omega) (by omega), wrap64 (2 * g.s * (g.k + g.m)) (by omega) (by omega), wrap64 _ (by omega) (by omega)]]
  exact retPick [] ⟨rfl, rfl⟩ rfl

theorem geo_May (g : GeoV) : AF Tryz.prog f_geo_May [g.av] [] (Pure (bl g.may) []) := by
  refine af_body hT F_geo_May rfl rfl N_geo_May rfl ?_
  refine aw_seq (aw_region hT ?_)
  refine aw_wk (wk_boxL 0 g.pv rfl rfl) ?_
  refine aw_cut ⟨⟨28, [(1, .p (.box g.pv)), (3, bl g.fits)]⟩, []⟩ True (aw_region hT ?_) (fun _ => ?_)
  · unfold GeoV.fits
    refine callP (af_at (geo_in g.w 8 512) _ rfl rfl) ?_
    refine boolI (fun h => ?_) (fun h => ?_)
    · rw [show inR g.w 8 512 = true from h]
      refine callP (af_at (geo_in g.s 1 32) _ rfl rfl) ?_
      refine boolI (fun h => ?_) (fun h => ?_)
      · rw [show inR g.s 1 32 = true from h]
        refine callP (af_at (geo_in g.k 1 16) _ rfl rfl) ?_
        refine boolI (fun h => ?_) (fun h => ?_)
        · rw [show inR g.k 1 16 = true from h]
          refine callP (af_at (geo_in g.m 1 8) _ rfl rfl) ?_
          exact ⟨wk_pick [] [1, 3] rfl, trivial⟩
        · rw [show inR g.k 1 16 = false from h]
          exact ⟨wk_pick [] [1, 3] rfl, trivial⟩
      · rw [show inR g.s 1 32 = false from h]
        exact ⟨wk_pick [] [1, 3] rfl, trivial⟩
    · rw [show inR g.w 8 512 = false from h]
      exact ⟨wk_pick [] [1, 3] rfl, trivial⟩
  unfold GeoV.may
  refine aw_seq (aw_region hT ?_)
  refine boolI (fun h => ?_) (fun h => ?_)
  · have h : g.fits = true := h
    rw [h]
    refine callP (af_at (geo_sectors g h) _ rfl rfl) ?_
    refine aw_ret ?_
    exact retPick [] ⟨rfl, rfl⟩ rfl
  · rw [show g.fits = false from h]
    refine aw_ret ?_
    exact retPick [] ⟨rfl, rfl⟩ rfl

end Go.Proofs.YtinfbclgkghgaaaGreat.AL

/- The document's layer 08: may a geometry be. -/
namespace Go.Proofs.YtinfbclgkghgaaaGreat.AL
open Go Go.Proofs

theorem fits_iff (g : GeoV) : (g.fits = true) = (8 ≤ g.w ∧ g.w ≤ 512 ∧ 1 ≤ g.s ∧ g.s ≤ 32 ∧ 1 ≤ g.k ∧ g.k ≤ 16 ∧ 1 ≤ g.m ∧ g.m ≤ 8) := by
  refine propext ⟨fits_of, fun h => ?_⟩
  unfold GeoV.fits inR
  simp only [Bool.and_eq_true, decide_eq_true_eq]
  omega
set_option maxRecDepth 20000 in
theorem ref08_May (g : GeoV) : AF Tryz.prog f_ref08_May [g.av] [] (Pure (bl g.may) []) := by
  have no : ¬ (8 ≤ g.w ∧ g.w ≤ 512 ∧ 1 ≤ g.s ∧ g.s ≤ 32 ∧ 1 ≤ g.k ∧ g.k ≤ 16 ∧ 1 ≤ g.m ∧ g.m ≤ 8) → g.may = false := fun h => by
    have h2 : g.fits = false := by rw [← Bool.not_eq_true, fits_iff]; exact h
    unfold GeoV.may; rw [h2]; rfl
  refine AF.mono (R := fun r H' => ∃ b, b = g.may ∧ r = bl b ∧ H' = []) ?_ (by rintro r H' ⟨b, rfl, rfl, rfl⟩; exact ⟨rfl, rfl⟩)
  refine af_body hT F_ref08_May rfl rfl N_ref08_May rfl ?_
  refine aw_seq (aw_region hT ?_)
  refine aw_wk (wk_boxL 0 g.pv rfl rfl) ?_
  refine aw_cut ⟨⟨56, [(1, .p (.box g.pv))]⟩, []⟩ (g.fits = true) (aw_seq (aw_region hT ?_)) ?_
  · skip
    refine boolI (fun h0 => ?_) (fun h0 => ?_)
    · skip
      have h0 := of_decide_eq_true (show decide (g.w < 8) = true from h0)
      refine aw_cond ?_
      refine aw_seq (aw_region hT ?_)
      refine aw_ret ?_
      exact retPick [] ⟨_, (no (by omega)).symm, rfl, rfl⟩ rfl
    · have h0 := of_decide_eq_false (show decide (g.w < 8) = false from h0)
      refine boolI (fun h1 => ?_) (fun h1 => ?_)
      · skip
        have h1 := of_decide_eq_true (show decide (g.w > 512) = true from h1)
        refine aw_cond ?_
        refine aw_seq (aw_region hT ?_)
        refine aw_ret ?_
        exact retPick [] ⟨_, (no (by omega)).symm, rfl, rfl⟩ rfl
      · have h1 := of_decide_eq_false (show decide (g.w > 512) = false from h1)
        refine boolI (fun h2 => ?_) (fun h2 => ?_)
        · skip
          have h2 := of_decide_eq_true (show decide (g.s < 1) = true from h2)
          refine aw_cond ?_
          refine aw_seq (aw_region hT ?_)
          refine aw_ret ?_
          exact retPick [] ⟨_, (no (by omega)).symm, rfl, rfl⟩ rfl
        · have h2 := of_decide_eq_false (show decide (g.s < 1) = false from h2)
          refine boolI (fun h3 => ?_) (fun h3 => ?_)
          · skip
            have h3 := of_decide_eq_true (show decide (g.s > 32) = true from h3)
            refine aw_cond ?_
            refine aw_seq (aw_region hT ?_)
            refine aw_ret ?_
            exact retPick [] ⟨_, (no (by omega)).symm, rfl, rfl⟩ rfl
          · have h3 := of_decide_eq_false (show decide (g.s > 32) = false from h3)
            refine boolI (fun h4 => ?_) (fun h4 => ?_)
            · skip
              have h4 := of_decide_eq_true (show decide (g.k < 1) = true from h4)
              refine aw_cond ?_
              refine aw_seq (aw_region hT ?_)
              refine aw_ret ?_
              exact retPick [] ⟨_, (no (by omega)).symm, rfl, rfl⟩ rfl
            · have h4 := of_decide_eq_false (show decide (g.k < 1) = false from h4)
              refine boolI (fun h5 => ?_) (fun h5 => ?_)
              · skip
                have h5 := of_decide_eq_true (show decide (g.k > 16) = true from h5)
                refine aw_cond ?_
                refine aw_seq (aw_region hT ?_)
                refine aw_ret ?_
                exact retPick [] ⟨_, (no (by omega)).symm, rfl, rfl⟩ rfl
              · have h5 := of_decide_eq_false (show decide (g.k > 16) = false from h5)
                refine boolI (fun h6 => ?_) (fun h6 => ?_)
                · skip
                  have h6 := of_decide_eq_true (show decide (g.m < 1) = true from h6)
                  refine aw_cond ?_
                  refine aw_seq (aw_region hT ?_)
                  refine aw_ret ?_
                  exact retPick [] ⟨_, (no (by omega)).symm, rfl, rfl⟩ rfl
                · have h6 := of_decide_eq_false (show decide (g.m < 1) = false from h6)
                  refine aw_cond (boolI (fun h7 => ?_) (fun h7 => ?_))
                  · skip
                    have h7 := of_decide_eq_true (show decide (g.m > 8) = true from h7)
                    skip
                    refine aw_seq (aw_region hT ?_)
                    refine aw_ret ?_
                    exact retPick [] ⟨_, (no (by omega)).symm, rfl, rfl⟩ rfl
                  · have h7 := of_decide_eq_false (show decide (g.m > 8) = false from h7)
                    exact aw_skip ⟨wk_pick [] [1] rfl, by rw [fits_iff]; omega⟩
  intro hf
  obtain ⟨h1, h2, h3, h4, h5, h6, h7, h8⟩ := fits_of hf
  obtain ⟨m1, m2, m3, m4, m5⟩ := fits_mul hf
  refine aw_seq (aw_region hT ?_)
  refine aw_ret ?_
  refine retPick [] ⟨_, ?_, rfl, rfl⟩ rfl
  show decide (IntKind.i64.wrap (IntKind.i64.wrap (4 + IntKind.i64.wrap (2 * g.w)) + IntKind.i64.wrap (IntKind.i64.wrap (2 * g.s) * IntKind.i64.wrap (g.k + g.m))) ≤ 4096) = _
  unfold GeoV.may
  rw [hf, Bool.true_and, wrap64 (2 * g.w) (by omega) (by omega), wrap64 (4 + 2 * g.w) (by omega) (by omega), wrap64 (2 * g.s) (by omega) (by omega), wrap64 (g.k + g.m) (by omega) (by omega), wrap64 (2 * g.s * (g.k + g.m)) (by omega) (by omega), wrap64 _ (by omega) (by omega)]
end Go.Proofs.YtinfbclgkghgaaaGreat.AL

/- The abstract layer (second make), part x: a region that draws its order, of which some operations make new rows in any order. -/
namespace Go.Proofs.YtinfbclgkghgaaaGreat.AL
open Go Go.RowKit

/-- A hole of the list is filled by a row that was made elsewhere. -/
theorem fill {w w' : World} {I I' : Nat → Prop} {ι ι1 : Nat → Option Nat} {H : List ABlk} {b sz : Nat} {t : TypeId} {xs : List (List PV)} (hs : SimH w I ι H) (hb : H[b]? = some .dead) (hι : ι b = none)
    (h1 : SimH w' I' ι1 [.row t sz xs]) (hx : Ext w I (fun _ => none) [] w' I' ι1 [.row t sz xs]) :
    SimH w' I' (fun x => if x = b then ι1 0 else ι x) (H.set b (.row t sz xs)) ∧ Ext w I ι H w' I' (fun x => if x = b then ι1 0 else ι x) (H.set b (.row t sz xs)) := by
  have hbl : b < H.length := (List.getElem?_eq_some_iff.1 hb).1
  have nol : ∀ c, ¬ live ([] : List ABlk) c := fun c ⟨k, hk, _⟩ => by simp at hk
  have fr : ∀ B, B < w.heap.size → w'.heap[B]? = w.heap[B]? := fun B hB => hx.frame B hB fun ⟨c, hc, _⟩ => nol c hc
  have hI : ∀ B, I B → w'.heap[B]? = w.heap[B]? := fun B hB => fr B (hs.Ilt B hB)
  have inew : ∀ B, I' B → I B ∨ w.heap.size ≤ B := fun B hB => by
    rcases hx.Inew B hB with h | h | ⟨c, hc, _⟩
    · exact .inl h
    · exact .inr h
    · exact absurd hc (nol c)
  have own0 : ∀ B, ι1 0 = some B → w.heap.size ≤ B := fun B hB => by
    rcases hx.own 0 B ⟨_, rfl, rfl⟩ hB with h | ⟨c, hc, _⟩
    · exact h
    · exact absurd hc (nol c)
  have mv : ∀ c B, ι c = some B → (if c = b then ι1 0 else ι c) = some B := fun c B hc => by
    by_cases e : c = b
    · subst e; rw [hι] at hc; simp at hc
    · rw [if_neg e]; exact hc
  have lv : ∀ c, live (H.set b (.row t sz xs)) c → c ≠ b → live H c := fun c ⟨k, hk, hl⟩ hc => by
    rw [List.getElem?_set_ne (by omega)] at hk; exact ⟨k, hk, hl⟩
  have ldb : ¬ live H b := fun ⟨k, hk, hl⟩ => by rw [hb] at hk; obtain rfl := Option.some.inj hk; simp [ABlk.live] at hl
  have notI : ∀ {B}, B < w.heap.size → ¬ I B → ¬ I' B := fun {B} hB hn hI' => by
    rcases inew B hI' with h | h
    · exact hn h
    · omega
  refine ⟨⟨?_, ?_, h1.Ilt, ?_, ?_⟩, ⟨hx.os, hx.tape, hx.output, hx.size, hx.shape, hx.Isub, fun B hB _ => fr B hB, fun B hB => ?_, ?_⟩⟩
  · intro c kc hc
    by_cases e : c = b
    · subst e
      rw [List.getElem?_set_self hbl] at hc
      obtain rfl := Option.some.inj hc
      have h0 := h1.blk 0 _ rfl
      rcases h0 with ⟨g1, g2⟩ | ⟨B, cs, g1, g2⟩
      · exact .inl ⟨g1, by show (if c = c then ι1 0 else ι c) = none; rw [if_pos rfl]; exact g2⟩
      · exact .inr ⟨B, cs, by show (if c = c then ι1 0 else ι c) = some B; rw [if_pos rfl]; exact g1, g2⟩
    · rw [List.getElem?_set_ne (by omega)] at hc
      have h0 := hs.blk c kc hc
      cases kc with
      | dead => trivial
      | cells t l =>
        obtain ⟨B, cs, g1, g2, g3, g4, g5⟩ := h0
        exact ⟨B, cs, mv c B g1, by rw [fr B (hs.rng c B g1)]; exact g2, notI (hs.rng c B g1) g3, g4, fun i u hu => (g5 i u hu).move hI hx.Isub mv hx.shape⟩
      | lp q st pe l =>
        obtain ⟨B, cs, g1, g2, g3, g4, g5⟩ := h0
        exact ⟨B, cs, mv c B g1, by rw [fr B (hs.rng c B g1)]; exact g2, notI (hs.rng c B g1) g3, g4, fun i u hu => (g5 i u hu).move hI hx.Isub mv hx.shape⟩
      | row t sz xs =>
        rcases h0 with ⟨g1, g2⟩ | ⟨B, cs, g1, g2, g3, g4, g5, g6⟩
        · exact .inl ⟨g1, by show (if c = b then ι1 0 else ι c) = none; rw [if_neg e]; exact g2⟩
        · exact .inr ⟨B, cs, mv c B g1, by rw [fr B (hs.rng c B g1)]; exact g2, notI (hs.rng c B g1) g3, g4, g5, fun j x hj => ⟨(g6 j x hj).1, fun i u hu => ((g6 j x hj).2 i u hu).move hI hx.Isub⟩⟩
      | obj o =>
        obtain ⟨g0, B, g1, g2, g3⟩ := h0
        exact ⟨g0, B, mv c B g1, by rw [fr B (hs.rng c B g1)]; exact g2, notI (hs.rng c B g1) g3⟩
  · intro c c' B hc hc' e1 e2
    have e1 : (if c = b then ι1 0 else ι c) = some B := e1
    have e2 : (if c' = b then ι1 0 else ι c') = some B := e2
    by_cases h : c = b <;> by_cases h' : c' = b
    · omega
    · rw [if_pos h] at e1; rw [if_neg h'] at e2
      have := own0 B e1; have := hs.rng c' B e2; omega
    · rw [if_neg h] at e1; rw [if_pos h'] at e2
      have := own0 B e2; have := hs.rng c B e1; omega
    · rw [if_neg h] at e1; rw [if_neg h'] at e2
      exact hs.inj c c' B (lv c hc h) (lv c' hc' h') e1 e2
  · intro c hc
    simp only [List.length_set] at hc
    show (if c = b then ι1 0 else ι c) = none
    rw [if_neg (by omega)]; exact hs.dom c hc
  · intro c B hc
    have hc : (if c = b then ι1 0 else ι c) = some B := hc
    by_cases e : c = b
    · rw [if_pos e] at hc; exact h1.rng 0 B hc
    · rw [if_neg e] at hc; have := hs.rng c B hc; have := hx.size; omega
  · rcases inew B hB with h | h
    · exact .inl h
    · exact .inr (.inl h)
  · intro c B hc e1
    have e1 : (if c = b then ι1 0 else ι c) = some B := e1
    by_cases e : c = b
    · rw [if_pos e] at e1; exact .inl (own0 B e1)
    · rw [if_neg e] at e1; exact .inr ⟨c, lv c hc e, e1⟩

section
variable {P : Program} {T : TTab} {ops : Array Oper} {m N : Nat} {B : Array Bool → List ABlk} {G : Array Bool → (Nat → Option Nat) → Prop}

end

/-! Some operations make rows, in any order: each has its own place behind the blocks that came in. -/
structure Mk where
  k : Nat
  t : TypeId
  sz : Nat
  len : Nat
  xs : List (List PV)
abbrev Mk.row (x : Mk) : ABlk := .row x.t x.sz x.xs
abbrev Mk.val (x : Mk) (b : Nat) : AV := .msl b x.sz 0 x.len

section
variable {P : Program} {T : TTab} {ops ops' : Array Oper} {m : Nat} {fe : List Mk} {ef : List Nat}

end
end Go.Proofs.YtinfbclgkghgaaaGreat.AL

/- The layer: a whole row becomes immutable. -/
namespace Go.Proofs.YtinfbclgkghgaaaGreat.AL
open Go

theorem wk_frzN {m : Nat} {s : St} (i b sz n : Nat) {t : TypeId} {xs ys : List (List PV)} (e : xs = ys) (hn : n = xs.length) (hb : s.H[b]? = some (.row t sz xs)) (hi : look s.fr.l i = some (.msl b sz 0 n)) :
    Wk m s ⟨⟨s.fr.n, (i, .p (.sl sz ys)) :: s.fr.l⟩, s.H.set b .dead⟩ := by
  subst hn
  have := wk_frz1 (m := m) (s := s) i b hb hi (by omega)
  rw [List.drop_zero, List.take_length] at this
  subst e
  exact this
end Go.Proofs.YtinfbclgkghgaaaGreat.AL

/- The layer 11: may numbers be a block's. -/
namespace Go.Proofs.YtinfbclgkghgaaaGreat.AL
open Go Go.Proofs

theorem ring_word (l : List Int) (hl : l.length ≤ 1000000) : AF Tryz.prog f_ring_word [.p (.sl 1 (ix l))] [] (Pure (bl (l.all wordB)) []) := by
  refine af_body hT F_ring_word rfl rfl N_ring_word rfl ?_
  refine aw_seq (aw_region hT ?_)
  refine aw_cut ⟨⟨18, []⟩, []⟩ (l.all wordB = true) (aw_seq (aw_region hT ?_)) ?_
  · refine aw_block ?_
    refine aw_loopW (fun n s => ∃ (i : Nat) (j : Int), n + i = l.length ∧ j = i ∧ (l.take i).all wordB = true ∧ s = ⟨⟨18, [(5, .p (.sl 1 (ix l))), (6, i64 l.length), (7, i64 j)]⟩, []⟩) l.length ⟨⟨18, _⟩, []⟩ (wk_pick [] [5, 6, 7] rfl) ⟨0, 0, rfl, rfl, rfl, by rw [← ixl l]; rfl⟩ ?_
    rintro n s ⟨i, j, hni, rfl, ht, rfl⟩
    refine aw_seq (aw_region hT ?_)
    refine aw_seq (aw_cond (boolI (fun h => ?_) (fun h => ?_)))
    · have hi : i < l.length := by
        have := of_decide_eq_true (show decide ((i : Int) < (l.length : Int)) = true from h)
        omega
      have hx := List.getElem?_eq_getElem hi
      have hmem := List.getElem_mem hi
      have htk : l.take (i + 1) = l.take i ++ [l[i]] := by rw [List.take_add_one, hx]; rfl
      generalize l[i] = c at hx htk hmem
      have hxp : (ix l)[((i : Nat) : Int).toNat]? = some [.raw (.int .i64 c)] := by rw [Int.toNat_natCast]; exact ixg hx
      have bad : wordB c = false → l.all wordB = false := fun h => by
        rw [List.all_eq_false]; exact ⟨c, hmem, by rw [h]; simp⟩
      refine aw_skip ?_
      refine aw_cut ⟨⟨18, [(5, .p (.sl 1 (ix l))), (6, i64 l.length), (7, i64 i)]⟩, []⟩ (wordB c = true) (aw_block (aw_seq (aw_region hT ?_))) ?_
      · refine ⟨Int.natCast_nonneg _, optI hxp ?_⟩
        refine aw_seq (aw_region hT ?_)
        refine boolI (fun h2 => ?_) (fun h2 => ?_)
        · have h2 := of_decide_eq_true (show decide (c < 0) = true from h2)
          refine aw_cond ?_
          refine aw_seq (aw_region hT ?_)
          refine aw_ret ?_
          rw [bad (by unfold wordB; rw [decide_eq_false (by omega)]; rfl)]
          exact retPick [] ⟨rfl, rfl⟩ rfl
        · have h2 := of_decide_eq_false (show decide (c < 0) = false from h2)
          refine aw_cond (boolI (fun h3 => ?_) (fun h3 => ?_))
          · have h3 := of_decide_eq_true (show decide (c > 4294967295) = true from h3)
            refine aw_seq (aw_region hT ?_)
            refine aw_ret ?_
            rw [bad (by unfold wordB; rw [decide_eq_false (show ¬ c ≤ 4294967295 by omega), Bool.and_false])]
            exact retPick [] ⟨rfl, rfl⟩ rfl
          · have h3 := of_decide_eq_false (show decide (c > 4294967295) = false from h3)
            exact aw_skip ⟨wk_pick [] [5, 6, 7] rfl, by unfold wordB; rw [decide_eq_true (show 0 ≤ c by omega), decide_eq_true (show c ≤ 4294967295 by omega)]; rfl⟩
      · intro hc
        refine aw_region hT ?_
        refine ⟨n - 1, by omega, _, wk_pick [] [5, 6, 7] rfl, i + 1, IntKind.i64.wrap ((i : Int) + 1), by omega, ?_, ?_, rfl⟩
        · rw [wrap64 _ (by omega) (by omega)]; rfl
        · rw [htk, List.all_append, ht]; simp [hc]
    · have hi : ¬ (i : Int) < (l.length : Int) := of_decide_eq_false h
      have hil : i = l.length := by omega
      subst hil
      rw [List.take_length] at ht
      refine aw_exit ?_
      exact ⟨wk_pick [] [] rfl, ht⟩
  · intro h
    rw [h]
    refine aw_seq (aw_region hT ?_)
    refine aw_ret ?_
    exact retPick [] ⟨rfl, rfl⟩ rfl

end Go.Proofs.YtinfbclgkghgaaaGreat.AL

/- The layer 11 (ring): may a piece be; its sector. -/
namespace Go.Proofs.YtinfbclgkghgaaaGreat.AL
open Go Go.Proofs

structure Pc where
  seq : Int
  epoch : Int
  frm : Int
  chain : Int
  index : Int
  of_ : Int
  b : Bytes
  deriving DecidableEq
abbrev Pc.pv (p : Pc) : List PV := [.raw (.int .i64 p.seq), .raw (.int .i64 p.epoch), .raw (.int .i64 p.frm), .raw (.int .i64 p.chain), .raw (.int .i64 p.index), .raw (.int .i64 p.of_), bP p.b]
abbrev Pc.cv (p : Pc) : List AV := [i64 p.seq, i64 p.epoch, i64 p.frm, i64 p.chain, i64 p.index, i64 p.of_, bA p.b]
abbrev Pc.av (p : Pc) : AV := .agg p.cv
def Pc.words (p : Pc) : Bool := [p.seq, p.epoch, p.frm, p.chain].all wordB
def Pc.may (p : Pc) : Bool := p.words && decide (p.frm ≤ p.seq) && decide (p.of_ ≥ 1) && decide (p.of_ ≤ 64) && decide (p.index ≥ 0) && decide (p.index < p.of_) && decide (p.b.length ≤ 200)

set_option maxRecDepth 20000 in
theorem ring_May (p : Pc) : AF Tryz.prog f_ring_May [p.av] [] (Pure (bl p.may) []) := by
  refine AF.mono (R := fun r H' => ∃ b, b = p.may ∧ r = bl b ∧ H' = []) ?_ (by rintro r H' ⟨b, rfl, rfl, rfl⟩; exact ⟨rfl, rfl⟩)
  have hbl := bx_len p.b
  refine af_body hT F_ring_May rfl rfl N_ring_May rfl ?_
  refine aw_seq (aw_region hT ?_)
  refine aw_wk (wk_boxL 0 p.pv rfl rfl) ?_
  refine aw_cut2 (fun s => ∃ c, c = (p.words && decide (p.frm ≤ p.seq)) ∧ s = ⟨⟨50, [(1, .p (.box p.pv)), (3, bl c)]⟩, []⟩) (aw_regionF (fun k => Nat.beq 8 k) hT ?_) ?_
  · refine ⟨⟨rfl, rfl⟩, ?_⟩
    refine callP (af_at (ring_word [p.seq, p.epoch, p.frm, p.chain] (by simp)) _ rfl rfl) ?_
    refine boolI (fun h => ?_) (fun h => ?_)
    · have h : p.words = true := h
      exact ⟨_, wk_pick [] [1, 3] rfl, _, by rw [h]; rfl, rfl⟩
    · have h : p.words = false := h
      exact ⟨_, wk_pick [] [1, 3] rfl, _, by rw [h]; rfl, rfl⟩
  rintro _ ⟨c, hc, rfl⟩
  have e : p.may = (c && decide (p.of_ ≥ 1) && decide (p.of_ ≤ 64) && decide (p.index ≥ 0) && decide (p.index < p.of_) && decide ((((bx p.b).length : Nat) : Int) ≤ 200)) := by unfold Pc.may; rw [hc, show decide ((((bx p.b).length : Nat) : Int) ≤ 200) = decide (p.b.length ≤ 200) from decide_eq_decide.mpr (by omega)]
  refine aw_seq (aw_region hT ?_)
  refine boolI (fun h0 => ?_) (fun h0 => ?_)
  · have h0 : c = true := h0
    refine boolI (fun h1 => ?_) (fun h1 => ?_)
    · have h1 : decide (p.of_ ≥ 1) = true := h1
      refine boolI (fun h2 => ?_) (fun h2 => ?_)
      · have h2 : decide (p.of_ ≤ 64) = true := h2
        refine boolI (fun h3 => ?_) (fun h3 => ?_)
        · have h3 : decide (p.index ≥ 0) = true := h3
          refine boolI (fun h4 => ?_) (fun h4 => ?_)
          · have h4 : decide (p.index < p.of_) = true := h4
            refine aw_ret ?_
            exact retPick [] ⟨_, by rw [e, h0, h1, h2, h3, h4]; rfl, rfl, rfl⟩ rfl
          · have h4 : decide (p.index < p.of_) = false := h4
            refine aw_ret ?_
            exact retPick [] ⟨_, by rw [e, h0, h1, h2, h3, h4]; rfl, rfl, rfl⟩ rfl
        · have h3 : decide (p.index ≥ 0) = false := h3
          refine aw_ret ?_
          exact retPick [] ⟨_, by rw [e, h0, h1, h2, h3]; rfl, rfl, rfl⟩ rfl
      · have h2 : decide (p.of_ ≤ 64) = false := h2
        refine aw_ret ?_
        exact retPick [] ⟨_, by rw [e, h0, h1, h2]; rfl, rfl, rfl⟩ rfl
    · have h1 : decide (p.of_ ≥ 1) = false := h1
      refine aw_ret ?_
      exact retPick [] ⟨_, by rw [e, h0, h1]; rfl, rfl, rfl⟩ rfl
  · have h0 : c = false := h0
    refine aw_ret ?_
    exact retPick [] ⟨_, by rw [e, h0]; rfl, rfl, rfl⟩ rfl

end Go.Proofs.YtinfbclgkghgaaaGreat.AL

/- The layer 11 (ring): a piece's sector. -/
namespace Go.Proofs.YtinfbclgkghgaaaGreat.AL
open Go Go.Proofs

theorem neI {y : Int} {K : Prop} (h : y ≠ 0) (k : K) : chk (decide (y ≠ 0)) K := by rw [decide_eq_true h]; exact k
def pcB (p : Pc) : Bytes := numD p.frm.toNat ++ (numD p.chain.toNat ++ (numD p.index.toNat ++ (numD p.of_.toNat ++ bytesD p.b)))
def addrB (g : GeoV) (m slot : Int) : Int := 4 + m * g.w + slot
def Pc.blk (p : Pc) (vol : Int) (g : GeoV) (m : Int) : Blk := ⟨3, vol, addrB g m (p.seq.tmod g.w), p.epoch, p.seq, pcB p⟩
def Pc.sector (p : Pc) (vol : Int) (g : GeoV) (m : Int) : Bytes × Int := match p.may && (g.may && (wordB vol && (!decide (m < 0) && !decide (m ≥ 2)))) with
  | false => ([], 1)
  | true => (p.blk vol g m).sld
theorem Pc.of_may {p : Pc} (h : p.may = true) : (0 ≤ p.seq ∧ p.seq ≤ 4294967295) ∧ (0 ≤ p.epoch ∧ p.epoch ≤ 4294967295) ∧ (0 ≤ p.frm ∧ p.frm ≤ 4294967295) ∧ (0 ≤ p.chain ∧ p.chain ≤ 4294967295) ∧ p.frm ≤ p.seq ∧ 1 ≤ p.of_ ∧ p.of_ ≤ 64 ∧ 0 ≤ p.index ∧ p.index < p.of_ ∧ p.b.length ≤ 200 := by
  unfold Pc.may Pc.words wordB at h
  simp only [List.all_cons, List.all_nil, Bool.and_true, Bool.and_eq_true, decide_eq_true_eq] at h
  omega
theorem pcB_len {p : Pc} (h : p.may = true) : (pcB p).length ≤ 214 := by
  obtain ⟨h1, h2, h3, h4, h5, h6, h7, h8, h9, h10⟩ := p.of_may h
  have a := numD_len 4 p.frm.toNat (by omega)
  have b := numD_len 4 p.chain.toNat (by omega)
  have c := numD_len 0 p.index.toNat (by omega)
  have d := numD_len 0 p.of_.toNat (by omega)
  have e := numD_len 1 p.b.length (by omega)
  unfold pcB bytesD
  simp only [List.length_append]
  omega
theorem GeoV.of_may {g : GeoV} (h : g.may = true) : 8 ≤ g.w ∧ g.w ≤ 512 ∧ 1 ≤ g.s ∧ g.s ≤ 32 ∧ 1 ≤ g.k ∧ g.k ≤ 16 ∧ 1 ≤ g.m ∧ g.m ≤ 8 := by
  unfold GeoV.may at h
  rw [Bool.and_eq_true] at h
  exact fits_of h.1

theorem ring_addr (g : GeoV) (m slot : Int) (h1 : 0 ≤ m * g.w) (h2 : m * g.w ≤ 1000000) (h3 : 0 ≤ slot) (h4 : slot ≤ 1000000) : AF Tryz.prog f_ring_addr [g.av, i64 m, i64 slot] [] (Pure (i64 (addrB g m slot)) []) := by
  refine AF.mono (R := fun r H' => ∃ z, z = addrB g m slot ∧ r = i64 z ∧ H' = []) ?_ (by rintro r H' ⟨b, rfl, rfl, rfl⟩; exact ⟨rfl, rfl⟩)
  refine af_body hT F_ring_addr rfl rfl N_ring_addr rfl ?_
  refine aw_seq (aw_region hT ?_)
  refine aw_wk (wk_boxL 0 g.pv rfl rfl) ?_
  refine aw_seq (aw_region hT ?_)
  refine aw_ret ?_
  refine retPick [] ⟨_, ?_, rfl, rfl⟩ rfl
  rw [wrap64 (m * g.w) (by omega) (by omega), wrap64 (4 + m * g.w) (by omega) (by omega), wrap64 _ (by omega) (by omega)]
  rfl
end Go.Proofs.YtinfbclgkghgaaaGreat.AL

/- The layer 11 (ring): a piece's sector is made. -/
namespace Go.Proofs.YtinfbclgkghgaaaGreat.AL
open Go Go.Proofs

abbrev Pc.four (p : Pc) : List Int := [p.frm, p.chain, p.index, p.of_]
theorem pcB_eq (p : Pc) : pcB p = numsD p.four ++ bytesD p.b := by
  unfold pcB numsD
  simp [List.append_assoc]

set_option maxRecDepth 20000 in
theorem ring_Sector (vol : Int) (g : GeoV) (m : Int) (p : Pc) : AF Tryz.prog f_ring_Sector [i64 vol, g.av, i64 m, p.av] [] (Pure (.tup [bA (p.sector vol g m).1, i64 (p.sector vol g m).2]) []) := by
  refine AF.mono (R := fun r H' => ∃ z, z = p.sector vol g m ∧ r = .tup [bA z.1, i64 z.2] ∧ H' = []) ?_ (by rintro r H' ⟨b, rfl, rfl, rfl⟩; exact ⟨rfl, rfl⟩)
  have w1 := ring_May p
  have w2 := geo_May g
  have w3 := ring_word [vol] (by simp)
  have ew : [vol].all wordB = wordB vol := by simp
  rw [ew] at w3
  have bad : (p.may && (g.may && (wordB vol && (!decide (m < 0) && !decide (m ≥ 2))))) = false → (([], 1) : Bytes × Int) = p.sector vol g m := fun h => by unfold Pc.sector; rw [h]
  refine af_body hT F_ring_Sector rfl rfl N_ring_Sector rfl ?_
  refine aw_seq (aw_region hT ?_)
  refine aw_wk (wk_boxL 0 g.pv rfl rfl) ?_
  refine aw_wk (wk_boxL 1 p.pv rfl rfl) ?_
  refine aw_cut ⟨⟨73, [(0, i64 vol), (2, i64 m), (5, .p (.box g.pv)), (7, .p (.box p.pv))]⟩, []⟩ (p.may = true ∧ g.may = true ∧ wordB vol = true ∧ 0 ≤ m ∧ m < 2) (aw_seq (aw_regionF (fun k => Nat.beq 10 k) hT ?_)) ?_
  · refine callP (af_at w1 _ rfl rfl) ?_
    refine boolI (fun h0 => ?_) (fun h0 => ?_)
    · have h0 : (!p.may) = true := h0
      refine aw_cond ?_
      refine aw_seq (aw_region hT ?_)
      refine aw_wk (wk_nilP 8 1 rfl) ?_
      refine aw_ret ?_
      exact retPick [] ⟨_, bad (by rw [(Bool.not_eq_true' _).mp h0]; rfl), rfl, rfl⟩ rfl
    have h0 : (!p.may) = false := h0
    have h0 := (Bool.not_eq_false' _).mp h0
    refine callP (af_at w2 _ rfl rfl) ?_
    refine boolI (fun h1 => ?_) (fun h1 => ?_)
    · have h1 : (!g.may) = true := h1
      refine aw_cond ?_
      refine aw_seq (aw_region hT ?_)
      refine aw_wk (wk_nilP 8 1 rfl) ?_
      refine aw_ret ?_
      exact retPick [] ⟨_, bad (by rw [h0, (Bool.not_eq_true' _).mp h1]; rfl), rfl, rfl⟩ rfl
    have h1 : (!g.may) = false := h1
    have h1 := (Bool.not_eq_false' _).mp h1
    refine ⟨⟨rfl, rfl⟩, ?_⟩
    refine callP (af_at w3 _ rfl rfl) ?_
    refine boolI (fun h2 => ?_) (fun h2 => ?_)
    · have h2 : (!wordB vol) = true := h2
      refine aw_cond ?_
      refine aw_seq (aw_region hT ?_)
      refine aw_wk (wk_nilP 8 1 rfl) ?_
      refine aw_ret ?_
      exact retPick [] ⟨_, bad (by rw [h0, h1, (Bool.not_eq_true' _).mp h2]; rfl), rfl, rfl⟩ rfl
    have h2 : (!wordB vol) = false := h2
    have h2 := (Bool.not_eq_false' _).mp h2
    refine boolI (fun h3 => ?_) (fun h3 => ?_)
    · have h3 : decide (m < 0) = true := h3
      refine aw_cond ?_
      refine aw_seq (aw_region hT ?_)
      refine aw_wk (wk_nilP 8 1 rfl) ?_
      refine aw_ret ?_
      exact retPick [] ⟨_, bad (by rw [h0, h1, h2, h3]; rfl), rfl, rfl⟩ rfl
    have h3 : decide (m < 0) = false := h3
    refine aw_cond (boolI (fun h4 => ?_) (fun h4 => ?_))
    · have h4 : decide (m ≥ 2) = true := h4
      refine aw_seq (aw_region hT ?_)
      refine aw_wk (wk_nilP 8 1 rfl) ?_
      refine aw_ret ?_
      exact retPick [] ⟨_, bad (by rw [h0, h1, h2, h3, h4]; rfl), rfl, rfl⟩ rfl
    have h4 : decide (m ≥ 2) = false := h4
    have h3 := of_decide_eq_false h3
    have h4 := of_decide_eq_false h4
    exact aw_skip ⟨wk_pick [] [0, 2, 5, 7] rfl, h0, h1, h2, by omega, by omega⟩
  rintro ⟨hp, hg, hv, m0, m2⟩
  have e : p.sector vol g m = (p.blk vol g m).sld := by
    unfold Pc.sector; rw [hp, hg, hv, decide_eq_false (show ¬ m < 0 by omega), decide_eq_false (show ¬ m ≥ 2 by omega)]; rfl
  clear bad w1 w2 w3 ew
  obtain ⟨q1, q2, q3, q4, q5, q6, q7, q8, q9, q10⟩ := p.of_may hp
  obtain ⟨g1, g2, _⟩ := g.of_may hg
  have hmg : 0 ≤ m * g.w ∧ m * g.w ≤ 512 := by
    have : m = 0 ∨ m = 1 := by omega
    rcases this with rfl | rfl <;> omega
  have hmod0 := Int.tmod_nonneg (a := p.seq) g.w (by omega)
  have hmod1 := Int.tmod_lt_of_pos p.seq (show 0 < g.w by omega)
  have ws := block_Seal (p.blk vol g m)
  rw [← e] at ws
  have wr := ring_addr g m (p.seq.tmod g.w) (by omega) (by omega) (by omega) (by omega)
  have hbody := pcB_len hp
  unfold Pc.blk at ws
  generalize addrB g m (p.seq.tmod g.w) = ad at ws wr
  generalize p.sector vol g m = Z at ws
  rw [pcB_eq] at ws hbody
  have hn : ∀ n ∈ p.four, 0 ≤ n ∧ n < 9223372036854775808 := by
    intro n hn
    simp only [List.mem_cons, List.not_mem_nil, or_false] at hn
    rcases hn with rfl | rfl | rfl | rfl <;> omega
  have h4 : p.four.length = 4 := rfl
  have hpre : ∀ k, (numsD (p.four.take k)).length ≤ 214 := fun k => by
    have : (numsD p.four).length ≤ 214 := by rw [List.length_append] at hbody; omega
    have e2 : numsD p.four = numsD (p.four.take k) ++ numsD (p.four.drop k) := by unfold numsD; rw [← List.flatMap_append, List.take_append_drop]
    rw [e2, List.length_append] at this; omega
  generalize hF : p.four = F at ws hbody hn h4 hpre
  refine aw_cut ⟨⟨73, [(0, i64 vol), (2, i64 m), (5, .p (.box g.pv)), (7, .p (.box p.pv)), (10, .ref 0 0)]⟩, outH []⟩ True (aw_region hT ?_) (fun _ => ?_)
  · exact ⟨Wk.trans (wk_phantom t_u8 1) (Wk.trans (wk_cells 0 [.msl 1 1 0 0] rfl ⟨.inr (.inr (.inl ⟨1, 1, 0, rfl, rfl⟩)), trivial⟩) (wk_pick [0, 1] [0, 2, 5, 7, 10] rfl)), trivial⟩
  refine aw_cut ⟨⟨73, [(0, i64 vol), (2, i64 m), (5, .p (.box g.pv)), (7, .p (.box p.pv)), (10, .ref 0 0)]⟩, outH (numsD F)⟩ True ?_ (fun _ => ?_)
  · refine aw_cut ⟨⟨73, [(0, i64 vol), (2, i64 m), (5, .p (.box g.pv)), (7, .p (.box p.pv)), (10, .ref 0 0), (43, .p (.sl 1 (ix F))), (44, i64 4), (45, i64 0)]⟩, outH []⟩ True (aw_regionF (fun k => Nat.beq 8 k) hT ?_) (fun _ => ?_)
    · refine ⟨⟨rfl, rfl⟩, ?_⟩
      rw [← hF]
      exact ⟨wk_pick [0, 1] [0, 2, 5, 7, 10, 43, 44, 45] rfl, trivial⟩
    refine aw_block ?_
    refine aw_loopW (fun n s => ∃ (k : Nat) (j : Int) (B : Bytes), n + k = 4 ∧ j = k ∧ B = numsD (F.take k) ∧ s = ⟨⟨73, [(0, i64 vol), (2, i64 m), (5, .p (.box g.pv)), (7, .p (.box p.pv)), (10, .ref 0 0), (43, .p (.sl 1 (ix F))), (44, i64 4), (45, i64 j)]⟩, outH B⟩) 4 ⟨⟨73, _⟩, _⟩ (wk_pick [0, 1] [0, 2, 5, 7, 10, 43, 44, 45] rfl) ⟨0, 0, [], rfl, rfl, rfl, rfl⟩ ?_
    rintro n s ⟨k, j, B, hnk, rfl, hB, rfl⟩
    refine aw_seq (aw_region hT ?_)
    refine aw_seq (aw_cond (boolI (fun h => ?_) (fun h => ?_)))
    · have hk := of_decide_eq_true (show decide ((k : Int) < 4) = true from h)
      have hx := List.getElem?_eq_getElem (show k < F.length by omega)
      have hm := hn _ (List.getElem_mem (show k < F.length by omega))
      generalize F[k]'(by omega) = v at hx hm
      have hxp : (ix F)[((k : Nat) : Int).toNat]? = some [.raw (.int .i64 v)] := by rw [Int.toNat_natCast]; exact ixg hx
      have hBl : B.length ≤ 214 := by rw [hB]; exact hpre k
      have hsn : numsD (F.take (k + 1)) = B ++ numD v.toNat := by rw [List.take_add_one, hx, hB]; exact numsD_snoc _ _
      have w := Out_Num B v.toNat (by omega) (by omega)
      rw [show ((v.toNat : Nat) : Int) = v by omega] at w
      generalize B ++ numD v.toNat = B' at w hsn
      refine aw_skip ?_
      refine aw_cut ⟨⟨73, [(0, i64 vol), (2, i64 m), (5, .p (.box g.pv)), (7, .p (.box p.pv)), (10, .ref 0 0), (43, .p (.sl 1 (ix F))), (44, i64 4), (45, i64 k)]⟩, outH B'⟩ True (aw_block (aw_seq (aw_region hT ?_))) (fun _ => ?_)
      · refine ⟨Int.natCast_nonneg _, optI hxp ?_⟩
        refine aw_region hT ?_
        refine callP (af_in [0, 1] w rfl rfl rfl) ?_
        exact ⟨wk_pick [0, 2] [0, 2, 5, 7, 10, 43, 44, 45] rfl, trivial⟩
      · refine aw_region hT ?_
        refine ⟨n - 1, by omega, _, wk_pick [0, 1] [0, 2, 5, 7, 10, 43, 44, 45] rfl, k + 1, IntKind.i64.wrap ((k : Int) + 1), B', by omega, ?_, hsn.symm, rfl⟩
        rw [wrap64 _ (by omega) (by omega)]; rfl
    · have hk : ¬ (k : Int) < 4 := of_decide_eq_false h
      rw [List.take_of_length_le (by omega)] at hB
      rw [← hB]
      refine aw_exit ?_
      exact ⟨wk_pick [0, 1] [0, 2, 5, 7, 10] rfl, trivial⟩
  have wb := Out_Bytes (numsD F) p.b (by have := hpre 4; rw [List.take_of_length_le (by omega)] at this; omega) (by omega)
  have wa := Out_All (numsD F ++ bytesD p.b) (by omega)
  generalize numsD F ++ bytesD p.b = B at wb wa ws
  refine aw_cut ⟨⟨73, [(0, i64 vol), (2, i64 m), (5, .p (.box g.pv)), (7, .p (.box p.pv)), (10, .ref 0 0)]⟩, outH B⟩ True (aw_region hT ?_) (fun _ => ?_)
  · refine callP (af_in [0, 1] wb rfl rfl rfl) ?_
    exact ⟨wk_pick [0, 2] [0, 2, 5, 7, 10] rfl, trivial⟩
  refine aw_seq ?_
  refine aw_draw [] [] hT follows_mixed (by rfl) ?_
  refine neI (y := g.w) (by omega) ?_
  refine ⟨_, af_at wr _ rfl rfl, ?_⟩
  refine ⟨_, af_in [0, 1] wa rfl rfl rfl, ?_⟩
  refine ⟨_, af_at ws _ rfl rfl, ?_⟩
  refine aw_ret ?_
  exact retPick [] ⟨Z, rfl, rfl, rfl⟩ rfl

end Go.Proofs.YtinfbclgkghgaaaGreat.AL

/- The layer 11 (ring), plain: which piece a sector tells. -/
namespace Go.Proofs.YtinfbclgkghgaaaGreat.AL
open Go Go.Proofs Go.Proofs.YtinfbclgkghgaaaGreat.AL.Crc

def Pc.zero : Pc := ⟨0, 0, 0, 0, 0, 0, []⟩
def pcOf (B : Blk) : Pc := ⟨B.seq, B.epoch, nv B.body 0, nv B.body 1, nv B.body 2, nv B.body 3, (bytesS (rst B.body 4)).1⟩
def toldP (s : Bytes) (vol : Int) (g : GeoV) (m slot : Int) : Pc × Bool := match (openB s).2 != 0 || (!g.may || (openB s).1.seq.tmod g.w != slot) with
  | true => (Pc.zero, false)
  | false => match ((pcOf (openB s).1).sector vol g m).2 != 0 || !(s == ((pcOf (openB s).1).sector vol g m).1) with
    | true => (Pc.zero, false)
    | false => (pcOf (openB s).1, true)

theorem addr_word {g : GeoV} (hg : g.may = true) {m : Int} (m0 : 0 ≤ m) (m2 : m < 2) {q : Int} (q0 : 0 ≤ q) : 4 ≤ addrB g m (q.tmod g.w) ∧ addrB g m (q.tmod g.w) < 4 + 2 * g.w ∧ wordB (addrB g m (q.tmod g.w)) = true := by
  obtain ⟨g1, g2, _⟩ := g.of_may hg
  have h1 := Int.tmod_nonneg (a := q) g.w (by omega)
  have h2 := Int.tmod_lt_of_pos q (show 0 < g.w by omega)
  unfold addrB wordB
  have : m = 0 ∨ m = 1 := by omega
  rcases this with rfl | rfl
  · refine ⟨by omega, by omega, ?_⟩
    simp only [Bool.and_eq_true, decide_eq_true_eq]; omega
  · refine ⟨by omega, by omega, ?_⟩
    simp only [Bool.and_eq_true, decide_eq_true_eq]; omega
theorem sectorP_ok {p : Pc} {vol : Int} {g : GeoV} {m : Int} (hp : p.may = true) (hg : g.may = true) (hv : wordB vol = true) (m0 : 0 ≤ m) (m2 : m < 2) :
    p.sector vol g m = (sealB (p.blk vol g m).all, 0) ∧ openB (sealB (p.blk vol g m).all) = (p.blk vol g m, 0) := by
  have hl := pcB_len hp
  obtain ⟨h1, h2, _⟩ := p.of_may hp
  have hn : (p.blk vol g m).nums = true := by
    unfold Blk.nums Pc.blk
    have ha := (addr_word hg m0 m2 (q := p.seq) h1.1).2.2
    simp only [List.all_cons, List.all_nil, Bool.and_eq_true, decide_eq_true_eq]
    have w1 : wordB p.epoch = true := by unfold wordB; simp only [Bool.and_eq_true, decide_eq_true_eq]; omega
    have w2 : wordB p.seq = true := by unfold wordB; simp only [Bool.and_eq_true, decide_eq_true_eq]; omega
    exact ⟨by decide, hv, ha, w1, w2, trivial⟩
  have hb : (p.blk vol g m).body.length ≤ 228 := by show (pcB p).length ≤ 228; omega
  refine ⟨?_, open_seal hn hb⟩
  unfold Pc.sector
  rw [hp, hg, hv, decide_eq_false (show ¬ m < 0 by omega), decide_eq_false (show ¬ m ≥ 2 by omega)]
  show (p.blk vol g m).sld = _
  unfold Blk.sld
  rw [hn, decide_eq_false (show ¬ (p.blk vol g m).body.length > 228 by omega)]
theorem sectorP_inv {p : Pc} {vol : Int} {g : GeoV} {m : Int} (h : (p.sector vol g m).2 = 0) : p.may = true ∧ g.may = true ∧ wordB vol = true ∧ 0 ≤ m ∧ m < 2 := by
  unfold Pc.sector at h
  cases hg : p.may && (g.may && (wordB vol && (!decide (m < 0) && !decide (m ≥ 2)))) with
  | false => rw [hg] at h; simp at h
  | true =>
    simp only [Bool.and_eq_true, Bool.not_eq_true', decide_eq_false_iff_not] at hg
    exact ⟨hg.1, hg.2.1, hg.2.2.1, by omega, by omega⟩

theorem four_ok {p : Pc} (hp : p.may = true) : ∀ n ∈ p.four, 0 ≤ n ∧ n < 9223372036854775808 := by
  obtain ⟨h1, h2, h3, h4, h5, h6, h7, h8, h9, h10⟩ := p.of_may hp
  intro n hn
  simp only [List.mem_cons, List.not_mem_nil, or_false] at hn
  rcases hn with rfl | rfl | rfl | rfl <;> omega
theorem rst_app (l : List Int) (r : Bytes) (h : ∀ n ∈ l, 0 ≤ n ∧ n < 9223372036854775808) : ∀ i, i ≤ l.length → rst (numsD l ++ r) i = numsD (l.drop i) ++ r
  | 0, _ => rfl
  | i + 1, hi => by
    have hm := h _ (List.getElem_mem (show i < l.length by omega))
    have hd : l.drop i = l[i] :: l.drop (i + 1) := List.drop_eq_getElem_cons (by omega)
    generalize l[i] = v at hm hd
    show (rst (numsD l ++ r) i).drop (numS (rst (numsD l ++ r) i)).2.1 = _
    rw [rst_app l r h i (by omega), hd]
    show ((numD v.toNat ++ numsD (l.drop (i + 1))) ++ r).drop (numS ((numD v.toNat ++ numsD (l.drop (i + 1))) ++ r)).2.1 = _
    rw [List.append_assoc, numS_numD _ _ (by omega)]
    exact List.drop_left
theorem nv_app (l : List Int) (r : Bytes) (h : ∀ n ∈ l, 0 ≤ n ∧ n < 9223372036854775808) (i : Nat) (v : Int) (hv : l[i]? = some v) : nv (numsD l ++ r) i = v ∧ (numS (rst (numsD l ++ r) i)).2.2 = 0 := by
  have hi := (List.getElem?_eq_some_iff.1 hv).1
  have hd : l.drop i = l[i] :: l.drop (i + 1) := List.drop_eq_getElem_cons hi
  have e : l[i] = v := (List.getElem?_eq_some_iff.1 hv).2
  have hm := h _ (List.getElem_mem hi)
  rw [e] at hd hm
  have e2 : numS (rst (numsD l ++ r) i) = (v.toNat, (numD v.toNat).length, 0) := by
    rw [rst_app l r h i (by omega), hd]
    show numS ((numD v.toNat ++ numsD (l.drop (i + 1))) ++ r) = _
    rw [List.append_assoc]
    exact numS_numD _ _ (by omega)
  unfold nv
  rw [e2]
  exact ⟨by show ((v.toNat : Nat) : Int) = v; omega, rfl⟩
theorem pcB_read {p : Pc} (hp : p.may = true) : (nv (pcB p) 0 = p.frm ∧ nv (pcB p) 1 = p.chain ∧ nv (pcB p) 2 = p.index ∧ nv (pcB p) 3 = p.of_) ∧ bytesS (rst (pcB p) 4) = (p.b, [], 0) ∧ ∀ k, k < 4 → (numS (rst (pcB p) k)).2.2 = 0 := by
  have h := four_ok hp
  rw [pcB_eq]
  refine ⟨⟨(nv_app _ _ h 0 _ rfl).1, (nv_app _ _ h 1 _ rfl).1, (nv_app _ _ h 2 _ rfl).1, (nv_app _ _ h 3 _ rfl).1⟩, ?_, fun k hk => ?_⟩
  · rw [rst_app _ _ h 4 (Nat.le_refl _)]
    have := bytesS_bytesD p.b [] (by have := (p.of_may hp).2.2.2.2.2.2.2.2.2; omega)
    rw [List.append_nil] at this
    exact this
  · exact (nv_app _ _ h k _ (List.getElem?_eq_getElem (show k < p.four.length from hk))).2
theorem pcOf_blk {p : Pc} (hp : p.may = true) (vol : Int) (g : GeoV) (m : Int) : pcOf (p.blk vol g m) = p := by
  obtain ⟨⟨a, b, c, d⟩, e, _⟩ := pcB_read hp
  show (⟨p.seq, p.epoch, nv (pcB p) 0, nv (pcB p) 1, nv (pcB p) 2, nv (pcB p) 3, (bytesS (rst (pcB p) 4)).1⟩ : Pc) = p
  rw [a, b, c, d, e]

theorem toldP_sector {p : Pc} {vol : Int} {g : GeoV} {m : Int} (hp : p.may = true) (hg : g.may = true) (hv : wordB vol = true) (m0 : 0 ≤ m) (m2 : m < 2) : toldP (p.sector vol g m).1 vol g m (p.seq.tmod g.w) = (p, true) := by
  obtain ⟨e1, e2⟩ := sectorP_ok hp hg hv m0 m2
  unfold toldP
  rw [e1]
  simp only
  rw [e2]
  simp only
  rw [pcOf_blk hp, e1, hg]
  show (match (0 : Int) != 0 || (!true || p.seq.tmod g.w != p.seq.tmod g.w) with
    | true => (Pc.zero, false)
    | false => match (0 : Int) != 0 || !(sealB (p.blk vol g m).all == sealB (p.blk vol g m).all) with
      | true => (Pc.zero, false)
      | false => (p, true) : Pc × Bool) = _
  rw [beq_self_eq_true, show (p.seq.tmod g.w != p.seq.tmod g.w) = false by simp]; rfl
/-- What is the sector of what it tells is whole. -/
theorem toldP_cond {s : Bytes} {vol : Int} {g : GeoV} {m : Int} (h : (((pcOf (openB s).1).sector vol g m).2 != 0 || !(s == ((pcOf (openB s).1).sector vol g m).1)) = false) :
    ((pcOf (openB s).1).may = true ∧ g.may = true ∧ wordB vol = true ∧ 0 ≤ m ∧ m < 2) ∧ s = ((pcOf (openB s).1).sector vol g m).1 ∧ (openB s).1.body = pcB (pcOf (openB s).1) ∧ (∀ k, k < 4 → (numS (rst (openB s).1.body k)).2.2 = 0) ∧ (bytesS (rst (openB s).1.body 4)).2.2 = 0 := by
  rw [Bool.or_eq_false_iff] at h
  have h1 : ((pcOf (openB s).1).sector vol g m).2 = 0 := by simpa using h.1
  have h2 : s = ((pcOf (openB s).1).sector vol g m).1 := by simpa using h.2
  obtain ⟨hp, hg, hv, m0, m2⟩ := sectorP_inv h1
  obtain ⟨e1, e2⟩ := sectorP_ok hp hg hv m0 m2
  refine ⟨⟨hp, hg, hv, m0, m2⟩, h2, ?_⟩
  generalize hX : pcOf (openB s).1 = p at h2 hp e1 e2
  rw [e1] at h2
  have h2 : s = sealB (p.blk vol g m).all := h2
  have hb : (openB s).1.body = pcB p := by rw [h2, e2]; rfl
  rw [hb]
  obtain ⟨_, e, f⟩ := pcB_read hp
  exact ⟨rfl, f, by rw [e]⟩
theorem toldP_true {s : Bytes} {vol : Int} {g : GeoV} {m slot : Int} {p : Pc} (h : toldP s vol g m slot = (p, true)) : (p.may = true ∧ g.may = true ∧ wordB vol = true ∧ 0 ≤ m ∧ m < 2) ∧ s = (p.sector vol g m).1 ∧ p.seq.tmod g.w = slot := by
  unfold toldP at h
  cases h1 : (openB s).2 != 0 || (!g.may || (openB s).1.seq.tmod g.w != slot) with
  | true => rw [h1] at h; simp at h
  | false =>
    rw [h1] at h
    cases h2 : ((pcOf (openB s).1).sector vol g m).2 != 0 || !(s == ((pcOf (openB s).1).sector vol g m).1) with
    | true => rw [h2] at h; simp at h
    | false =>
      rw [h2] at h
      obtain ⟨a1, a2, a3, a4, _⟩ := toldP_cond h2
      have h : pcOf (openB s).1 = p := (Prod.mk.injEq _ _ _ _ ▸ h).1
      rw [h] at a1 a2
      refine ⟨a1, a2, ?_⟩
      simp only [Bool.or_eq_false_iff, bne_eq_false_iff_eq] at h1
      have := h1.2.2
      have e : (openB s).1.seq = p.seq := by rw [← h]; rfl
      rw [e] at this; exact this
end Go.Proofs.YtinfbclgkghgaaaGreat.AL

/- The layer 11 (ring): which piece a sector tells. -/
namespace Go.Proofs.YtinfbclgkghgaaaGreat.AL
open Go Go.Proofs

abbrev pcC (p : Pc) : ABlk := .cells t_api_Piece p.cv
theorem less_pcN (a b c d e f : Int) : LessCL [i64 a, i64 b, i64 c, i64 d, i64 e, i64 f, .p (.raw (.slice none 0 0))] [i64 a, i64 b, i64 c, i64 d, i64 e, i64 f, bA []] := ⟨.inl rfl, .inl rfl, .inl rfl, .inl rfl, .inl rfl, .inl rfl, .inr (.inr (.inr ⟨1, rfl, rfl⟩)), trivial⟩
abbrev blkC (B : Blk) : ABlk := .cells t_api_Block [i64 B.kind, i64 B.vol, i64 B.addr, i64 B.epoch, i64 B.seq, bA B.body]
def pcK (B : Blk) : Nat → Pc
  | 0 => ⟨B.seq, B.epoch, 0, 0, 0, 0, []⟩
  | 1 => ⟨B.seq, B.epoch, nv B.body 0, 0, 0, 0, []⟩
  | 2 => ⟨B.seq, B.epoch, nv B.body 0, nv B.body 1, 0, 0, []⟩
  | 3 => ⟨B.seq, B.epoch, nv B.body 0, nv B.body 1, nv B.body 2, 0, []⟩
  | _ => ⟨B.seq, B.epoch, nv B.body 0, nv B.body 1, nv B.body 2, nv B.body 3, []⟩

set_option maxRecDepth 20000 in
theorem ring_Told (s : Bytes) (vol : Int) (g : GeoV) (m slot : Int) (hs : s.length ≤ 1000000) : AF Tryz.prog f_ring_Told [bA s, i64 vol, g.av, i64 m, i64 slot] [] (Pure (.tup [(toldP s vol g m slot).1.av, bl (toldP s vol g m slot).2]) []) := by
  refine AF.mono (R := fun r H' => ∃ z, z = toldP s vol g m slot ∧ r = .tup [z.1.av, bl z.2] ∧ H' = []) ?_ (by rintro r H' ⟨b, rfl, rfl, rfl⟩; exact ⟨rfl, rfl⟩)
  have wo := block_Open s hs
  have hbl := openB_len s
  have eT : toldP s vol g m slot = match (openB s).2 != 0 || (!g.may || (openB s).1.seq.tmod g.w != slot) with
    | true => (Pc.zero, false)
    | false => match ((pcOf (openB s).1).sector vol g m).2 != 0 || !(s == ((pcOf (openB s).1).sector vol g m).1) with
      | true => (Pc.zero, false)
      | false => (pcOf (openB s).1, true) := rfl
  generalize toldP s vol g m slot = Z at eT
  generalize openB s = O at wo hbl eT
  obtain ⟨B, e⟩ := O
  have wo : AF Tryz.prog f_block_Open [bA s] [] (Pure (.tup [B.av, i64 e]) []) := wo
  have hbl : B.body.length ≤ s.length := hbl
  have eT : Z = match e != 0 || (!g.may || B.seq.tmod g.w != slot) with
    | true => (Pc.zero, false)
    | false => match ((pcOf B).sector vol g m).2 != 0 || !(s == ((pcOf B).sector vol g m).1) with
      | true => (Pc.zero, false)
      | false => (pcOf B, true) := eT
  have wm := geo_May g
  refine af_body hT F_ring_Told rfl rfl N_ring_Told rfl ?_
  refine aw_seq (aw_region hT ?_)
  refine aw_wk (wk_boxL 0 g.pv rfl rfl) ?_
  refine aw_wk (wk_cells 1 _ rfl (less_pcN 0 0 0 0 0 0)) ?_
  refine aw_cut ⟨⟨92, [(0, bA s), (1, i64 vol), (3, i64 m), (4, i64 slot), (7, .p (.box g.pv)), (10, .ref 0 0), (12, .ref 1 0), (13, i64 e)]⟩, [pcC Pc.zero, blkC B]⟩ True (aw_region hT ?_) (fun _ => ?_)
  · refine callP (af_at wo _ rfl rfl) ?_
    exact ⟨wk_pick [1, 2] [0, 1, 3, 4, 7, 10, 12, 13] rfl, trivial⟩
  refine aw_cut ⟨⟨92, [(0, bA s), (1, i64 vol), (3, i64 m), (7, .p (.box g.pv)), (10, .ref 0 0), (12, .ref 1 0)]⟩, [pcC Pc.zero, blkC B]⟩ ((e != 0 || (!g.may || B.seq.tmod g.w != slot)) = false) (aw_seq (aw_region hT ?_)) ?_
  · refine boolI (fun h0 => ?_) (fun h0 => ?_)
    · have h0 : (e != 0) = true := h0
      rw [h0] at eT
      refine aw_cond ?_
      refine aw_seq (aw_region hT ?_)
      refine aw_wk (wk_cells 0 _ rfl (less_pcN 0 0 0 0 0 0)) ?_
      refine aw_ret ?_
      exact retPick [] ⟨_, eT.symm, rfl, rfl⟩ rfl
    have h0 : (e != 0) = false := h0
    refine callP (af_at wm _ rfl rfl) ?_
    refine boolI (fun h1 => ?_) (fun h1 => ?_)
    · have h1 : (!g.may) = true := h1
      rw [h0, h1] at eT
      refine aw_cond ?_
      refine aw_seq (aw_region hT ?_)
      refine aw_wk (wk_cells 0 _ rfl (less_pcN 0 0 0 0 0 0)) ?_
      refine aw_ret ?_
      exact retPick [] ⟨_, eT.symm, rfl, rfl⟩ rfl
    have h1 : (!g.may) = false := h1
    have hg := g.of_may ((Bool.not_eq_false' _).mp h1)
    refine neI (y := g.w) (by omega) ?_
    refine aw_cond (boolI (fun h2 => ?_) (fun h2 => ?_))
    · have h2 : (B.seq.tmod g.w != slot) = true := h2
      rw [h0, h1, h2] at eT
      refine aw_seq (aw_region hT ?_)
      refine aw_wk (wk_cells 0 _ rfl (less_pcN 0 0 0 0 0 0)) ?_
      refine aw_ret ?_
      exact retPick [] ⟨_, eT.symm, rfl, rfl⟩ rfl
    have h2 : (B.seq.tmod g.w != slot) = false := h2
    exact aw_skip ⟨wk_pick [0, 1] [0, 1, 3, 7, 10, 12] rfl, by rw [h0, h1, h2]; rfl⟩
  intro hc
  rw [hc] at eT
  refine aw_cut ⟨⟨92, [(0, bA s), (1, i64 vol), (3, i64 m), (7, .p (.box g.pv)), (10, .ref 0 0), (12, .ref 1 0), (14, .ref 2 0)]⟩, [pcC Pc.zero, blkC B, pcC (pcK B 0)]⟩ True (aw_region hT ?_) (fun _ => ?_)
  · refine ⟨Wk.trans (wk_cells 2 _ rfl (less_pcN B.seq B.epoch 0 0 0 0)) (wk_pick [0, 1, 2] [0, 1, 3, 7, 10, 12, 14] rfl), trivial⟩
  have wn := code_NewIn B.body (by omega)
  refine aw_cut ⟨⟨92, [(0, bA s), (1, i64 vol), (3, i64 m), (7, .p (.box g.pv)), (10, .ref 0 0), (14, .ref 1 0), (15, .ref 2 0)]⟩, [pcC Pc.zero, pcC (pcK B 0), inC B.body]⟩ True (aw_region hT ?_) (fun _ => ?_)
  · refine callP (af_lift wn _ rfl) ?_
    exact ⟨wk_pick [0, 2, 3] [0, 1, 3, 7, 10, 14, 15] rfl, trivial⟩
  have rl := rst_len B.body
  refine aw_cut ⟨⟨92, [(0, bA s), (1, i64 vol), (3, i64 m), (7, .p (.box g.pv)), (10, .ref 0 0), (14, .ref 1 0), (15, .ref 2 0)]⟩, [pcC Pc.zero, pcC (pcK B 4), inC (rst B.body 4)]⟩ True ?_ (fun _ => ?_)
  · refine aw_cut ⟨⟨92, [(0, bA s), (1, i64 vol), (3, i64 m), (7, .p (.box g.pv)), (10, .ref 0 0), (14, .ref 1 0), (15, .ref 2 0), (54, .msl 3 1 0 4), (55, i64 4), (56, i64 0)]⟩, [pcC Pc.zero, pcC (pcK B 0), inC B.body, .cells t_p_i64 [.ref 1 2, .ref 1 3, .ref 1 4, .ref 1 5]]⟩ True (aw_region hT ?_) (fun _ => ?_)
    · exact ⟨wk_pick [0, 1, 2, 3] [0, 1, 3, 7, 10, 14, 15, 54, 55, 56] rfl, trivial⟩
    refine aw_block ?_
    refine aw_loopW (fun n st => ∃ (k : Nat) (j : Int) (P : Pc) (R : Bytes), n + k = 4 ∧ j = k ∧ P = pcK B k ∧ R = rst B.body k ∧ st = ⟨⟨92, [(0, bA s), (1, i64 vol), (3, i64 m), (7, .p (.box g.pv)), (10, .ref 0 0), (14, .ref 1 0), (15, .ref 2 0), (54, .msl 3 1 0 4), (55, i64 4), (56, i64 j)]⟩, [pcC Pc.zero, pcC P, inC R, .cells t_p_i64 [.ref 1 2, .ref 1 3, .ref 1 4, .ref 1 5]]⟩) 4 ⟨⟨92, _⟩, _⟩ (wk_pick [0, 1, 2, 3] [0, 1, 3, 7, 10, 14, 15, 54, 55, 56] rfl) ⟨0, 0, _, _, rfl, rfl, rfl, rfl, rfl⟩ ?_
    rintro n st ⟨k, j, P, R, hnk, rfl, hP, hR, rfl⟩
    refine aw_seq (aw_region hT ?_)
    refine aw_seq (aw_cond (boolI (fun h => ?_) (fun h => ?_)))
    · have hk := of_decide_eq_true (show decide ((k : Int) < 4) = true from h)
      have w := In_Num R (by have := rl k; rw [hR]; omega)
      have eR : rst B.body (k + 1) = R.drop (numS R).2.1 := by rw [hR]; rfl
      have eV : nv B.body k = ((numS R).1 : Int) := by rw [hR]; rfl
      generalize numS R = Y at w eR eV
      obtain ⟨v, q, f⟩ := Y
      have w : AFm Tryz.prog 1 f_code_In_Num [.ref 0 0] [inC R] (Pure (.tup [i64 v, i64 f]) [inC (R.drop q)]) := w
      have eR : rst B.body (k + 1) = R.drop q := eR
      have eV : nv B.body k = (v : Int) := eV
      generalize R.drop q = R' at w eR
      refine aw_skip ?_
      refine aw_cut2 (fun st => ∃ P', P' = pcK B (k + 1) ∧ st = ⟨⟨92, [(0, bA s), (1, i64 vol), (3, i64 m), (7, .p (.box g.pv)), (10, .ref 0 0), (14, .ref 1 0), (15, .ref 2 0), (54, .msl 3 1 0 4), (55, i64 4), (56, i64 k)]⟩, [pcC Pc.zero, pcC P', inC R', .cells t_p_i64 [.ref 1 2, .ref 1 3, .ref 1 4, .ref 1 5]]⟩) (aw_block ?_) ?_
      · have hk4 : k = 0 ∨ k = 1 ∨ k = 2 ∨ k = 3 := by omega
        rcases hk4 with rfl | rfl | rfl | rfl
        · refine aw_seq (aw_region hT ?_)
          refine ⟨⟨Int.natCast_nonneg _, by omega⟩, ?_⟩
          refine aw_region hT ?_
          refine callP (af_in [2] w rfl rfl rfl) ?_
          refine ⟨_, wk_pick [0, 1, 2, 3] [0, 1, 3, 7, 10, 14, 15, 54, 55, 56] rfl, ⟨P.seq, P.epoch, (v : Int), P.chain, P.index, P.of_, P.b⟩, ?_, rfl⟩
          rw [← eV, hP]; rfl
        · refine aw_seq (aw_region hT ?_)
          refine ⟨⟨Int.natCast_nonneg _, by omega⟩, ?_⟩
          refine aw_region hT ?_
          refine callP (af_in [2] w rfl rfl rfl) ?_
          refine ⟨_, wk_pick [0, 1, 2, 3] [0, 1, 3, 7, 10, 14, 15, 54, 55, 56] rfl, ⟨P.seq, P.epoch, P.frm, (v : Int), P.index, P.of_, P.b⟩, ?_, rfl⟩
          rw [← eV, hP]; rfl
        · refine aw_seq (aw_region hT ?_)
          refine ⟨⟨Int.natCast_nonneg _, by omega⟩, ?_⟩
          refine aw_region hT ?_
          refine callP (af_in [2] w rfl rfl rfl) ?_
          refine ⟨_, wk_pick [0, 1, 2, 3] [0, 1, 3, 7, 10, 14, 15, 54, 55, 56] rfl, ⟨P.seq, P.epoch, P.frm, P.chain, (v : Int), P.of_, P.b⟩, ?_, rfl⟩
          rw [← eV, hP]; rfl
        · refine aw_seq (aw_region hT ?_)
          refine ⟨⟨Int.natCast_nonneg _, by omega⟩, ?_⟩
          refine aw_region hT ?_
          refine callP (af_in [2] w rfl rfl rfl) ?_
          refine ⟨_, wk_pick [0, 1, 2, 3] [0, 1, 3, 7, 10, 14, 15, 54, 55, 56] rfl, ⟨P.seq, P.epoch, P.frm, P.chain, P.index, (v : Int), P.b⟩, ?_, rfl⟩
          rw [← eV, hP]; rfl
      · rintro _ ⟨P', hP', rfl⟩
        refine aw_region hT ?_
        refine ⟨n - 1, by omega, _, wk_pick [0, 1, 2, 3] [0, 1, 3, 7, 10, 14, 15, 54, 55, 56] rfl, k + 1, IntKind.i64.wrap ((k : Int) + 1), P', R', by omega, ?_, hP', eR.symm, rfl⟩
        rw [wrap64 _ (by omega) (by omega)]; rfl
    · have hk : ¬ (k : Int) < 4 := of_decide_eq_false h
      have hk4 : k = 4 := by omega
      rw [hk4] at hP hR
      rw [← hP, ← hR]
      refine aw_exit ?_
      exact ⟨wk_pick [0, 1, 2] [0, 1, 3, 7, 10, 14, 15] rfl, trivial⟩
  have wb := In_Bytes (rst B.body 4) (by have := rl 4; omega)
  have eP : pcOf B = ⟨B.seq, B.epoch, nv B.body 0, nv B.body 1, nv B.body 2, nv B.body 3, (bytesS (rst B.body 4)).1⟩ := rfl
  generalize bytesS (rst B.body 4) = Y at wb eP
  obtain ⟨x, y, f⟩ := Y
  have wb : AFm Tryz.prog 1 f_code_In_Bytes [.ref 0 0] [inC (rst B.body 4)] (Pure (.tup [bA x, i64 f]) [inC y]) := wb
  have eP : pcOf B = ⟨B.seq, B.epoch, nv B.body 0, nv B.body 1, nv B.body 2, nv B.body 3, x⟩ := eP
  generalize rst B.body 4 = R at wb
  generalize pcOf B = P at eP eT
  refine aw_cut ⟨⟨92, [(0, bA s), (1, i64 vol), (3, i64 m), (7, .p (.box g.pv)), (10, .ref 0 0), (14, .ref 1 0)]⟩, [pcC Pc.zero, pcC P]⟩ True (aw_region hT ?_) (fun _ => ?_)
  · refine callP (af_in [2] wb rfl rfl rfl) ?_
    rw [eP]
    exact ⟨wk_pick [0, 1] [0, 1, 3, 7, 10, 14] rfl, trivial⟩
  have wS := ring_Sector vol g m P
  generalize P.sector vol g m = Y at wS eT
  obtain ⟨t, f⟩ := Y
  have wS : AF Tryz.prog f_ring_Sector [i64 vol, g.av, i64 m, P.av] [] (Pure (.tup [bA t, i64 f]) []) := wS
  have eT : Z = match f != 0 || !(s == t) with
    | true => (Pc.zero, false)
    | false => (P, true) := eT
  have wE := bytes_Equal s t
  refine aw_cut ⟨⟨92, [(10, .ref 0 0), (14, .ref 1 0)]⟩, [pcC Pc.zero, pcC P]⟩ ((f != 0 || !(s == t)) = false) (aw_seq (aw_region hT ?_)) ?_
  · refine callP (af_at wS _ rfl rfl) ?_
    refine aw_seq (aw_region hT ?_)
    refine boolI (fun h0 => ?_) (fun h0 => ?_)
    · have h0 : (f != 0) = true := h0
      rw [h0] at eT
      refine aw_cond ?_
      refine aw_seq (aw_region hT ?_)
      refine aw_wk (wk_cells 0 _ rfl (less_pcN 0 0 0 0 0 0)) ?_
      refine aw_ret ?_
      exact retPick [] ⟨_, eT.symm, rfl, rfl⟩ rfl
    have h0 : (f != 0) = false := h0
    refine callP (af_at wE _ rfl rfl) ?_
    refine aw_cond (boolI (fun h1 => ?_) (fun h1 => ?_))
    · have h1 : (!(s == t)) = true := h1
      rw [h0, h1] at eT
      refine aw_seq (aw_region hT ?_)
      refine aw_wk (wk_cells 0 _ rfl (less_pcN 0 0 0 0 0 0)) ?_
      refine aw_ret ?_
      exact retPick [] ⟨_, eT.symm, rfl, rfl⟩ rfl
    have h1 : (!(s == t)) = false := h1
    exact aw_skip ⟨wk_pick [0, 1] [10, 14] rfl, by rw [h0, h1]; rfl⟩
  intro hc
  rw [hc] at eT
  refine aw_seq (aw_region hT ?_)
  refine aw_ret ?_
  exact retPick [] ⟨_, eT.symm, rfl, rfl⟩ rfl
end Go.Proofs.YtinfbclgkghgaaaGreat.AL

/- The layer 11 (ring): at most two pieces are sorted. -/
namespace Go.Proofs.YtinfbclgkghgaaaGreat.AL
open Go Go.Proofs

def pX (l : List Pc) : List (List PV) := l.map Pc.pv
theorem pX_len (l : List Pc) : (pX l).length = l.length := by simp [pX]
theorem pX_get {l : List Pc} {i : Nat} {p : Pc} (h : l[i]? = some p) : (pX l)[i]? = some p.pv := by rw [pX, List.getElem?_map, h]; rfl
def sort2 : List Pc → List Pc
  | [x, y] => match decide (y.epoch > x.epoch) with | true => [y, x] | false => [x, y]
  | l => l
theorem sort2_eq (x y : Pc) : sort2 [x, y] = match decide (y.epoch > x.epoch) with | true => [y, x] | false => [x, y] := rfl
def EpOk (l : List Pc) : Prop := ∀ p ∈ l, 0 ≤ p.epoch ∧ p.epoch ≤ 4294967295
abbrev cmpF : AV := .clo (.func f_ring_reader_told_1) []

theorem told_1 (x y : Pc) : AF Tryz.prog f_ring_reader_told_1 [x.av, y.av] [] (Pure (i64 (IntKind.i64.wrap (y.epoch - x.epoch))) []) := by
  refine af_body hT F_ring_reader_told_1 rfl rfl N_ring_reader_told_1 rfl ?_
  refine aw_seq (aw_region hT ?_)
  refine aw_wk (wk_boxL 0 x.pv rfl rfl) ?_
  refine aw_wk (wk_boxL 1 y.pv rfl rfl) ?_
  refine aw_seq (aw_region hT ?_)
  refine aw_ret ?_
  exact retPick [] ⟨rfl, rfl⟩ rfl

set_option maxRecDepth 20000 in
theorem insertion2 (x y : Pc) (he : EpOk [x, y]) : AFm Tryz.prog 1 f_slices_insertionSortCmpFunc_api_Piece [.msl 0 7 0 2, i64 0, i64 2, cmpF] [.row t_api_Piece 7 (pX [x, y])] (Pure (.tup []) [.row t_api_Piece 7 (pX (sort2 [x, y]))]) := by
  have h1 := he x (by simp)
  have h2 := he y (by simp)
  have w := told_1 y x
  rw [wrap64 _ (by omega) (by omega)] at w
  obtain ⟨d, hd⟩ : ∃ d, d = x.epoch - y.epoch := ⟨_, rfl⟩
  rw [← hd] at w
  obtain ⟨L, hL⟩ : ∃ L, L = pX (sort2 [x, y]) := ⟨_, rfl⟩
  have hs : decide (d < 0) = true → L = [y.pv, x.pv] := fun h => by
    have h := of_decide_eq_true h
    rw [hL, sort2_eq, decide_eq_true (show y.epoch > x.epoch by omega)]; rfl
  have hn : decide (d < 0) = false → L = [x.pv, y.pv] := fun h => by
    have h := of_decide_eq_false h
    rw [hL, sort2_eq, decide_eq_false (show ¬ y.epoch > x.epoch by omega)]; rfl
  rw [← hL]
  refine af_bodyM 1 hT F_slices_insertionSortCmpFunc_api_Piece rfl rfl N_slices_insertionSortCmpFunc_api_Piece rfl rfl ?_
  refine aw_seq (aw_region hT ?_)
  refine aw_block ?_
  refine aw_loopW (fun n s => (n = 1 ∧ s = ⟨⟨53, [(0, .msl 0 7 0 2), (1, i64 0), (2, i64 2), (3, cmpF), (8, i64 1)]⟩, [.row t_api_Piece 7 [x.pv, y.pv]]⟩) ∨ (n = 0 ∧ s = ⟨⟨53, [(0, .msl 0 7 0 2), (1, i64 0), (2, i64 2), (3, cmpF), (8, i64 2)]⟩, [.row t_api_Piece 7 L]⟩)) 1 ⟨⟨53, _⟩, _⟩ (wk_pick [0] [0, 1, 2, 3, 8] rfl) (.inl ⟨rfl, rfl⟩) ?_
  rintro n s (⟨rfl, rfl⟩ | ⟨rfl, rfl⟩)
  · refine aw_seq (aw_seq (aw_region hT ?_))
    refine aw_cond ?_
    refine aw_skip ?_
    refine aw_cut ⟨⟨53, [(0, .msl 0 7 0 2), (1, i64 0), (2, i64 2), (3, cmpF), (8, i64 1)]⟩, [.row t_api_Piece 7 L]⟩ True (aw_block (aw_seq (aw_region hT ?_))) (fun _ => ?_)
    · refine aw_block ?_
      refine aw_loopW (fun n s => (n = 1 ∧ s = ⟨⟨53, [(0, .msl 0 7 0 2), (1, i64 0), (2, i64 2), (3, cmpF), (8, i64 1), (9, i64 1)]⟩, [.row t_api_Piece 7 [x.pv, y.pv]]⟩) ∨ (n = 0 ∧ s = ⟨⟨53, [(0, .msl 0 7 0 2), (1, i64 0), (2, i64 2), (3, cmpF), (8, i64 1), (9, i64 0)]⟩, [.row t_api_Piece 7 L]⟩)) 1 ⟨⟨53, _⟩, _⟩ (wk_pick [0] [0, 1, 2, 3, 8, 9] rfl) (.inl ⟨rfl, rfl⟩) ?_
      rintro n s (⟨rfl, rfl⟩ | ⟨rfl, rfl⟩)
      · refine aw_seq (aw_seq ?_)
        refine aw_draw [] [] hT follows_mixed (by rfl) ?_
        refine ⟨⟨by decide, by decide⟩, ?_⟩
        refine ⟨⟨by decide, by decide⟩, ?_⟩
        refine ⟨_, af_at w _ rfl rfl, ?_⟩
        refine aw_cond (boolI (fun h => ?_) (fun h => ?_))
        · have hs := hs h
          refine aw_skip ?_
          refine aw_cut ⟨⟨53, [(0, .msl 0 7 0 2), (1, i64 0), (2, i64 2), (3, cmpF), (8, i64 1), (9, i64 1)]⟩, [.row t_api_Piece 7 L]⟩ True (aw_block ?_) (fun _ => ?_)
          · refine aw_draw [15, 17] [] hT follows_mixed (by rfl) ?_
            refine ⟨⟨by decide, by decide⟩, ?_⟩
            refine ⟨⟨by decide, by decide⟩, ?_⟩
            refine ⟨⟨by decide, by decide⟩, ?_⟩
            refine ⟨⟨by decide, by decide⟩, ?_⟩
            rw [hs]
            exact ⟨wk_pick [0] [0, 1, 2, 3, 8, 9] rfl, trivial⟩
          · refine aw_region hT ?_
            exact ⟨0, by omega, _, wk_pick [0] [0, 1, 2, 3, 8, 9] rfl, .inr ⟨rfl, rfl⟩⟩
        · have hn := hn h
          rw [← hn]
          refine aw_exit ?_
          exact ⟨wk_pick [0] [0, 1, 2, 3, 8] rfl, trivial⟩
      · refine aw_seq (aw_seq ?_)
        refine aw_draw [] [] hT follows_mixed (by rfl) ?_
        refine aw_cond ?_
        refine aw_exit ?_
        exact ⟨wk_pick [0] [0, 1, 2, 3, 8] rfl, trivial⟩
    · refine aw_region hT ?_
      exact ⟨0, by omega, _, wk_pick [0] [0, 1, 2, 3, 8] rfl, .inr ⟨rfl, rfl⟩⟩
  · refine aw_seq (aw_seq (aw_region hT ?_))
    refine aw_cond ?_
    refine aw_exit ?_
    exact retPick [0] ⟨rfl, rfl⟩ rfl

set_option maxRecDepth 20000 in
theorem insertion1 (l : List Pc) (hl : l.length ≤ 1) : AFm Tryz.prog 1 f_slices_insertionSortCmpFunc_api_Piece [.msl 0 7 0 l.length, i64 0, i64 l.length, cmpF] [.row t_api_Piece 7 (pX l)] (Pure (.tup []) [.row t_api_Piece 7 (pX l)]) := by
  obtain ⟨v, hv⟩ : ∃ v : Int, v = l.length := ⟨_, rfl⟩
  rw [← hv]
  refine af_bodyM 1 hT F_slices_insertionSortCmpFunc_api_Piece rfl rfl N_slices_insertionSortCmpFunc_api_Piece rfl rfl ?_
  refine aw_seq (aw_region hT ?_)
  refine aw_block ?_
  refine aw_loopW (fun n s => s = ⟨⟨53, [(2, i64 v), (8, i64 1)]⟩, [.row t_api_Piece 7 (pX l)]⟩) 1 ⟨⟨53, _⟩, _⟩ (wk_pick [0] [2, 8] rfl) rfl ?_
  rintro n s rfl
  refine aw_seq (aw_seq (aw_region hT ?_))
  refine aw_cond (boolI (fun h => ?_) (fun h => ?_))
  · have h := of_decide_eq_true (show decide ((1 : Int) < v) = true from h)
    omega
  · refine aw_exit ?_
    exact retPick [0] ⟨rfl, rfl⟩ rfl
theorem insertion (l : List Pc) (hl : l.length ≤ 2) (he : EpOk l) : AFm Tryz.prog 1 f_slices_insertionSortCmpFunc_api_Piece [.msl 0 7 0 l.length, i64 0, i64 l.length, cmpF] [.row t_api_Piece 7 (pX l)] (Pure (.tup []) [.row t_api_Piece 7 (pX (sort2 l))]) := by
  match l, hl, he with
  | [], _, _ => exact insertion1 [] (by simp)
  | [x], _, _ => exact insertion1 [x] (by simp)
  | [x, y], _, he => exact insertion2 x y he
theorem sort2_len (l : List Pc) : (sort2 l).length = l.length := by
  match l with
  | [] => rfl
  | [x] => rfl
  | [x, y] => rw [sort2_eq]; split <;> rfl
  | _ :: _ :: _ :: _ => rfl

set_option maxRecDepth 20000 in
theorem stable2 (l : List Pc) (hl : l.length ≤ 2) (he : EpOk l) : AFm Tryz.prog 1 f_slices_stableCmpFunc_api_Piece [.msl 0 7 0 l.length, i64 l.length, cmpF] [.row t_api_Piece 7 (pX l)] (Pure (.tup []) [.row t_api_Piece 7 (pX (sort2 l))]) := by
  have w := insertion l hl he
  obtain ⟨v, hv⟩ : ∃ v : Int, v = l.length := ⟨_, rfl⟩
  rw [← hv] at w ⊢
  refine af_bodyM 1 hT F_slices_stableCmpFunc_api_Piece rfl rfl N_slices_stableCmpFunc_api_Piece rfl rfl ?_
  refine aw_seq (aw_region hT ?_)
  refine aw_seq (aw_region hT ?_)
  refine aw_cut ⟨⟨63, [(0, .msl 0 7 0 l.length), (1, i64 v), (2, cmpF), (6, i64 20), (7, i64 0)]⟩, [.row t_api_Piece 7 (pX l)]⟩ True (aw_block ?_) (fun _ => ?_)
  · refine aw_loopW (fun n s => s = ⟨⟨63, [(0, .msl 0 7 0 l.length), (1, i64 v), (2, cmpF), (6, i64 20), (7, i64 0), (8, i64 20)]⟩, [.row t_api_Piece 7 (pX l)]⟩) 1 ⟨⟨63, _⟩, _⟩ (wk_pick [0] [0, 1, 2, 6, 7, 8] rfl) rfl ?_
    rintro n s rfl
    refine aw_seq (aw_seq (aw_region hT ?_))
    refine aw_cond (boolI (fun h => ?_) (fun h => ?_))
    · have h := of_decide_eq_true (show decide ((20 : Int) ≤ v) = true from h)
      omega
    · refine aw_exit ?_
      exact ⟨wk_pick [0] [0, 1, 2, 6, 7] rfl, trivial⟩
  refine aw_cut ⟨⟨63, [(1, i64 v), (6, i64 20)]⟩, [.row t_api_Piece 7 (pX (sort2 l))]⟩ True (aw_region hT ?_) (fun _ => ?_)
  · refine callP (af_in [0] w rfl rfl rfl) ?_
    exact ⟨wk_pick [0] [1, 6] rfl, trivial⟩
  refine aw_block ?_
  refine aw_loopW (fun n s => s = ⟨⟨63, [(1, i64 v), (6, i64 20)]⟩, [.row t_api_Piece 7 (pX (sort2 l))]⟩) 1 ⟨⟨63, _⟩, _⟩ (wk_pick [0] [1, 6] rfl) rfl ?_
  rintro n s rfl
  refine aw_seq (aw_seq (aw_region hT ?_))
  refine aw_cond (boolI (fun h => ?_) (fun h => ?_))
  · have h := of_decide_eq_true (show decide ((20 : Int) < v) = true from h)
    omega
  · refine aw_exit ?_
    exact retPick [0] ⟨rfl, rfl⟩ rfl
theorem sort_stable2 (l : List Pc) (hl : l.length ≤ 2) (he : EpOk l) : AFm Tryz.prog 1 f_slices_SortStableFunc_api_Piece [.msl 0 7 0 l.length, cmpF] [.row t_api_Piece 7 (pX l)] (Pure (.tup []) [.row t_api_Piece 7 (pX (sort2 l))]) := by
  have w := stable2 l hl he
  refine af_bodyM 1 hT F_slices_SortStableFunc_api_Piece rfl rfl N_slices_SortStableFunc_api_Piece rfl rfl ?_
  refine aw_region hT ?_
  refine callP (af_in [0] w rfl rfl rfl) ?_
  exact retPick [0] ⟨rfl, rfl⟩ rfl
end Go.Proofs.YtinfbclgkghgaaaGreat.AL
