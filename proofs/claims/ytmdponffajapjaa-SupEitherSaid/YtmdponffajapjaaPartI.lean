/- A part of the proof. -/
import Derived.Test.YtmdponffajapjaaPartH
import Derived.Test.YtmdponffajapjaaPartG
/- The layer 05 (code): what stands next is told, and got. -/
namespace Go.Proofs.Ytmdponffajapjaa.AL
open Go Go.Proofs

abbrev w64 (n : Int) : AV := .p (.raw (.int .u64 n))
abbrev inC (b : Bytes) : ABlk := .cells t_code_In [bA b]
theorem wrapU (n : Int) (h0 : 0 ≤ n) (h : n < 18446744073709551616) : IntKind.u64.wrap n = n := by
  show n % 18446744073709551616 = n
  omega

theorem In_look (b : Bytes) (_hb : b.length ≤ 1000000) : AFm Try.prog 1 f_code_In_look [.ref 0 0] [inC b] (Pure (.tup [w64 (lookB b).1, i64 (lookB b).2.1, i64 (lookB b).2.2]) [inC b]) := by
  have hbl := bx_len b
  refine af_bodyM 1 hT F_code_In_look rfl rfl N_code_In_look rfl rfl ?_
  refine aw_seq (aw_region hT ?_)
  refine aw_seq (aw_seq (aw_region hT ?_))
  refine aw_cond ?_
  refine aw_skip ?_
  refine aw_seq (aw_region hT ?_)
  refine aw_seq (aw_seq (aw_region hT ?_))
  refine aw_block ?_
  refine aw_loopW (fun m s => ∃ (i : Nat) (j n p : Int) (N : Nat), m + i = b.length ∧ j = i ∧ i ≤ 10 ∧ n = (N : Nat) ∧ p = ((128 ^ i : Nat) : Int) ∧ N < 128 ^ i ∧ lookB b = lookF i N (128 ^ i) (b.drop i) ∧ s = ⟨⟨58, [(0, .ref 0 0), (5, w64 n), (6, w64 p), (14, bA b), (15, i64 (bx b).length), (16, i64 j)]⟩, [inC b]⟩) b.length ⟨⟨58, _⟩, [_]⟩ (wk_pick [0] [0, 5, 6, 14, 15, 16] rfl) ⟨0, 0, 0, 1, 0, rfl, rfl, by omega, rfl, rfl, by simp, rfl, rfl⟩ ?_
  rintro m s ⟨i, j, n, p, N, hmi, rfl, hi10, hn, hp, hN, hlk, rfl⟩
  refine aw_seq (aw_region hT ?_)
  refine aw_seq (aw_cond (boolI (fun h => ?_) (fun h => ?_)))
  · have hi : i < b.length := by
      have := of_decide_eq_true (show decide ((i : Int) < ((bx b).length : Int)) = true from h)
      omega
    have hx := List.getElem?_eq_getElem hi
    have hdr : b.drop i = b[i] :: b.drop (i + 1) := List.drop_eq_getElem_cons hi
    generalize b[i] = c at hx hdr
    have hxp : (bx b)[((i : Nat) : Int).toNat]? = some [u8 c] := by rw [Int.toNat_natCast]; exact bx_get hx
    have hc := c.toNat_lt
    refine aw_skip ?_
    rw [hdr] at hlk
    unfold lookF at hlk
    obtain ⟨G, hG⟩ : ∃ G, G = (decide (i = 10) || (decide (i = 9) && decide (c.toNat > 1))) := ⟨_, rfl⟩
    rw [← hG] at hlk
    have e10 : ((i : Int) == 10) = decide (i = 10) := by
      by_cases e : i = 10
      · rw [decide_eq_true e, e]; rfl
      · rw [decide_eq_false e]; exact beq_eq_false_iff_ne.mpr (by omega)
    have e9 : ((i : Int) == 9) = decide (i = 9) := by
      by_cases e : i = 9
      · rw [decide_eq_true e, e]; rfl
      · rw [decide_eq_false e]; exact beq_eq_false_iff_ne.mpr (by omega)
    have ec : decide ((c.toNat : Int) > 1) = decide (c.toNat > 1) := decide_eq_decide.mpr (by omega)
    have ez : ((c.toNat : Int) == 0) = decide (c.toNat = 0) := by
      by_cases e : c.toNat = 0
      · rw [decide_eq_true e, e]; rfl
      · rw [decide_eq_false e]; exact beq_eq_false_iff_ne.mpr (by omega)
    have e8 : decide ((c.toNat : Int) ≥ 128) = decide (c.toNat ≥ 128) := decide_eq_decide.mpr (by omega)
    have e0 : decide ((i : Int) > 0) = decide (i > 0) := decide_eq_decide.mpr (by omega)
    refine aw_seq (aw_block (aw_seq (aw_region hT ?_)))
    refine ⟨Int.natCast_nonneg _, optI hxp ?_⟩
    refine aw_cut ⟨⟨58, [(0, .ref 0 0), (5, w64 n), (6, w64 p), (7, i64 i), (8, .p (u8 c))]⟩, [inC b]⟩ (lookB b = (N + c.toNat * 128 ^ i, i + 1, 0) ∧ c.toNat < 128 ∧ (i = 9 → c.toNat ≤ 1) ∧ i ≤ 9) (aw_block ?_) ?_
    · refine aw_cut ⟨⟨58, [(0, .ref 0 0), (5, w64 n), (6, w64 p), (7, i64 i), (8, .p (u8 c)), (14, bA b), (15, i64 (bx b).length), (16, i64 i), (21, bl G)]⟩, [inC b]⟩ True (aw_seq (aw_region hT ?_)) (fun _ => ?_)
      · refine aw_cond (boolI (fun h1 => ?_) (fun h1 => ?_))
        · have h1 : ((i : Int) == 10) = true := h1
          refine aw_skip ?_
          rw [show G = ((i : Int) == 10) by rw [hG, ← e10, h1]; rfl]
          exact ⟨wk_pick [0] [0, 5, 6, 7, 8, 14, 15, 16, 21] rfl, trivial⟩
        · have h1 : ((i : Int) == 10) = false := h1
          refine aw_region hT ?_
          refine boolI (fun h2 => ?_) (fun h2 => ?_)
          · have h2 : ((i : Int) == 9) = true := h2
            rw [show G = decide ((c.toNat : Int) > 1) by rw [hG, ← e10, h1, ← e9, h2, ec]; rfl]
            exact ⟨wk_pick [0] [0, 5, 6, 7, 8, 14, 15, 16, 21] rfl, trivial⟩
          · have h2 : ((i : Int) == 9) = false := h2
            rw [show G = false by rw [hG, ← e10, h1, ← e9, h2]; rfl]
            exact ⟨wk_pick [0] [0, 5, 6, 7, 8, 14, 15, 16, 21] rfl, trivial⟩
      · refine aw_cond (boolI (fun h1 => ?_) (fun h1 => ?_))
        · have h1 : G = true := h1
          rw [h1] at hlk
          refine aw_seq (aw_region hT ?_)
          refine aw_ret ?_
          rw [hlk]
          exact retPick [0] ⟨rfl, rfl⟩ rfl
        · have h1 : G = false := h1
          rw [h1] at hlk hG
          have go : (i = 9 → c.toNat ≤ 1) ∧ i ≤ 9 := by
            have h := hG.symm
            rw [Bool.or_eq_false_iff, Bool.and_eq_false_iff] at h
            have a1 := of_decide_eq_false h.1
            refine ⟨fun e => ?_, by omega⟩
            rcases h.2 with h | h
            · exact absurd e (of_decide_eq_false h)
            · have := of_decide_eq_false h; omega
          refine aw_seq (aw_region hT ?_)
          refine aw_cond (boolI (fun h2 => ?_) (fun h2 => ?_))
          · have h2 : decide ((c.toNat : Int) ≥ 128) = true := h2
            rw [e8] at h2
            rw [h2] at hlk
            have h2 := of_decide_eq_true h2
            have i8 : i ≤ 8 := by
              rcases Nat.lt_or_ge i 9 with h | h
              · omega
              · have := go.1 (by omega); omega
            have hpw : 128 ^ i ≤ 128 ^ 8 := Nat.pow_le_pow_right (by omega) i8
            have hmul : (c.toNat - 128) * 128 ^ i ≤ 127 * 128 ^ i := Nat.mul_le_mul_right _ (by omega)
            have hsum : N + (c.toNat - 128) * 128 ^ i < 128 ^ (i + 1) := by rw [Nat.pow_succ]; omega
            have v1 : IntKind.u64.wrap (n + IntKind.u64.wrap (IntKind.u64.wrap (IntKind.u8.wrap ((c.toNat : Int) - 128)) * p)) = ((N + (c.toNat - 128) * 128 ^ i : Nat) : Int) := by
              rw [show IntKind.u8.wrap ((c.toNat : Int) - 128) = ((c.toNat - 128 : Nat) : Int) by show ((c.toNat : Int) - 128) % 256 = _; omega]
              rw [wrapU ((c.toNat - 128 : Nat) : Int) (by omega) (by omega), hp, ← Int.natCast_mul, wrapU (((c.toNat - 128) * 128 ^ i : Nat) : Int) (by omega) (by omega), hn, wrapU _ (by omega) (by omega)]
              omega
            have v2 : IntKind.u64.wrap (p * 128) = ((128 ^ (i + 1) : Nat) : Int) := by
              rw [hp, Nat.pow_succ]
              generalize 128 ^ i = Q at hpw
              rw [wrapU _ (by omega) (by omega)]
              omega
            refine aw_seq (aw_region hT ?_)
            refine aw_seq (aw_region hT ?_)
            refine aw_exit ?_
            refine aw_region hT ?_
            refine ⟨m - 1, by omega, _, wk_pick [0] [0, 5, 6, 14, 15, 16] rfl, i + 1, IntKind.i64.wrap ((i : Int) + 1), _, _, N + (c.toNat - 128) * 128 ^ i, by omega, ?_, by omega, v1, v2, hsum, ?_, rfl⟩
            · rw [wrap64 _ (by omega) (by omega)]; rfl
            · rw [hlk, Nat.pow_succ]
          · have h2 : decide ((c.toNat : Int) ≥ 128) = false := h2
            rw [e8] at h2
            rw [h2] at hlk
            have h2 := of_decide_eq_false h2
            refine aw_seq (aw_region hT ?_)
            refine boolI (fun h3 => ?_) (fun h3 => ?_)
            · have h3 : ((c.toNat : Int) == 0) = true := h3
              rw [ez] at h3
              rw [h3] at hlk
              refine aw_cond (boolI (fun h4 => ?_) (fun h4 => ?_))
              · have h4 : decide ((i : Int) > 0) = true := h4
                rw [e0] at h4
                rw [h4] at hlk
                refine aw_seq (aw_region hT ?_)
                refine aw_ret ?_
                rw [hlk]
                exact retPick [0] ⟨rfl, rfl⟩ rfl
              · have h4 : decide ((i : Int) > 0) = false := h4
                rw [e0] at h4
                rw [h4] at hlk
                exact aw_skip ⟨wk_pick [0] [0, 5, 6, 7, 8] rfl, hlk, by omega, go⟩
            · have h3 : ((c.toNat : Int) == 0) = false := h3
              rw [ez] at h3
              rw [h3] at hlk
              refine aw_cond ?_
              exact aw_skip ⟨wk_pick [0] [0, 5, 6, 7, 8] rfl, hlk, by omega, go⟩
    · rintro ⟨hlk, h128, h9, hi9⟩
      have hb2 : N + c.toNat * 128 ^ i < 18446744073709551616 ∧ c.toNat * 128 ^ i < 18446744073709551616 := by
        rcases Nat.lt_or_ge i 9 with h8 | h8
        · have h1 : 128 ^ i ≤ 128 ^ 8 := Nat.pow_le_pow_right (by omega) (by omega)
          have h2 : c.toNat * 128 ^ i ≤ 127 * 128 ^ 8 := Nat.mul_le_mul (by omega) h1
          omega
        · have hi : i = 9 := by omega
          have h1 := h9 hi
          subst hi
          have h2 : c.toNat * 128 ^ 9 ≤ 1 * 128 ^ 9 := Nat.mul_le_mul_right _ h1
          omega
      have v1 : IntKind.u64.wrap (n + IntKind.u64.wrap (IntKind.u64.wrap (c.toNat : Int) * p)) = ((N + c.toNat * 128 ^ i : Nat) : Int) := by
        rw [wrapU (c.toNat : Int) (by omega) (by omega), hp, ← Int.natCast_mul, wrapU ((c.toNat * 128 ^ i : Nat) : Int) (by omega) (by omega), hn, wrapU _ (by omega) (by omega)]
        omega
      have v2 : IntKind.i64.wrap ((i : Int) + 1) = ((i + 1 : Nat) : Int) := by rw [wrap64 _ (by omega) (by omega)]; rfl
      refine aw_seq (aw_region hT ?_)
      refine aw_ret ?_
      rw [hlk]
      show ∃ u2 H2, _ ∧ Pure (.tup [w64 ((N + c.toNat * 128 ^ i : Nat) : Int), i64 ((i + 1 : Nat) : Int), i64 0]) [inC b] u2 H2
      rw [← v1, ← v2]
      exact retPick [0] ⟨rfl, rfl⟩ rfl
  · have hi : ¬ (i : Int) < ((bx b).length : Int) := of_decide_eq_false h
    have hib : i = b.length := by omega
    rw [List.drop_eq_nil_of_le (by omega)] at hlk
    refine aw_exit ?_
    refine aw_seq (aw_region hT ?_)
    refine aw_ret ?_
    rw [hlk]
    exact retPick [0] ⟨rfl, rfl⟩ rfl

theorem numS_of (b : Bytes) : numS b = match decide ((lookB b).2.2 = 0) && decide ((lookB b).1 ≥ 2 ^ 63) with | true => (0, 0, 7) | false => ((lookB b).1, (lookB b).2.1, (lookB b).2.2) := by
  unfold numS; rfl
theorem In_num (b : Bytes) (hb : b.length ≤ 1000000) : AFm Try.prog 1 f_code_In_num [.ref 0 0] [inC b] (Pure (.tup [i64 (numS b).1, i64 (numS b).2.1, i64 (numS b).2.2]) [inC b]) := by
  have w := In_look b hb
  have hlt := lookB_ok (b := b)
  have hz : (lookB b).2.2 ≠ 0 → (lookB b).1 = 0 := fun h => (lookF_err b 0 0 1 h).1
  have hN := numS_of b
  generalize numS b = Z at hN
  generalize lookB b = Y at w hlt hz hN
  obtain ⟨n, k, e⟩ := Y
  have hN : Z = match decide (e = 0) && decide (n ≥ 2 ^ 63) with | true => (0, 0, 7) | false => (n, k, e) := hN
  have w : AFm Try.prog 1 f_code_In_look [.ref 0 0] [inC b] (Pure (.tup [w64 n, i64 k, i64 e]) [inC b]) := w
  have hlt : e = 0 → n < 2 ^ 64 := fun h => (hlt h).2.2.2.2
  have hz : e ≠ 0 → n = 0 := hz
  refine af_bodyM 1 hT F_code_In_num rfl rfl N_code_In_num rfl rfl ?_
  refine aw_seq (aw_region hT ?_)
  refine aw_seq (aw_region hT ?_)
  refine callP (af_in [0] w rfl rfl rfl) ?_
  refine aw_cut ⟨⟨24, [(5, w64 n), (6, i64 k), (7, i64 e)]⟩, [inC b]⟩ ((decide (e = 0) && decide (n ≥ 2 ^ 63)) = false) (aw_seq (aw_region hT ?_)) ?_
  · have ee : (e == 0) = decide (e = 0) := by
      by_cases h : e = 0
      · rw [decide_eq_true h, h]; rfl
      · rw [decide_eq_false h]; exact beq_eq_false_iff_ne.mpr h
    have en : decide ((n : Int) ≥ 9223372036854775808) = decide (n ≥ 2 ^ 63) := decide_eq_decide.mpr (by omega)
    refine boolI (fun h1 => ?_) (fun h1 => ?_)
    · have h1 : (e == 0) = true := h1
      rw [ee] at h1
      refine aw_cond (boolI (fun h2 => ?_) (fun h2 => ?_))
      · have h2 : decide ((n : Int) ≥ 9223372036854775808) = true := h2
        rw [en] at h2
        refine aw_seq (aw_region hT ?_)
        refine aw_ret ?_
        rw [h1, h2] at hN
        have hN : Z = (0, 0, 7) := hN
        subst hN
        exact retPick [0] ⟨rfl, rfl⟩ rfl
      · have h2 : decide ((n : Int) ≥ 9223372036854775808) = false := h2
        rw [en] at h2
        exact aw_skip ⟨wk_pick [0] [5, 6, 7] rfl, by rw [h1, h2]; rfl⟩
    · have h1 : (e == 0) = false := h1
      rw [ee] at h1
      refine aw_cond ?_
      exact aw_skip ⟨wk_pick [0] [5, 6, 7] rfl, by rw [h1]; rfl⟩
  · intro h
    rw [h] at hN
    have hN : Z = (n, k, e) := hN
    subst hN
    have hn : n < 2 ^ 63 := by
      by_cases he : e = 0
      · rw [decide_eq_true he, Bool.true_and] at h
        have := of_decide_eq_false h; omega
      · rw [hz he]; omega
    have v : IntKind.i64.wrap (n : Int) = n := wrap64 _ (by omega) (by omega)
    refine aw_seq (aw_region hT ?_)
    refine aw_ret ?_
    show ∃ u2 H2, _ ∧ Pure (.tup [i64 (n : Int), i64 k, i64 e]) [inC b] u2 H2
    rw [show i64 (n : Int) = i64 (IntKind.i64.wrap (n : Int)) by rw [v]]
    exact retPick [0] ⟨rfl, rfl⟩ rfl

theorem numS_k (b : Bytes) : (numS b).2.1 ≤ b.length ∧ ((numS b).2.2 ≠ 0 → (numS b).2.1 = 0) := by
  have hok := lookB_ok (b := b)
  have hz : (lookB b).2.2 ≠ 0 → (lookB b).2.1 = 0 := fun h => (lookF_err b 0 0 1 h).2
  unfold numS
  generalize lookB b = Y at hok hz
  obtain ⟨n, k, e⟩ := Y
  have hok : e = 0 → k ≤ b.length := fun h => (hok h).2.1
  have hz : e ≠ 0 → k = 0 := hz
  show (match decide (e = 0) && decide (n ≥ 2 ^ 63) with | true => (0, 0, 7) | false => (n, k, e) : Nat × Nat × Int).2.1 ≤ _ ∧ ((match decide (e = 0) && decide (n ≥ 2 ^ 63) with | true => (0, 0, 7) | false => (n, k, e) : Nat × Nat × Int).2.2 ≠ 0 → (match decide (e = 0) && decide (n ≥ 2 ^ 63) with | true => (0, 0, 7) | false => (n, k, e) : Nat × Nat × Int).2.1 = 0)
  cases decide (e = 0) && decide (n ≥ 2 ^ 63) with
  | true => exact ⟨Nat.zero_le _, fun _ => rfl⟩
  | false =>
    refine ⟨?_, hz⟩
    show k ≤ _
    by_cases he : e = 0
    · exact hok he
    · rw [hz he]; exact Nat.zero_le _

theorem In_Num (b : Bytes) (hb : b.length ≤ 1000000) : AFm Try.prog 1 f_code_In_Num [.ref 0 0] [inC b] (Pure (.tup [i64 (numS b).1, i64 (numS b).2.2]) [inC (b.drop (numS b).2.1)]) := by
  have w := In_num b hb
  have hk := numS_k b
  generalize numS b = Y at w hk
  obtain ⟨n, k, e⟩ := Y
  have w : AFm Try.prog 1 f_code_In_num [.ref 0 0] [inC b] (Pure (.tup [i64 n, i64 k, i64 e]) [inC b]) := w
  have hk1 : k ≤ b.length := hk.1
  have hk2 : e ≠ 0 → k = 0 := hk.2
  have hbl := bx_len b
  refine af_bodyM 1 hT F_code_In_Num rfl rfl N_code_In_Num rfl rfl ?_
  refine aw_seq (aw_region hT ?_)
  refine aw_seq (aw_region hT ?_)
  refine callP (af_in [0] w rfl rfl rfl) ?_
  refine aw_cut ⟨⟨26, [(4, i64 n), (6, i64 e)]⟩, [inC (b.drop k)]⟩ True (aw_seq (aw_region hT ?_)) (fun _ => ?_)
  · refine aw_cond (boolI (fun h => ?_) (fun h => ?_))
    · refine aw_region hT ?_
      refine ⟨⟨Int.natCast_nonneg _, by omega⟩, ?_⟩
      show _ ∧ True
      rw [show inC (b.drop k) = .cells t_code_In [.p (.sl 1 (((bx b).take ((bx b).length : Int).toNat).drop ((k : Nat) : Int).toNat))] by rw [Int.toNat_natCast, Int.toNat_natCast, List.take_length, ← bx_drop]]
      exact ⟨wk_pick [0] [4, 6] rfl, trivial⟩
    · have h : (e == 0) = false := h
      have he : e ≠ 0 := by intro e0; rw [e0] at h; exact absurd h (by decide)
      rw [hk2 he, List.drop_zero]
      exact aw_skip ⟨wk_pick [0] [4, 6] rfl, trivial⟩
  · refine aw_seq (aw_region hT ?_)
    refine aw_ret ?_
    exact retPick [0] ⟨rfl, rfl⟩ rfl
end Go.Proofs.Ytmdponffajapjaa.AL

/- The document's layer 05: digits; what stands next. -/
namespace Go.Proofs.Ytmdponffajapjaa.AL
open Go Go.Proofs

theorem numD_half (h o : Nat) (ho : o ≤ 1) (hh : ¬ h < 64) : numD (2 * h + o) = UInt8.ofNat (2 * (h % 64) + o + 128) :: numD (h / 64) := by
  rw [numD_ge (by omega)]
  rw [show (2 * h + o) % 128 = 2 * (h % 64) + o by omega, show (2 * h + o) / 128 = h / 64 by omega]

theorem numD_le (n : Nat) (h : n < 2 ^ 63) : (numD n).length ≤ 9 := numD_len 8 n (by rw [show (128 : Nat) ^ 9 = 2 ^ 63 by decide]; exact h)

theorem ref05_digits (h : Nat) : ∀ (o : Nat), o ≤ 1 → h < 2 ^ 62 → AF Try.prog f_ref05_digits [i64 h, i64 o] [] (Pure (bA (numD (2 * h + o))) []) := by
  induction h using Nat.strongRecOn with
  | ind h ih =>
  intro o ho hh
  have hM : AF Try.prog f_ref05_digits [i64 h, i64 o] [] (Pure (.msl 0 1 0 (bx (numD (2 * h + o))).length) [.row t_u8 1 (bx (numD (2 * h + o)))]) := by
    refine af_body hT F_ref05_digits rfl rfl N_ref05_digits rfl ?_
    refine aw_seq (aw_region hT ?_)
    refine aw_seq (aw_seq (aw_region hT ?_))
    refine aw_cond (boolI (fun h1 => ?_) (fun h1 => ?_))
    · have h1 := of_decide_eq_true (show decide ((h : Int) < 64) = true from h1)
      refine aw_seq (aw_region hT ?_)
      refine aw_ret ?_
      have e : bx (numD (2 * h + o)) = [[.raw (.int .u8 (IntKind.u8.wrap (IntKind.i64.wrap (IntKind.i64.wrap (2 * (h : Int)) + (o : Int)))))]] := by
        rw [numD_lt (by omega), wrap64 (2 * (h : Int)) (by omega) (by omega), wrap64 _ (by omega) (by omega), show 2 * (h : Int) + (o : Int) = ((2 * h + o : Nat) : Int) by omega, u8_wrapN]
        rfl
      rw [e]
      exact retPick [0] ⟨rfl, rfl⟩ rfl
    · have h1 := of_decide_eq_false (show decide ((h : Int) < 64) = false from h1)
      refine aw_skip ?_
      have wN : AF Try.prog f_ref05_Num [i64 ((h / 64 : Nat) : Int)] [] (Pure (bA (numD (h / 64))) []) := by
        refine af_body hT F_ref05_Num rfl rfl N_ref05_Num rfl ?_
        refine aw_seq (aw_region hT ?_)
        refine aw_seq (aw_region hT ?_)
        have w := ih (h / 64 / 2) (by omega) (h / 64 % 2) (by omega) (by omega)
        rw [show 2 * (h / 64 / 2) + h / 64 % 2 = h / 64 by omega, ← nat_tdiv _ 2 (by omega), ← nat_tmod _ 2] at w
        refine callP (af_at w _ rfl rfl) ?_
        refine aw_ret ?_
        exact retPick [] ⟨rfl, rfl⟩ rfl
      rw [← nat_tdiv h 64 (by omega)] at wN
      obtain ⟨C, hC⟩ : ∃ C, C = UInt8.ofNat (2 * (h % 64) + o + 128) := ⟨_, rfl⟩
      have e : bx (numD (2 * h + o)) = [[u8 C]] ++ bx (numD (h / 64)) := by rw [numD_half h o ho (by omega), ← hC]; rfl
      have hlen := numD_le (h / 64) (by omega)
      have v : [[PV.raw (.int .u8 (IntKind.u8.wrap (IntKind.i64.wrap (IntKind.i64.wrap (IntKind.i64.wrap (2 * ((h : Int).tmod ((64 : Nat) : Int))) + (o : Int)) + 128))))]] = [[u8 C]] := by
        rw [nat_tmod, wrap64 (2 * ((h % 64 : Nat) : Int)) (by omega) (by omega), wrap64 (2 * ((h % 64 : Nat) : Int) + (o : Int)) (by omega) (by omega), wrap64 _ (by omega) (by omega), show 2 * ((h % 64 : Nat) : Int) + (o : Int) + 128 = ((2 * (h % 64) + o + 128 : Nat) : Int) by omega, u8_wrapN, hC]
      rw [e]
      have hbn := bx_len (numD (h / 64))
      refine aw_seq (aw_region hT ?_)
      refine callP (af_at wN _ rfl rfl) ?_
      refine ⟨rfl, ⟨?_, ?_⟩, ?_⟩
      · show (1 + (bx (numD (h / 64))).length) * 1 ≤ 140737488355328
        omega
      · show 1 + (bx (numD (h / 64))).length ≤ 140737488355328
        omega
      refine aw_ret ?_
      rw [← v]
      exact retPick [1] ⟨rfl, rfl⟩ rfl
  exact af_frz hM rfl
theorem ref05_Num (n : Nat) (hn : n < 2 ^ 63) : AF Try.prog f_ref05_Num [i64 n] [] (Pure (bA (numD n)) []) := by
  refine af_body hT F_ref05_Num rfl rfl N_ref05_Num rfl ?_
  refine aw_seq (aw_region hT ?_)
  refine aw_seq (aw_region hT ?_)
  have w := ref05_digits (n / 2) (n % 2) (by omega) (by omega)
  rw [show 2 * (n / 2) + n % 2 = n by omega, ← nat_tdiv _ 2 (by omega), ← nat_tmod _ 2] at w
  refine callP (af_at w _ rfl rfl) ?_
  refine aw_ret ?_
  exact retPick [] ⟨rfl, rfl⟩ rfl
end Go.Proofs.Ytmdponffajapjaa.AL

/- The document's layer 05: how many digits stand next. -/
namespace Go.Proofs.Ytmdponffajapjaa.AL
open Go Go.Proofs

theorem ibeq (i k : Nat) : ((i : Int) == (k : Int)) = decide (i = k) := by
  by_cases e : i = k
  · rw [decide_eq_true e, e]; exact beq_self_eq_true _
  · rw [decide_eq_false e]; exact beq_eq_false_iff_ne.mpr (by omega)

set_option maxRecDepth 20000 in
theorem ref05_run (b : Bytes) (_hb : b.length ≤ 1000000) : AF Try.prog f_ref05_run [bA b] [] (Pure (.tup [i64 (lookB b).2.1, i64 (lookB b).2.2]) []) := by
  have hbl := bx_len b
  refine af_body hT F_ref05_run rfl rfl N_ref05_run rfl ?_
  refine aw_seq (aw_region hT ?_)
  refine aw_seq (aw_seq (aw_region hT ?_))
  refine aw_block ?_
  refine aw_loopW (fun m s => ∃ (i : Nat) (j : Int), m + i = b.length ∧ j = i ∧ i ≤ 10 ∧ (lookB b).2 = (lookF i 0 1 (b.drop i)).2 ∧ s = ⟨⟨40, [(0, bA b), (4, i64 j)]⟩, []⟩) b.length ⟨⟨40, _⟩, []⟩ (wk_pick [] [0, 4] rfl) ⟨0, 0, rfl, rfl, by omega, rfl, rfl⟩ ?_
  rintro m s ⟨i, j, hmi, rfl, hi10, hlk, rfl⟩
  refine aw_seq (aw_seq (aw_region hT ?_))
  refine aw_cond (boolI (fun h => ?_) (fun h => ?_))
  · have hi : i < b.length := by
      have := of_decide_eq_true (show decide ((i : Int) < ((bx b).length : Int)) = true from h)
      omega
    have hx := List.getElem?_eq_getElem hi
    have hdr : b.drop i = b[i] :: b.drop (i + 1) := List.drop_eq_getElem_cons hi
    generalize b[i] = c at hx hdr
    have hxp : (bx b)[((i : Nat) : Int).toNat]? = some [u8 c] := by rw [Int.toNat_natCast]; exact bx_get hx
    have hc := c.toNat_lt
    refine aw_skip ?_
    rw [hdr] at hlk
    unfold lookF at hlk
    have e10 : ((i : Int) == 10) = decide (i = 10) := ibeq i 10
    have e9 : ((i : Int) == 9) = decide (i = 9) := ibeq i 9
    have ec : decide ((c.toNat : Int) > 1) = decide (c.toNat > 1) := decide_eq_decide.mpr (by omega)
    have ez : ((c.toNat : Int) == 0) = decide (c.toNat = 0) := ibeq c.toNat 0
    have e8 : decide ((c.toNat : Int) < 128) = !decide (c.toNat ≥ 128) := by rw [← decide_not]; exact decide_eq_decide.mpr (by omega)
    have e0 : decide ((i : Int) > 0) = decide (i > 0) := decide_eq_decide.mpr (by omega)
    refine aw_cut ⟨⟨40, [(0, bA b), (4, i64 i)]⟩, []⟩ ((decide (i = 10) || (decide (i = 9) && decide (c.toNat > 1))) = false ∧ decide (c.toNat ≥ 128) = true) (aw_block ?_) ?_
    · refine aw_cut ⟨⟨40, [(0, bA b), (4, i64 i)]⟩, []⟩ ((decide (i = 10) || (decide (i = 9) && decide (c.toNat > 1))) = false) (aw_seq (aw_region hT ?_)) ?_
      · refine boolI (fun h1 => ?_) (fun h1 => ?_)
        · have h1 : ((i : Int) == 10) = true := h1
          rw [e10] at h1
          rw [h1] at hlk
          refine aw_cond ?_
          refine aw_seq (aw_region hT ?_)
          refine aw_ret ?_
          rw [hlk]
          exact retPick [] ⟨rfl, rfl⟩ rfl
        · have h1 : ((i : Int) == 10) = false := h1
          rw [e10] at h1
          refine boolI (fun h2 => ?_) (fun h2 => ?_)
          · have h2 : ((i : Int) == 9) = true := h2
            rw [e9] at h2
            refine ⟨Int.natCast_nonneg _, optI hxp ?_⟩
            refine aw_cond (boolI (fun h3 => ?_) (fun h3 => ?_))
            · have h3 : decide ((c.toNat : Int) > 1) = true := h3
              rw [ec] at h3
              rw [h1, h2, h3] at hlk
              refine aw_seq (aw_region hT ?_)
              refine aw_ret ?_
              rw [hlk]
              exact retPick [] ⟨rfl, rfl⟩ rfl
            · have h3 : decide ((c.toNat : Int) > 1) = false := h3
              rw [ec] at h3
              exact aw_skip ⟨wk_pick [] [0, 4] rfl, by rw [h1, h2, h3]; rfl⟩
          · have h2 : ((i : Int) == 9) = false := h2
            rw [e9] at h2
            refine aw_cond ?_
            exact aw_skip ⟨wk_pick [] [0, 4] rfl, by rw [h1, h2]; rfl⟩
      · intro hG
        rw [hG] at hlk
        refine aw_seq (aw_region hT ?_)
        refine ⟨Int.natCast_nonneg _, optI hxp ?_⟩
        refine aw_cond (boolI (fun h2 => ?_) (fun h2 => ?_))
        · have h2 : decide ((c.toNat : Int) < 128) = true := h2
          rw [e8, Bool.not_eq_true'] at h2
          rw [h2] at hlk
          have vi : IntKind.i64.wrap ((i : Int) + 1) = ((i + 1 : Nat) : Int) := by rw [wrap64 _ (by omega) (by omega)]; rfl
          refine aw_cut ⟨⟨40, [(4, i64 i)]⟩, []⟩ ((lookB b).2 = (i + 1, 0)) (aw_seq (aw_region hT ?_)) ?_
          · refine ⟨Int.natCast_nonneg _, optI hxp ?_⟩
            refine boolI (fun h3 => ?_) (fun h3 => ?_)
            · have h3 : ((c.toNat : Int) == 0) = true := h3
              rw [ez] at h3
              rw [h3] at hlk
              refine aw_cond (boolI (fun h4 => ?_) (fun h4 => ?_))
              · have h4 : decide ((i : Int) > 0) = true := h4
                rw [e0] at h4
                rw [h4] at hlk
                refine aw_seq (aw_region hT ?_)
                refine aw_ret ?_
                rw [hlk]
                exact retPick [] ⟨rfl, rfl⟩ rfl
              · have h4 : decide ((i : Int) > 0) = false := h4
                rw [e0] at h4
                rw [h4] at hlk
                exact aw_skip ⟨wk_pick [] [4] rfl, hlk⟩
            · have h3 : ((c.toNat : Int) == 0) = false := h3
              rw [ez] at h3
              rw [h3] at hlk
              refine aw_cond ?_
              exact aw_skip ⟨wk_pick [] [4] rfl, hlk⟩
          · intro hlk
            refine aw_seq (aw_region hT ?_)
            refine aw_ret ?_
            rw [hlk]
            show ∃ u2 H2, _ ∧ Pure (.tup [i64 ((i + 1 : Nat) : Int), i64 0]) [] u2 H2
            rw [← vi]
            exact retPick [] ⟨rfl, rfl⟩ rfl
        · have h2 : decide ((c.toNat : Int) < 128) = false := h2
          rw [e8, Bool.not_eq_false'] at h2
          exact aw_skip ⟨wk_pick [] [0, 4] rfl, hG, h2⟩
    · rintro ⟨hG, h2⟩
      have hi8 : i ≤ 8 := by
        rw [Bool.or_eq_false_iff, Bool.and_eq_false_iff] at hG
        have a1 := of_decide_eq_false hG.1
        have a2 := of_decide_eq_true h2
        rcases hG.2 with h | h
        · have := of_decide_eq_false h; omega
        · have := of_decide_eq_false h; omega
      rw [hG, h2] at hlk
      refine aw_region hT ?_
      refine ⟨m - 1, by omega, _, wk_pick [] [0, 4] rfl, i + 1, IntKind.i64.wrap ((i : Int) + 1), by omega, ?_, by omega, hlk.trans (lookF_any _ _ _ _ _ _), rfl⟩
      rw [wrap64 _ (by omega) (by omega)]; rfl
  · have hi : ¬ (i : Int) < ((bx b).length : Int) := of_decide_eq_false h
    rw [List.drop_eq_nil_of_le (by omega)] at hlk
    refine aw_exit ?_
    refine aw_seq (aw_region hT ?_)
    refine aw_ret ?_
    rw [hlk]
    exact retPick [] ⟨rfl, rfl⟩ rfl

theorem val_take {d : Bytes} {i : Nat} {c : UInt8} (h : d[i]? = some c) : val (d.take (i + 1)) = val (d.take i) + (c.toNat % 128) * 128 ^ i := by
  have hi := (List.getElem?_eq_some_iff.1 h).1
  rw [List.take_add_one, h]
  show val (d.take i ++ [c]) = _
  rw [val_snoc, List.length_take, Nat.min_eq_left (by omega)]
theorem val_mono : ∀ (d : Bytes) (i : Nat), val (d.take i) ≤ val d
  | [], i => by simp
  | c :: r, 0 => by simp [val]
  | c :: r, i + 1 => by
    rw [List.take_succ_cons, val, val]
    have := val_mono r i
    omega

set_option maxRecDepth 20000 in
theorem ref05_halves (d : Bytes) (hd0 : 0 < d.length) (hd : d.length ≤ 10) (hv : val d < 2 ^ 64) : AF Try.prog f_ref05_halves [bA d] [] (Pure (.tup [i64 ((val d / 2 : Nat) : Int), i64 ((val d % 2 : Nat) : Int)]) []) := by
  have hbl := bx_len d
  obtain ⟨c0, h0⟩ : ∃ c, d[0]? = some c := ⟨_, List.getElem?_eq_getElem hd0⟩
  have hx0 : (bx d)[(0 : Int).toNat]? = some [u8 c0] := bx_get h0
  have hc0 := c0.toNat_lt
  have hv1 : val (d.take 1) = c0.toNat % 128 := by rw [show (1 : Nat) = 0 + 1 from rfl, val_take h0]; simp [val]
  have hodd : val d % 2 = c0.toNat % 2 := by
    cases d with
    | nil => simp at hd0
    | cons x r =>
      simp only [List.getElem?_cons_zero, Option.some.injEq] at h0
      subst h0
      rw [val]; omega
  refine af_body hT F_ref05_halves rfl rfl N_ref05_halves rfl ?_
  refine aw_seq (aw_region hT ?_)
  refine aw_seq (aw_region hT ?_)
  refine ⟨Int.le_refl _, optI hx0 ?_⟩
  refine aw_seq (aw_region hT ?_)
  refine ⟨Int.le_refl _, optI hx0 ?_⟩
  refine aw_seq (aw_region hT ?_)
  refine aw_seq (aw_seq (aw_region hT ?_))
  refine aw_block ?_
  refine aw_loopW (fun m s => ∃ (i : Nat) (j a p o : Int), m + i = d.length ∧ 1 ≤ i ∧ j = i ∧ a = ((val (d.take i) / 2 : Nat) : Int) ∧ p = ((64 * 128 ^ (min (i - 1) 8) : Nat) : Int) ∧ o = ((val d % 2 : Nat) : Int) ∧ s = ⟨⟨41, [(0, bA d), (4, i64 a), (5, i64 o), (6, i64 p), (7, i64 j)]⟩, []⟩) (d.length - 1) ⟨⟨41, _⟩, []⟩ (wk_pick [] [0, 4, 5, 6, 7] rfl) ⟨1, 1, _, 64, _, by omega, by omega, rfl, ?_, rfl, ?_, rfl⟩ ?_
  · rw [hv1]
    show IntKind.i64.wrap ((IntKind.i64.wrap ((c0.toNat : Int).tmod ((128 : Nat) : Int))).tdiv ((2 : Nat) : Int)) = _
    rw [nat_tmod, wrap64 ((c0.toNat % 128 : Nat) : Int) (by omega) (by omega), nat_tdiv _ 2 (by omega)]
  · show (IntKind.i64.wrap (c0.toNat : Int)).tmod ((2 : Nat) : Int) = _
    rw [wrap64 (c0.toNat : Int) (by omega) (by omega), nat_tmod, hodd]
  rintro m s ⟨i, j, a, p, o, hmi, hi1, rfl, ha, hp, ho, rfl⟩
  refine aw_seq (aw_seq (aw_region hT ?_))
  refine aw_cond (boolI (fun h => ?_) (fun h => ?_))
  · have hi : i < d.length := by
      have := of_decide_eq_true (show decide ((i : Int) < ((bx d).length : Int)) = true from h)
      omega
    have hx := List.getElem?_eq_getElem hi
    generalize d[i] = c at hx
    have hxp : (bx d)[((i : Nat) : Int).toNat]? = some [u8 c] := by rw [Int.toNat_natCast]; exact bx_get hx
    have hc := c.toNat_lt
    have hvt := val_take hx
    have hvm := val_mono d (i + 1)
    obtain ⟨k, rfl⟩ : ∃ k, i = k + 1 := ⟨i - 1, by omega⟩
    have hpk : min (k + 1 - 1) 8 = k := by omega
    rw [hpk] at hp
    have hpow : 128 ^ (k + 1) = 128 * 128 ^ k := by rw [Nat.pow_succ, Nat.mul_comm]
    have hm2 : (c.toNat % 128) * 128 ^ (k + 1) = 2 * ((c.toNat % 128) * (64 * 128 ^ k)) := by
      rw [hpow]
      rw [show (128 : Nat) * 128 ^ k = 2 * (64 * 128 ^ k) by omega]
      rw [Nat.mul_left_comm]
    have hk8 : 128 ^ k ≤ 128 ^ 8 := Nat.pow_le_pow_right (by omega) (by omega)
    have v1 : IntKind.i64.wrap (a + IntKind.i64.wrap (IntKind.i64.wrap ((c.toNat : Int).tmod ((128 : Nat) : Int)) * p)) = ((val (d.take (k + 1 + 1)) / 2 : Nat) : Int) := by
      rw [nat_tmod, wrap64 ((c.toNat % 128 : Nat) : Int) (by omega) (by omega), hp, ← Int.natCast_mul]
      generalize (c.toNat % 128) * (64 * 128 ^ k) = Q at hm2
      rw [wrap64 (Q : Int) (by omega) (by omega), ha, wrap64 _ (by omega) (by omega)]
      omega
    refine aw_skip ?_
    refine aw_cut ⟨⟨41, [(0, bA d), (4, i64 ((val (d.take (k + 1 + 1)) / 2 : Nat) : Int)), (5, i64 o), (6, i64 ((64 * 128 ^ (min (k + 1) 8) : Nat) : Int)), (7, i64 ((k + 1 : Nat) : Int))]⟩, []⟩ True (aw_block (aw_seq (aw_region hT ?_))) (fun _ => ?_)
    · refine ⟨Int.natCast_nonneg _, optI hxp ?_⟩
      refine aw_seq (aw_region hT ?_)
      refine aw_cond (boolI (fun h1 => ?_) (fun h1 => ?_))
      · have h1 := of_decide_eq_true (show decide (((k + 1 : Nat) : Int) < 9) = true from h1)
        refine aw_region hT ?_
        rw [← v1, show ((64 * 128 ^ (min (k + 1) 8) : Nat) : Int) = IntKind.i64.wrap (p * 128) by
          have h7 : 128 ^ k ≤ 128 ^ 7 := Nat.pow_le_pow_right (by omega) (by omega)
          rw [hp, show min (k + 1) 8 = k + 1 by omega, hpow]
          generalize 128 ^ k = Q at h7
          rw [wrap64 _ (by omega) (by omega)]
          omega]
        exact ⟨wk_pick [] [0, 4, 5, 6, 7] rfl, trivial⟩
      · have h1 := of_decide_eq_false (show decide (((k + 1 : Nat) : Int) < 9) = false from h1)
        rw [← v1, show ((64 * 128 ^ (min (k + 1) 8) : Nat) : Int) = p by
          rw [hp, show min (k + 1) 8 = k by omega]]
        exact aw_skip ⟨wk_pick [] [0, 4, 5, 6, 7] rfl, trivial⟩
    · refine aw_region hT ?_
      refine ⟨m - 1, by omega, _, wk_pick [] [0, 4, 5, 6, 7] rfl, k + 1 + 1, IntKind.i64.wrap (((k + 1 : Nat) : Int) + 1), _, _, o, by omega, by omega, ?_, rfl, rfl, ho, rfl⟩
      rw [wrap64 _ (by omega) (by omega)]; rfl
  · have hi : ¬ (i : Int) < ((bx d).length : Int) := of_decide_eq_false h
    have hid : i = d.length := by omega
    rw [hid, List.take_length] at ha
    refine aw_exit ?_
    refine aw_seq (aw_region hT ?_)
    refine aw_ret ?_
    rw [← ha, ← ho]
    exact retPick [] ⟨rfl, rfl⟩ rfl
end Go.Proofs.Ytmdponffajapjaa.AL

/- The document's layer 05: what stands next is got. -/
namespace Go.Proofs.Ytmdponffajapjaa.AL
open Go Go.Proofs

set_option maxRecDepth 20000 in
theorem ref05_GetNum (b : Bytes) (hb : b.length ≤ 1000000) : AF Try.prog f_ref05_GetNum [bA b] [] (Pure (.tup [i64 (numS b).1, bA (b.drop (numS b).2.1), i64 (numS b).2.2]) []) := by
  have w := ref05_run b hb
  have hok := lookB_ok (b := b)
  have hz : (lookB b).2.2 ≠ 0 → (lookB b).1 = 0 ∧ (lookB b).2.1 = 0 := fun h => lookF_err b 0 0 1 h
  have hN := numS_of b
  generalize numS b = Z at hN
  generalize lookB b = Y at w hok hz hN
  obtain ⟨n, k, e⟩ := Y
  have hN : Z = match decide (e = 0) && decide (n ≥ 2 ^ 63) with | true => (0, 0, 7) | false => (n, k, e) := hN
  have w : AF Try.prog f_ref05_run [bA b] [] (Pure (.tup [i64 k, i64 e]) []) := w
  have hok : e = 0 → 0 < k ∧ k ≤ b.length ∧ k ≤ 10 ∧ n = val (b.take k) ∧ n < 2 ^ 64 := hok
  have hz : e ≠ 0 → n = 0 ∧ k = 0 := hz
  have hbl := bx_len b
  refine af_body hT F_ref05_GetNum rfl rfl N_ref05_GetNum rfl ?_
  refine aw_seq (aw_region hT ?_)
  refine aw_cut ⟨⟨35, [(0, bA b), (5, i64 k), (6, i64 e)]⟩, []⟩ True (aw_region hT ?_) (fun _ => ?_)
  · refine callP (af_at w _ rfl rfl) ?_
    exact ⟨wk_pick [] [0, 5, 6] rfl, trivial⟩
  refine aw_cut ⟨⟨35, [(0, bA b), (5, i64 k)]⟩, []⟩ (e = 0) (aw_seq (aw_region hT ?_)) ?_
  · refine aw_cond (boolI (fun h => ?_) (fun h => ?_))
    · have h : (e != 0) = true := h
      have he : e ≠ 0 := by simpa using h
      obtain ⟨rfl, rfl⟩ := hz he
      rw [decide_eq_false he] at hN
      have hN : Z = (0, 0, e) := hN
      subst hN
      refine aw_seq (aw_region hT ?_)
      refine aw_ret ?_
      show ∃ u2 H2, _ ∧ Pure (.tup [i64 ((0 : Nat) : Int), bA (b.drop 0), i64 e]) [] u2 H2
      rw [List.drop_zero]
      exact retPick [] ⟨rfl, rfl⟩ rfl
    · have h : (e != 0) = false := h
      have he : e = 0 := by simpa using h
      exact aw_skip ⟨wk_pick [] [0, 5] rfl, he⟩
  intro he
  obtain ⟨k0, kl, k10, hv, h64⟩ := hok he
  rw [decide_eq_true he, Bool.true_and] at hN
  have htl : (b.take k).length = k := by rw [List.length_take]; omega
  have wh := ref05_halves (b.take k) (by omega) (by omega) (by rw [← hv]; exact h64)
  rw [← hv] at wh
  have wh : AF Try.prog f_ref05_halves [.p (.sl 1 (((bx b).take ((k : Nat) : Int).toNat).drop (0 : Int).toNat))] [] (Pure (.tup [i64 ((n / 2 : Nat) : Int), i64 ((n % 2 : Nat) : Int)]) []) := by
    rw [Int.toNat_natCast, ← bx_take]; exact wh
  obtain ⟨half, hh⟩ : ∃ x, x = n / 2 := ⟨_, rfl⟩
  obtain ⟨odd, ho⟩ : ∃ x, x = n % 2 := ⟨_, rfl⟩
  rw [← hh, ← ho] at wh
  refine aw_cut ⟨⟨35, [(0, bA b), (5, i64 k), (7, i64 half), (8, i64 odd)]⟩, []⟩ True (aw_region hT ?_) (fun _ => ?_)
  · refine ⟨⟨Int.le_refl _, Int.natCast_nonneg _, ?_⟩, ?_⟩
    · show (k : Int) ≤ ((bx b).length : Int)
      omega
    refine callP (af_at wh _ rfl rfl) ?_
    exact ⟨wk_pick [] [0, 5, 7, 8] rfl, trivial⟩
  refine aw_cut ⟨⟨35, [(0, bA b), (5, i64 k), (7, i64 half), (8, i64 odd)]⟩, []⟩ (n < 2 ^ 63) (aw_seq (aw_region hT ?_)) ?_
  · refine aw_cond (boolI (fun h => ?_) (fun h => ?_))
    · have h := of_decide_eq_true (show decide ((half : Int) > 4611686018427387903) = true from h)
      rw [decide_eq_true (show n ≥ 2 ^ 63 by omega)] at hN
      have hN : Z = (0, 0, 7) := hN
      subst hN
      refine aw_seq (aw_region hT ?_)
      refine aw_ret ?_
      show ∃ u2 H2, _ ∧ Pure (.tup [i64 ((0 : Nat) : Int), bA (b.drop 0), i64 7]) [] u2 H2
      rw [List.drop_zero]
      exact retPick [] ⟨rfl, rfl⟩ rfl
    · have h := of_decide_eq_false (show decide ((half : Int) > 4611686018427387903) = false from h)
      exact aw_skip ⟨wk_pick [] [0, 5, 7, 8] rfl, by omega⟩
  intro hn63
  rw [decide_eq_false (show ¬ n ≥ 2 ^ 63 by omega)] at hN
  have hN : Z = (n, k, e) := hN
  subst hN
  refine aw_seq ?_
  refine aw_draw [] [] hT follows_mixed (by rfl) ?_
  refine ⟨⟨Int.natCast_nonneg _, ?_, Int.le_refl _⟩, ?_⟩
  · show (k : Int) ≤ ((bx b).length : Int)
    omega
  refine aw_ret ?_
  show ∃ u2 H2, _ ∧ Pure (.tup [i64 (n : Int), bA (b.drop k), i64 e]) [] u2 H2
  rw [show i64 (n : Int) = i64 (IntKind.i64.wrap (IntKind.i64.wrap (2 * (half : Int)) + (odd : Int))) by
    rw [wrap64 (2 * (half : Int)) (by omega) (by omega), wrap64 _ (by omega) (by omega)]; exact congrArg (fun z : Int => i64 z) (by omega)]
  rw [show bA (b.drop k) = .p (.sl 1 (((bx b).take ((bx b).length : Int).toNat).drop ((k : Nat) : Int).toNat)) by rw [Int.toNat_natCast, Int.toNat_natCast, List.take_length, ← bx_drop]]
  rw [he]
  exact retPick [] ⟨rfl, rfl⟩ rfl
end Go.Proofs.Ytmdponffajapjaa.AL

/- The layer 05 (code): a number is put. -/
namespace Go.Proofs.Ytmdponffajapjaa.AL
open Go Go.Proofs

abbrev outC (at_ : Nat) (b : Bytes) : ABlk := .cells t_code_Out [.msl at_ 1 0 (bx b).length]
abbrev outH (b : Bytes) : List ABlk := [outC 1 b, .row t_u8 1 (bx b)]

theorem code_digits (n : Int) : AF Try.prog f_code_digits [w64 n] [] (Pure (.clo (.func f_code_digits_1) [.ref 0 0]) [.cells t_uint64 [w64 n]]) := by
  refine af_body hT F_code_digits rfl rfl N_code_digits rfl ?_
  refine aw_seq (aw_region hT ?_)
  refine aw_seq (aw_region hT ?_)
  refine aw_ret ?_
  exact retPick [0] ⟨rfl, rfl⟩ rfl

abbrev putJ (L : ABlk) (x : Bytes × Int) : List ABlk := [outC 4 x.1, .cells t_p_code_Out [.ref 0 0], .cells t_uint64 [w64 x.2], L, .row t_u8 1 (bx x.1)]

abbrev putK (L : ABlk) (x : Bytes × Int) : List ABlk := [outC 5 x.1, .cells t_p_code_Out [.ref 0 0], .cells t_uint64 [w64 x.2], L, .dead, .row t_u8 1 (bx x.1)]
theorem put_pad {args : List AV} {q : RecK} {l : List AV} {b b' : Bytes} {m : Int} (hl : belowL 4 l = true) (ha : belowL 0 args = true) (h : AYm Try.prog 4 3 args (putJ (.lp q .ready none l) (b, m)) (fun r H' => r = bl true ∧ H' = putJ (.lp q .ready none l) (b', m))) :
    AY Try.prog 3 args (putJ (.lp q .ready none l) (b, m)) (fun r H' => r = bl true ∧ H' = putK (.lp q .ready none l) (b', m)) := by
  have hid : ∀ c, c < 4 → rho 5 [0, 1, 2, 3, 4] c = c := fun c hc => by
    rcases c with _ | _ | _ | _ | c
    · rfl
    · rfl
    · rfl
    · rfl
    · omega
  have hid2 : ∀ c, c < 4 → rho2 5 [0, 1, 2, 3] c = c := fun c hc => by
    rcases c with _ | _ | _ | _ | c
    · rfl
    · rfl
    · rfl
    · rfl
    · omega
  refine ay_pad [0, 1, 2, 3, 4] h ⟨rfl, by decide, ?_⟩ (show ∀ p ∈ [0, 1, 2, 3, 4], p < 5 by decide) (by decide) rfl (ren_idL (fun c hc => absurd hc (by omega)) args ha).symm ?_
  · intro c k hk
    right
    rcases c with _ | _ | _ | _ | _ | c
    · obtain rfl := Option.some.inj hk; exact ⟨0, rfl, rfl⟩
    · obtain rfl := Option.some.inj hk; exact ⟨1, rfl, rfl⟩
    · obtain rfl := Option.some.inj hk; exact ⟨2, rfl, rfl⟩
    · obtain rfl := Option.some.inj hk
      refine ⟨3, rfl, ?_⟩
      show some (ABlk.lp q .ready none l) = some (ABlk.lp q .ready none (renL (rho 5 [0, 1, 2, 3, 4]) l))
      rw [ren_idL hid l hl]
    · obtain rfl := Option.some.inj hk; exact ⟨4, rfl, rfl⟩
    · simp at hk
  · rintro r1 H1' ⟨rfl, rfl⟩
    refine ⟨show 4 ≤ 5 by decide, rfl, ?_⟩
    show [_, _, _, ABlk.lp q .ready none (renL (rho2 5 [0, 1, 2, 3]) l), _, _] = _
    rw [ren_idL hid2 l hl]
    rfl

theorem digits_seq (q : RecK) (l : List AV) (b0 : Bytes) (n : Nat) (hn : n < 2 ^ 64) (hl : belowL 4 l = true)
    (hy : ∀ (b : Bytes) (m : Int) (c : UInt8), b.length ≤ b0.length + 9 → AYm Try.prog 4 3 [.p (u8 c)] (putJ (.lp q .ready none l) (b, m)) (fun r H' => r = bl true ∧ H' = putJ (.lp q .ready none l) (b ++ [c], m))) :
    AFm Try.prog 4 f_code_digits_1 [.yld 3, .ref 2 0] (putJ (.lp q .ready none l) (b0, n)) (fun _ H' => ∃ m, H' = putJ (.lp q .ready none l) (b0 ++ numD n, m)) := by
  refine af_bodyM 4 hT F_code_digits_1 rfl rfl N_code_digits_1 rfl rfl ?_
  refine aw_cut2 (fun s => ∃ (b : Bytes) (m : Nat) (v : Int), v = m ∧ m < 128 ∧ b.length ≤ b0.length + 9 ∧ b ++ [UInt8.ofNat m] = b0 ++ numD n ∧ s = ⟨⟨18, [(0, .yld 3), (1, .ref 2 0)]⟩, putJ (.lp q .ready none l) (b, v)⟩) (aw_block ?_) ?_
  · refine aw_loopW (fun k s => ∃ (b : Bytes) (m : Nat) (v : Int), v = m ∧ k = m ∧ m < 2 ^ 64 ∧ (∃ j, b.length + j ≤ b0.length + 9 ∧ m < 128 ^ (j + 1)) ∧ b ++ numD m = b0 ++ numD n ∧ s = ⟨⟨18, [(0, .yld 3), (1, .ref 2 0)]⟩, putJ (.lp q .ready none l) (b, v)⟩) n ⟨⟨18, _⟩, _⟩ (wk_keep [0, 1]) ⟨b0, n, _, rfl, rfl, hn, ⟨9, by omega, by omega⟩, rfl, rfl⟩ ?_
    rintro k s ⟨b, m, v, hv, rfl, hm, ⟨j, hj, hmj⟩, hbn, rfl⟩
    refine aw_seq (aw_seq (aw_region hT ?_))
    refine aw_cond (boolI (fun h => ?_) (fun h => ?_))
    · have h := of_decide_eq_true (show decide (v ≥ 128) = true from h)
      have hm128 : ¬ k < 128 := by omega
      rw [numD_ge hm128] at hbn
      refine aw_skip ?_
      have hj0 : 0 < j := by
        rcases Nat.eq_zero_or_pos j with rfl | h0
        · omega
        · exact h0
      obtain ⟨j, rfl⟩ : ∃ i, j = i + 1 := ⟨j - 1, by omega⟩
      have y : AYm Try.prog 4 3 [.p (.raw (.int .u8 (IntKind.u8.wrap (IntKind.u8.wrap (v.tmod ((128 : Nat) : Int)) + 128))))] (putJ (.lp q .ready none l) (b, v)) (fun r H' => r = bl true ∧ H' = putJ (.lp q .ready none l) (b ++ [UInt8.ofNat (k % 128 + 128)], v)) := by
        have e : IntKind.u8.wrap (IntKind.u8.wrap (v.tmod ((128 : Nat) : Int)) + 128) = ((UInt8.ofNat (k % 128 + 128)).toNat : Int) := by
          rw [hv, nat_tmod, ← u8_wrapN]
          show (((k % 128 : Nat) : Int) % 256 + 128) % 256 = ((k % 128 + 128 : Nat) : Int) % 256
          omega
        rw [e]
        exact hy b v _ (by omega)
      refine aw_block (aw_seq (aw_seq (aw_region hT ?_)))
      refine ⟨_, put_pad hl rfl y, ?_⟩
      rintro r H' ⟨rfl, rfl⟩
      refine aw_cond ?_
      refine aw_skip ?_
      refine aw_region hT ?_
      have hdiv : k / 128 < 128 ^ (j + 1) := by rw [Nat.pow_succ] at hmj; exact Nat.div_lt_of_lt_mul (by rw [Nat.mul_comm]; exact hmj)
      refine ⟨k / 128, by omega, _, wk_pickL 3 [0, 1, 2, 3, 5] [0, 1] _ rfl hl rfl rfl rfl, b ++ [UInt8.ofNat (k % 128 + 128)], k / 128, IntKind.u64.wrap (v.tdiv 128), ?_, rfl, by omega, ⟨j, by rw [List.length_append]; simp; omega, hdiv⟩, by rw [List.append_assoc]; exact hbn, rfl⟩
      rw [hv, Int.tdiv_eq_ediv_of_nonneg (Int.natCast_nonneg _), wrapU _ (by omega) (by omega)]
      omega
    · have h := of_decide_eq_false (show decide (v ≥ 128) = false from h)
      have hm128 : k < 128 := by omega
      rw [numD_lt hm128] at hbn
      refine aw_exit ?_
      refine ⟨_, wk_keep [0, 1], b, k, v, hv, hm128, by omega, hbn, rfl⟩
  · rintro s ⟨b, m, v, hv, hm, hb, hbn, rfl⟩
    have y : AYm Try.prog 4 3 [.p (.raw (.int .u8 (IntKind.u8.wrap v)))] (putJ (.lp q .ready none l) (b, v)) (fun r H' => r = bl true ∧ H' = putJ (.lp q .ready none l) (b ++ [UInt8.ofNat m], v)) := by
      rw [hv, u8_wrapN]
      exact hy b _ _ hb
    refine aw_region hT ?_
    refine ⟨_, put_pad hl rfl y, ?_⟩
    rintro r H' ⟨rfl, rfl⟩
    exact ⟨_, _, wk_pickL 3 [0, 1, 2, 3, 5] [0] _ rfl hl rfl rfl rfl, v, by rw [← hbn]; rfl⟩

theorem Out_put (b0 : Bytes) (n : Nat) (hn : n < 2 ^ 64) (hb : b0.length ≤ 1000000) : AFm Try.prog 1 f_code_Out_put [.ref 0 0, w64 n] (outH b0) (Pure (.tup []) (outH (b0 ++ numD n))) := by
  refine af_bodyM 1 hT F_code_Out_put rfl rfl N_code_Out_put rfl rfl ?_
  refine aw_seq (aw_region hT ?_)
  refine aw_seq (aw_region hT ?_)
  refine callP (af_lift (code_digits n) _ rfl) ?_
  refine aw_block ?_
  have hlen : (numD n).length ≤ 10 := numD_len 9 n (by omega)
  refine aw_rangeFunc 3 18 [0, 2, 3, 4, 1] [2, 6] putJ (fun L (_ : Unit) => putJ L (b0, 0)) (b0, (n : Int)) (fun x => x.1 = b0 ++ numD n) (fun _ _ => False) rfl rfl (fun L _ => ⟨rfl, fun _ => rfl⟩) (fun L _ => ⟨rfl, fun _ => rfl⟩) rfl ?_ ?_ ?_
  · refine AFm.mono (digits_seq _ _ b0 n hn (belowL_dense (by rfl)) ?_) ?_
    · intro b m c hbl
      refine AYm.mono (ay_roundL (J := putJ) (Z := fun L (_ : Unit) => putJ L (b0, 0)) (a := (b, m)) (Rnd := fun x => x = (b ++ [c], m)) (Stp := fun _ _ => False) (fun L _ => ⟨rfl, fun _ => rfl⟩) (fun L _ => ⟨rfl, fun _ => rfl⟩) ?_ ?_ rfl rfl ?_) ?_
      · exact fun t u ht => pickF_lt (ks := [2, 6]) rfl ht
      · show ∀ p ∈ [7], p < 18
        decide
      · intro B l hl
        refine aw_region hT ?_
        refine ⟨rfl, ?_⟩
        refine aw_block ?_
        refine aw_draw [6, 7, 10] [] hT follows_mixed (by rfl) ?_
        have hb2 := bx_len b
        refine ⟨rfl, ⟨?_, ?_⟩, ?_⟩
        · show ((bx b).length + 1) * 1 ≤ 140737488355328
          omega
        · show (bx b).length + 1 ≤ 140737488355328
          omega
        refine ⟨rfl, ?_⟩
        refine ⟨rfl, ?_⟩
        refine ⟨rfl, ?_⟩
        refine ⟨rfl, ?_⟩
        refine ⟨(b ++ [c], m), ⟨18, []⟩, rfl, ?_⟩
        show Wk _ _ ⟨_, [.cells t_code_Out [.msl 4 1 0 (bx (b ++ [c])).length], .cells t_p_code_Out [.ref 0 0], .cells t_uint64 [w64 m], _, .row t_u8 1 (bx (b ++ [c]))]⟩
        rw [bx_snoc]
        exact wk_pickL 3 [0, 1, 2, 3, 6] [] _ rfl hl rfl rfl rfl
      · rintro r H' (⟨hr, a', rfl, hH⟩ | ⟨hr, c, z, h3, hH⟩)
        · exact ⟨hr, hH⟩
        · exact h3.elim
    · rintro r H' ⟨m, rfl⟩
      exact .inl ⟨(b0 ++ numD n, m), rfl, rfl⟩
  · rintro ⟨b, m⟩ hb'
    have hb' : b = b0 ++ numD n := hb'
    subst hb'
    exact retPick [0, 4] ⟨rfl, rfl⟩ rfl
  · intro _ _ h; exact h.elim

theorem Out_Num (b : Bytes) (n : Nat) (hn : n < 2 ^ 63) (hb : b.length ≤ 1000000) : AFm Try.prog 1 f_code_Out_Num [.ref 0 0, i64 n] (outH b) (Pure (i64 0) (outH (b ++ numD n))) := by
  have w := Out_put b n (by omega) hb
  obtain ⟨v, hv⟩ : ∃ v : Int, v = n := ⟨_, rfl⟩
  rw [← hv] at w ⊢
  rw [← wrapU v (by omega) (by omega)] at w
  refine af_bodyM 1 hT F_code_Out_Num rfl rfl N_code_Out_Num rfl rfl ?_
  refine aw_seq (aw_region hT ?_)
  refine aw_seq (aw_seq (aw_region hT ?_))
  refine aw_cond (boolI (fun h => ?_) (fun h => ?_))
  · have h := of_decide_eq_true (show decide (v < 0) = true from h)
    omega
  refine aw_skip ?_
  refine aw_seq (aw_region hT ?_)
  refine callP (af_in [0, 1] w rfl rfl rfl) ?_
  refine aw_seq (aw_region hT ?_)
  refine aw_ret ?_
  exact retPick [0, 2] ⟨rfl, rfl⟩ rfl

theorem Out_All (b : Bytes) (hb : b.length ≤ 1000000) : AFm Try.prog 2 f_code_Out_All [.ref 0 0] (outH b) (Pure (bA b) (outH b)) := by
  refine af_bodyM 2 hT F_code_Out_All rfl rfl N_code_Out_All rfl rfl ?_
  refine aw_seq (aw_region hT ?_)
  refine aw_seq (aw_seq (aw_region hT ?_))
  refine aw_cond ?_
  refine aw_skip ?_
  refine aw_seq (aw_region hT ?_)
  have flat : flatH [ABlk.row t_u8 1 (bx b)] := by
    intro k hk
    simp only [List.mem_singleton] at hk
    subst hk
    intro e he u hu
    simp only [bx, List.mem_map] at he
    obtain ⟨c, _, rfl⟩ := he
    simp only [List.mem_singleton] at hu
    subst hu
    trivial
  refine callP (af_lent (clone_u8M b hb) 1 rfl ⟨.inr (.inl ⟨rfl, rfl⟩), trivial⟩ rfl flat) ?_
  refine aw_wk (wk_frzE 2 2 _ rfl (bx_len b).symm rfl rfl) ?_
  refine aw_ret ?_
  exact retPick [0, 1] ⟨rfl, rfl⟩ rfl

theorem code_NewIn (b : Bytes) (hb : b.length ≤ 1000000) : AF Try.prog f_code_NewIn [bA b] [] (Pure (.ref 0 0) [inC b]) := by
  refine af_body hT F_code_NewIn rfl rfl N_code_NewIn rfl ?_
  refine aw_seq (aw_region hT ?_)
  refine aw_seq (aw_region hT ?_)
  refine callP (af_at (clone_u8 b hb) _ rfl rfl) ?_
  refine aw_ret ?_
  exact retPick [0] ⟨rfl, rfl⟩ rfl
end Go.Proofs.Ytmdponffajapjaa.AL

/- The layers 08 and 10: what geometry may be; what one may be. -/
namespace Go.Proofs.Ytmdponffajapjaa.AL
open Go Go.Proofs

theorem sup_word (l : List Int) (hl : l.length ≤ 1000000) : AF Try.prog f_sup_word [.p (.sl 1 (ix l))] [] (Pure (bl (l.all wordB)) []) := by
  refine af_body hT F_sup_word rfl rfl N_sup_word rfl ?_
  refine aw_seq (aw_region hT ?_)
  refine aw_cut ⟨⟨18, []⟩, []⟩ (l.all wordB = true) (aw_seq (aw_region hT ?_)) ?_
  · refine aw_block ?_
    refine aw_loopW (fun n s => ∃ (i : Nat) (j : Int), n + i = l.length ∧ j = i ∧ (l.take i).all wordB = true ∧ s = ⟨⟨18, [(5, .p (.sl 1 (ix l))), (6, i64 l.length), (7, i64 j)]⟩, []⟩) l.length ⟨⟨18, _⟩, []⟩ (wk_pick [] [5, 6, 7] rfl) ⟨0, 0, rfl, rfl, rfl, by rw [← ixl l]; rfl⟩ ?_
    rintro n s ⟨i, j, hni, rfl, ht, rfl⟩
    refine aw_seq (aw_region hT ?_)
    refine aw_seq (aw_cond (boolI (fun h => ?_) (fun h => ?_)))
    · have hi : i < l.length := by
        have := of_decide_eq_true (show decide ((i : Int) < (l.length : Int)) = true from h)
        omega
      have hx := List.getElem?_eq_getElem hi
      have hmem := List.getElem_mem hi
      have htk : l.take (i + 1) = l.take i ++ [l[i]] := by rw [List.take_add_one, hx]; rfl
      generalize l[i] = c at hx htk hmem
      have hxp : (ix l)[((i : Nat) : Int).toNat]? = some [.raw (.int .i64 c)] := by rw [Int.toNat_natCast]; exact ixg hx
      have bad : wordB c = false → l.all wordB = false := fun h => by
        rw [List.all_eq_false]; exact ⟨c, hmem, by rw [h]; simp⟩
      refine aw_skip ?_
      refine aw_cut ⟨⟨18, [(5, .p (.sl 1 (ix l))), (6, i64 l.length), (7, i64 i)]⟩, []⟩ (wordB c = true) (aw_block (aw_seq (aw_region hT ?_))) ?_
      · refine ⟨Int.natCast_nonneg _, optI hxp ?_⟩
        refine aw_seq (aw_region hT ?_)
        refine boolI (fun h2 => ?_) (fun h2 => ?_)
        · have h2 := of_decide_eq_true (show decide (c < 0) = true from h2)
          refine aw_cond ?_
          refine aw_seq (aw_region hT ?_)
          refine aw_ret ?_
          rw [bad (by unfold wordB; rw [decide_eq_false (by omega)]; rfl)]
          exact retPick [] ⟨rfl, rfl⟩ rfl
        · have h2 := of_decide_eq_false (show decide (c < 0) = false from h2)
          refine aw_cond (boolI (fun h3 => ?_) (fun h3 => ?_))
          · have h3 := of_decide_eq_true (show decide (c > 4294967295) = true from h3)
            refine aw_seq (aw_region hT ?_)
            refine aw_ret ?_
            rw [bad (by unfold wordB; rw [decide_eq_false (show ¬ c ≤ 4294967295 by omega), Bool.and_false])]
            exact retPick [] ⟨rfl, rfl⟩ rfl
          · have h3 := of_decide_eq_false (show decide (c > 4294967295) = false from h3)
            exact aw_skip ⟨wk_pick [] [5, 6, 7] rfl, by unfold wordB; rw [decide_eq_true (show 0 ≤ c by omega), decide_eq_true (show c ≤ 4294967295 by omega)]; rfl⟩
      · intro hc
        refine aw_region hT ?_
        refine ⟨n - 1, by omega, _, wk_pick [] [5, 6, 7] rfl, i + 1, IntKind.i64.wrap ((i : Int) + 1), by omega, ?_, ?_, rfl⟩
        · rw [wrap64 _ (by omega) (by omega)]; rfl
        · rw [htk, List.all_append, ht]; simp [hc]
    · have hi : ¬ (i : Int) < (l.length : Int) := of_decide_eq_false h
      have hil : i = l.length := by omega
      subst hil
      rw [List.take_length] at ht
      refine aw_exit ?_
      exact ⟨wk_pick [] [] rfl, ht⟩
  · intro h
    rw [h]
    refine aw_seq (aw_region hT ?_)
    refine aw_ret ?_
    exact retPick [] ⟨rfl, rfl⟩ rfl


theorem ref10_word (n : Int) : AF Try.prog f_ref10_word [i64 n] [] (Pure (bl (wordB n)) []) := by
  refine af_body hT F_ref10_word rfl rfl N_ref10_word rfl ?_
  refine aw_seq (aw_region hT ?_)
  unfold wordB
  refine aw_seq (aw_region hT ?_)
  refine boolI (fun h => ?_) (fun h => ?_)
  · rw [show decide (0 ≤ n) = true from h]
    refine aw_ret ?_
    exact retPick [] ⟨rfl, rfl⟩ rfl
  · rw [show decide (0 ≤ n) = false from h]
    refine aw_ret ?_
    exact retPick [] ⟨rfl, rfl⟩ rfl

def inR (n lo hi : Int) : Bool := decide (n ≥ lo) && decide (n ≤ hi)
theorem geo_in (n lo hi : Int) : AF Try.prog f_geo_in [i64 n, i64 lo, i64 hi] [] (Pure (bl (inR n lo hi)) []) := by
  refine af_body hT F_geo_in rfl rfl N_geo_in rfl ?_
  refine aw_seq (aw_region hT ?_)
  unfold inR
  refine aw_seq (aw_region hT ?_)
  refine boolI (fun h => ?_) (fun h => ?_)
  · rw [show decide (n ≥ lo) = true from h]
    refine aw_ret ?_
    exact retPick [] ⟨rfl, rfl⟩ rfl
  · rw [show decide (n ≥ lo) = false from h]
    refine aw_ret ?_
    exact retPick [] ⟨rfl, rfl⟩ rfl

structure GeoV where
  w : Int
  s : Int
  k : Int
  m : Int
  deriving DecidableEq
abbrev GeoV.pv (g : GeoV) : List PV := [.raw (.int .i64 g.w), .raw (.int .i64 g.s), .raw (.int .i64 g.k), .raw (.int .i64 g.m)]
abbrev GeoV.av (g : GeoV) : AV := .agg [i64 g.w, i64 g.s, i64 g.k, i64 g.m]
def GeoV.fits (g : GeoV) : Bool := inR g.w 8 512 && inR g.s 1 32 && inR g.k 1 16 && inR g.m 1 8
def GeoV.may (g : GeoV) : Bool := g.fits && decide (4 + 2 * g.w + 2 * g.s * (g.k + g.m) ≤ 4096)
def GeoV.room (g : GeoV) : Int := match g.may with | true => g.s * g.k * 228 | false => 0
theorem fits_of {g : GeoV} (h : g.fits = true) : 8 ≤ g.w ∧ g.w ≤ 512 ∧ 1 ≤ g.s ∧ g.s ≤ 32 ∧ 1 ≤ g.k ∧ g.k ≤ 16 ∧ 1 ≤ g.m ∧ g.m ≤ 8 := by
  unfold GeoV.fits inR at h
  simp only [Bool.and_eq_true, decide_eq_true_eq] at h
  omega
theorem fits_mul {g : GeoV} (h : g.fits = true) : 0 ≤ g.s * (g.k + g.m) ∧ g.s * (g.k + g.m) ≤ 768 ∧ 0 ≤ g.s * g.k ∧ g.s * g.k ≤ 512 ∧ 2 * g.s * (g.k + g.m) = 2 * (g.s * (g.k + g.m)) := by
  obtain ⟨h1, h2, h3, h4, h5, h6, h7, h8⟩ := fits_of h
  have a := Int.mul_le_mul (show g.s ≤ 32 from h4) (show g.k + g.m ≤ 24 by omega) (by omega) (by omega)
  have b := Int.mul_le_mul (show g.s ≤ 32 from h4) (show g.k ≤ 16 by omega) (by omega) (by omega)
  exact ⟨Int.mul_nonneg (by omega) (by omega), by omega, Int.mul_nonneg (by omega) (by omega), by omega, Int.mul_assoc _ _ _⟩

theorem geo_sectors (g : GeoV) (h : g.fits = true) : AF Try.prog f_geo_sectors [g.av] [] (Pure (i64 (4 + 2 * g.w + 2 * g.s * (g.k + g.m))) []) := by
  obtain ⟨h1, h2, h3, h4, h5, h6, h7, h8⟩ := fits_of h
  obtain ⟨m1, m2, m3, m4, m5⟩ := fits_mul h
  have wl : AF Try.prog f_geo_logged [g.av] [] (Pure (i64 (4 + 2 * g.w)) []) := by
    refine af_body hT F_geo_logged rfl rfl N_geo_logged rfl ?_
    refine aw_seq (aw_region hT ?_)
    refine aw_wk (wk_boxL 0 g.pv rfl rfl) ?_
    refine aw_seq (aw_region hT ?_)
    refine aw_ret ?_
    rw [show i64 (4 + 2 * g.w) = i64 (IntKind.i64.wrap (4 + IntKind.i64.wrap (2 * g.w))) by rw [wrap64 (2 * g.w) (by omega) (by omega), wrap64 _ (by omega) (by omega)]]
    exact retPick [] ⟨rfl, rfl⟩ rfl
  have ww : AF Try.prog f_geo_wide [g.av] [] (Pure (i64 (g.k + g.m)) []) := by
    refine af_body hT F_geo_wide rfl rfl N_geo_wide rfl ?_
    refine aw_seq (aw_region hT ?_)
    refine aw_wk (wk_boxL 0 g.pv rfl rfl) ?_
    refine aw_seq (aw_region hT ?_)
    refine aw_ret ?_
    rw [show i64 (g.k + g.m) = i64 (IntKind.i64.wrap (g.k + g.m)) by rw [wrap64 _ (by omega) (by omega)]]
    exact retPick [] ⟨rfl, rfl⟩ rfl
  refine af_body hT F_geo_sectors rfl rfl N_geo_sectors rfl ?_
  refine aw_seq (aw_region hT ?_)
  refine aw_wk (wk_boxL 0 g.pv rfl rfl) ?_
  refine aw_seq ?_
  refine aw_draw [] [] hT follows_mixed (by rfl) ?_
  refine ⟨_, af_at wl _ rfl rfl, ?_⟩
  refine ⟨_, af_at ww _ rfl rfl, ?_⟩
  refine aw_ret ?_
  rw [show i64 (4 + 2 * g.w + 2 * g.s * (g.k + g.m)) = i64 (IntKind.i64.wrap (4 + 2 * g.w + IntKind.i64.wrap (IntKind.i64.wrap (2 * g.s) * (g.k + g.m)))) by
    rw [wrap64 (2 * g.s) (by omega) (by omega), wrap64 (2 * g.s * (g.k + g.m)) (by omega) (by omega), wrap64 _ (by omega) (by omega)]]
  exact retPick [] ⟨rfl, rfl⟩ rfl

theorem geo_May (g : GeoV) : AF Try.prog f_geo_May [g.av] [] (Pure (bl g.may) []) := by
  refine af_body hT F_geo_May rfl rfl N_geo_May rfl ?_
  refine aw_seq (aw_region hT ?_)
  refine aw_wk (wk_boxL 0 g.pv rfl rfl) ?_
  refine aw_cut ⟨⟨28, [(1, .p (.box g.pv)), (3, bl g.fits)]⟩, []⟩ True (aw_region hT ?_) (fun _ => ?_)
  · unfold GeoV.fits
    refine callP (af_at (geo_in g.w 8 512) _ rfl rfl) ?_
    refine boolI (fun h => ?_) (fun h => ?_)
    · rw [show inR g.w 8 512 = true from h]
      refine callP (af_at (geo_in g.s 1 32) _ rfl rfl) ?_
      refine boolI (fun h => ?_) (fun h => ?_)
      · rw [show inR g.s 1 32 = true from h]
        refine callP (af_at (geo_in g.k 1 16) _ rfl rfl) ?_
        refine boolI (fun h => ?_) (fun h => ?_)
        · rw [show inR g.k 1 16 = true from h]
          refine callP (af_at (geo_in g.m 1 8) _ rfl rfl) ?_
          exact ⟨wk_pick [] [1, 3] rfl, trivial⟩
        · rw [show inR g.k 1 16 = false from h]
          exact ⟨wk_pick [] [1, 3] rfl, trivial⟩
      · rw [show inR g.s 1 32 = false from h]
        exact ⟨wk_pick [] [1, 3] rfl, trivial⟩
    · rw [show inR g.w 8 512 = false from h]
      exact ⟨wk_pick [] [1, 3] rfl, trivial⟩
  unfold GeoV.may
  refine aw_seq (aw_region hT ?_)
  refine boolI (fun h => ?_) (fun h => ?_)
  · have h : g.fits = true := h
    rw [h]
    refine callP (af_at (geo_sectors g h) _ rfl rfl) ?_
    refine aw_ret ?_
    exact retPick [] ⟨rfl, rfl⟩ rfl
  · rw [show g.fits = false from h]
    refine aw_ret ?_
    exact retPick [] ⟨rfl, rfl⟩ rfl

theorem geo_Room1 (g : GeoV) (h : g.fits = true) : AF Try.prog f_geo_Room_1 [g.av] [] (Pure (i64 (g.s * g.k * 228)) []) := by
  obtain ⟨m1, m2, m3, m4, m5⟩ := fits_mul h
  refine af_body hT F_geo_Room_1 rfl rfl N_geo_Room_1 rfl ?_
  refine aw_seq (aw_region hT ?_)
  refine aw_wk (wk_boxL 0 g.pv rfl rfl) ?_
  refine aw_seq (aw_region hT ?_)
  refine aw_ret ?_
  rw [show i64 (g.s * g.k * 228) = i64 (IntKind.i64.wrap (IntKind.i64.wrap (g.s * g.k) * 228)) by
    rw [wrap64 (g.s * g.k) (by omega) (by omega), wrap64 _ (by omega) (by omega)]]
  exact retPick [] ⟨rfl, rfl⟩ rfl

theorem geo_Room (g : GeoV) : AF Try.prog f_geo_Room [g.av] [] (Pure (i64 g.room) []) := by
  have wo : AF Try.prog f_geo_of [g.av, .clo (.func f_geo_Room_1) []] [] (Pure (i64 g.room) []) := by
    refine af_body hT F_geo_of rfl rfl N_geo_of rfl ?_
    refine aw_seq (aw_region hT ?_)
    refine aw_wk (wk_boxL 0 g.pv rfl rfl) ?_
    unfold GeoV.room
    refine aw_seq (aw_seq (aw_region hT ?_))
    refine callP (af_at (geo_May g) _ rfl rfl) ?_
    refine aw_cond (boolI (fun h => ?_) (fun h => ?_))
    · have h : (!g.may) = true := h
      rw [Bool.not_eq_true'] at h
      rw [h]
      refine aw_seq (aw_region hT ?_)
      refine aw_ret ?_
      exact retPick [] ⟨rfl, rfl⟩ rfl
    · have h : (!g.may) = false := h
      rw [Bool.not_eq_false'] at h
      rw [h]
      have hf : g.fits = true := by unfold GeoV.may at h; rw [Bool.and_eq_true] at h; exact h.1
      refine aw_skip ?_
      refine aw_seq (aw_region hT ?_)
      refine callP (af_at (geo_Room1 g hf) _ rfl rfl) ?_
      refine aw_ret ?_
      exact retPick [] ⟨rfl, rfl⟩ rfl
  refine af_body hT F_geo_Room rfl rfl N_geo_Room rfl ?_
  refine aw_seq (aw_region hT ?_)
  refine aw_wk (wk_boxL 0 g.pv rfl rfl) ?_
  refine aw_seq (aw_region hT ?_)
  refine callP (af_at wo _ rfl rfl) ?_
  refine aw_ret ?_
  exact retPick [] ⟨rfl, rfl⟩ rfl
end Go.Proofs.Ytmdponffajapjaa.AL

/- The layers 08 and 10: what may be. -/
namespace Go.Proofs.Ytmdponffajapjaa.AL
open Go Go.Proofs

theorem fits_iff (g : GeoV) : (g.fits = true) = (8 ≤ g.w ∧ g.w ≤ 512 ∧ 1 ≤ g.s ∧ g.s ≤ 32 ∧ 1 ≤ g.k ∧ g.k ≤ 16 ∧ 1 ≤ g.m ∧ g.m ≤ 8) := by
  refine propext ⟨fits_of, fun h => ?_⟩
  unfold GeoV.fits inR
  simp only [Bool.and_eq_true, decide_eq_true_eq]
  omega
set_option maxRecDepth 20000 in
theorem ref08_May (g : GeoV) : AF Try.prog f_ref08_May [g.av] [] (Pure (bl g.may) []) := by
  have no : ¬ (8 ≤ g.w ∧ g.w ≤ 512 ∧ 1 ≤ g.s ∧ g.s ≤ 32 ∧ 1 ≤ g.k ∧ g.k ≤ 16 ∧ 1 ≤ g.m ∧ g.m ≤ 8) → g.may = false := fun h => by
    have h2 : g.fits = false := by rw [← Bool.not_eq_true, fits_iff]; exact h
    unfold GeoV.may; rw [h2]; rfl
  refine AF.mono (R := fun r H' => ∃ b, b = g.may ∧ r = bl b ∧ H' = []) ?_ (by rintro r H' ⟨b, rfl, rfl, rfl⟩; exact ⟨rfl, rfl⟩)
  refine af_body hT F_ref08_May rfl rfl N_ref08_May rfl ?_
  refine aw_seq (aw_region hT ?_)
  refine aw_wk (wk_boxL 0 g.pv rfl rfl) ?_
  refine aw_cut ⟨⟨56, [(1, .p (.box g.pv))]⟩, []⟩ (g.fits = true) (aw_seq (aw_region hT ?_)) ?_
  · skip
    refine boolI (fun h0 => ?_) (fun h0 => ?_)
    · skip
      have h0 := of_decide_eq_true (show decide (g.w < 8) = true from h0)
      refine aw_cond ?_
      refine aw_seq (aw_region hT ?_)
      refine aw_ret ?_
      exact retPick [] ⟨_, (no (by omega)).symm, rfl, rfl⟩ rfl
    · have h0 := of_decide_eq_false (show decide (g.w < 8) = false from h0)
      refine boolI (fun h1 => ?_) (fun h1 => ?_)
      · skip
        have h1 := of_decide_eq_true (show decide (g.w > 512) = true from h1)
        refine aw_cond ?_
        refine aw_seq (aw_region hT ?_)
        refine aw_ret ?_
        exact retPick [] ⟨_, (no (by omega)).symm, rfl, rfl⟩ rfl
      · have h1 := of_decide_eq_false (show decide (g.w > 512) = false from h1)
        refine boolI (fun h2 => ?_) (fun h2 => ?_)
        · skip
          have h2 := of_decide_eq_true (show decide (g.s < 1) = true from h2)
          refine aw_cond ?_
          refine aw_seq (aw_region hT ?_)
          refine aw_ret ?_
          exact retPick [] ⟨_, (no (by omega)).symm, rfl, rfl⟩ rfl
        · have h2 := of_decide_eq_false (show decide (g.s < 1) = false from h2)
          refine boolI (fun h3 => ?_) (fun h3 => ?_)
          · skip
            have h3 := of_decide_eq_true (show decide (g.s > 32) = true from h3)
            refine aw_cond ?_
            refine aw_seq (aw_region hT ?_)
            refine aw_ret ?_
            exact retPick [] ⟨_, (no (by omega)).symm, rfl, rfl⟩ rfl
          · have h3 := of_decide_eq_false (show decide (g.s > 32) = false from h3)
            refine boolI (fun h4 => ?_) (fun h4 => ?_)
            · skip
              have h4 := of_decide_eq_true (show decide (g.k < 1) = true from h4)
              refine aw_cond ?_
              refine aw_seq (aw_region hT ?_)
              refine aw_ret ?_
              exact retPick [] ⟨_, (no (by omega)).symm, rfl, rfl⟩ rfl
            · have h4 := of_decide_eq_false (show decide (g.k < 1) = false from h4)
              refine boolI (fun h5 => ?_) (fun h5 => ?_)
              · skip
                have h5 := of_decide_eq_true (show decide (g.k > 16) = true from h5)
                refine aw_cond ?_
                refine aw_seq (aw_region hT ?_)
                refine aw_ret ?_
                exact retPick [] ⟨_, (no (by omega)).symm, rfl, rfl⟩ rfl
              · have h5 := of_decide_eq_false (show decide (g.k > 16) = false from h5)
                refine boolI (fun h6 => ?_) (fun h6 => ?_)
                · skip
                  have h6 := of_decide_eq_true (show decide (g.m < 1) = true from h6)
                  refine aw_cond ?_
                  refine aw_seq (aw_region hT ?_)
                  refine aw_ret ?_
                  exact retPick [] ⟨_, (no (by omega)).symm, rfl, rfl⟩ rfl
                · have h6 := of_decide_eq_false (show decide (g.m < 1) = false from h6)
                  refine aw_cond (boolI (fun h7 => ?_) (fun h7 => ?_))
                  · skip
                    have h7 := of_decide_eq_true (show decide (g.m > 8) = true from h7)
                    skip
                    refine aw_seq (aw_region hT ?_)
                    refine aw_ret ?_
                    exact retPick [] ⟨_, (no (by omega)).symm, rfl, rfl⟩ rfl
                  · have h7 := of_decide_eq_false (show decide (g.m > 8) = false from h7)
                    exact aw_skip ⟨wk_pick [] [1] rfl, by rw [fits_iff]; omega⟩
  intro hf
  obtain ⟨h1, h2, h3, h4, h5, h6, h7, h8⟩ := fits_of hf
  obtain ⟨m1, m2, m3, m4, m5⟩ := fits_mul hf
  refine aw_seq (aw_region hT ?_)
  refine aw_ret ?_
  refine retPick [] ⟨_, ?_, rfl, rfl⟩ rfl
  show decide (IntKind.i64.wrap (IntKind.i64.wrap (4 + IntKind.i64.wrap (2 * g.w)) + IntKind.i64.wrap (IntKind.i64.wrap (2 * g.s) * IntKind.i64.wrap (g.k + g.m))) ≤ 4096) = _
  unfold GeoV.may
  rw [hf, Bool.true_and, wrap64 (2 * g.w) (by omega) (by omega), wrap64 (4 + 2 * g.w) (by omega) (by omega), wrap64 (2 * g.s) (by omega) (by omega), wrap64 (g.k + g.m) (by omega) (by omega), wrap64 (2 * g.s * (g.k + g.m)) (by omega) (by omega), wrap64 _ (by omega) (by omega)]
structure Sup where
  vol : Int
  gen : Int
  epoch : Int
  area : Int
  snap : Int
  long : Int
  start : Int
  chain : Int
  g : GeoV
  deriving DecidableEq
abbrev Sup.ints (x : Sup) : List Int := [x.vol, x.gen, x.epoch, x.area, x.snap, x.long, x.start, x.chain, x.g.w, x.g.s, x.g.k, x.g.m]
abbrev Sup.pv (x : Sup) : List PV := [.raw (.int .i64 x.vol), .raw (.int .i64 x.gen), .raw (.int .i64 x.epoch), .raw (.int .i64 x.area), .raw (.int .i64 x.snap), .raw (.int .i64 x.long), .raw (.int .i64 x.start), .raw (.int .i64 x.chain), .raw (.int .i64 x.g.w), .raw (.int .i64 x.g.s), .raw (.int .i64 x.g.k), .raw (.int .i64 x.g.m)]
abbrev Sup.cv (x : Sup) : List AV := [i64 x.vol, i64 x.gen, i64 x.epoch, i64 x.area, i64 x.snap, i64 x.long, i64 x.start, i64 x.chain, i64 x.g.w, i64 x.g.s, i64 x.g.k, i64 x.g.m]
abbrev Sup.av (x : Sup) : AV := .agg x.cv
def Sup.words (x : Sup) : Bool := [x.vol, x.gen, x.epoch, x.snap, x.start, x.chain].all wordB
def Sup.may (x : Sup) : Bool := x.words && decide (x.gen ≥ 1) && decide (x.area ≥ 0) && decide (x.area < 2) && x.g.may && decide (x.long ≥ 0) && decide (x.long ≤ x.g.room)

set_option maxRecDepth 20000 in
theorem sup_May (x : Sup) : AF Try.prog f_sup_May [x.av] [] (Pure (bl x.may) []) := by
  refine AF.mono (R := fun r H' => ∃ b, b = x.may ∧ r = bl b ∧ H' = []) ?_ (by rintro r H' ⟨b, rfl, rfl, rfl⟩; exact ⟨rfl, rfl⟩)
  refine af_body hT F_sup_May rfl rfl N_sup_May rfl ?_
  refine aw_seq (aw_region hT ?_)
  refine aw_wk (wk_boxL 0 x.pv rfl rfl) ?_
  refine aw_cut2 (fun s => ∃ c, c = (x.words && decide (x.gen ≥ 1)) ∧ s = ⟨⟨52, [(1, .p (.box x.pv)), (3, bl c)]⟩, []⟩) (aw_regionF (fun k => Nat.beq 12 k) hT ?_) ?_
  · refine ⟨⟨rfl, rfl⟩, ?_⟩
    refine callP (af_at (sup_word [x.vol, x.gen, x.epoch, x.snap, x.start, x.chain] (by simp)) _ rfl rfl) ?_
    refine boolI (fun h => ?_) (fun h => ?_)
    · have h : x.words = true := h
      exact ⟨_, wk_pick [] [1, 3] rfl, _, by rw [h]; rfl, rfl⟩
    · have h : x.words = false := h
      exact ⟨_, wk_pick [] [1, 3] rfl, _, by rw [h]; rfl, rfl⟩
  rintro _ ⟨c, hc, rfl⟩
  have e : x.may = (c && decide (x.area ≥ 0) && decide (x.area < 2) && x.g.may && decide (x.long ≥ 0) && decide (x.long ≤ x.g.room)) := by unfold Sup.may; rw [hc]
  refine aw_seq ?_
  refine aw_draw [] [] hT follows_mixed (by rfl) ?_
  refine boolI (fun h0 => ?_) (fun h0 => ?_)
  · have h0 : c = true := h0
    refine boolI (fun h1 => ?_) (fun h1 => ?_)
    · have h1 : decide (x.area ≥ 0) = true := h1
      refine boolI (fun h2 => ?_) (fun h2 => ?_)
      · have h2 : decide (x.area < 2) = true := h2
        refine ⟨_, af_at (geo_May x.g) _ rfl rfl, ?_⟩
        refine boolI (fun h3 => ?_) (fun h3 => ?_)
        · have h3 : x.g.may = true := h3
          refine boolI (fun h4 => ?_) (fun h4 => ?_)
          · have h4 : decide (x.long ≥ 0) = true := h4
            refine ⟨_, af_at (geo_Room x.g) _ rfl rfl, ?_⟩
            refine aw_ret ?_
            exact retPick [] ⟨_, by rw [e, h0, h1, h2, h3, h4]; rfl, rfl, rfl⟩ rfl
          · have h4 : decide (x.long ≥ 0) = false := h4
            refine aw_ret ?_
            exact retPick [] ⟨_, by rw [e, h0, h1, h2, h3, h4]; rfl, rfl, rfl⟩ rfl
        · have h3 : x.g.may = false := h3
          refine aw_ret ?_
          exact retPick [] ⟨_, by rw [e, h0, h1, h2, h3]; rfl, rfl, rfl⟩ rfl
      · have h2 : decide (x.area < 2) = false := h2
        refine aw_ret ?_
        exact retPick [] ⟨_, by rw [e, h0, h1, h2]; rfl, rfl, rfl⟩ rfl
    · have h1 : decide (x.area ≥ 0) = false := h1
      refine aw_ret ?_
      exact retPick [] ⟨_, by rw [e, h0, h1]; rfl, rfl, rfl⟩ rfl
  · have h0 : c = false := h0
    refine aw_ret ?_
    exact retPick [] ⟨_, by rw [e, h0]; rfl, rfl, rfl⟩ rfl

set_option maxRecDepth 20000 in
theorem ref10_May (x : Sup) : AF Try.prog f_ref10_May [x.av] [] (Pure (bl x.may) []) := by
  refine AF.mono (R := fun r H' => ∃ b, b = x.may ∧ r = bl b ∧ H' = []) ?_ (by rintro r H' ⟨b, rfl, rfl, rfl⟩; exact ⟨rfl, rfl⟩)
  refine af_body hT F_ref10_May rfl rfl N_ref10_May rfl ?_
  refine aw_seq (aw_region hT ?_)
  refine aw_wk (wk_boxL 0 x.pv rfl rfl) ?_
  refine aw_cut ⟨⟨73, [(1, .p (.box x.pv)), (3, bl x.g.may)]⟩, []⟩ True (aw_region hT ?_) (fun _ => ?_)
  · refine callP (af_at (ref08_May x.g) _ rfl rfl) ?_
    exact ⟨wk_pick [] [1, 3] rfl, trivial⟩
  have ew : x.words = (wordB x.vol && (wordB x.gen && (wordB x.epoch && (wordB x.snap && (wordB x.start && wordB x.chain))))) := by
    unfold Sup.words
    simp only [List.all_cons, List.all_nil, Bool.and_true]
  refine aw_cut2 (fun s => ∃ c, c = x.words ∧ s = ⟨⟨73, [(1, .p (.box x.pv)), (3, bl x.g.may), (4, bl c)]⟩, []⟩) (aw_region hT ?_) ?_
  · skip
    refine callP (af_at (ref10_word x.vol) _ rfl rfl) ?_
    refine boolI (fun h0 => ?_) (fun h0 => ?_)
    · have h0 : wordB x.vol = true := h0
      refine callP (af_at (ref10_word x.gen) _ rfl rfl) ?_
      refine boolI (fun h1 => ?_) (fun h1 => ?_)
      · have h1 : wordB x.gen = true := h1
        refine callP (af_at (ref10_word x.epoch) _ rfl rfl) ?_
        refine boolI (fun h2 => ?_) (fun h2 => ?_)
        · have h2 : wordB x.epoch = true := h2
          refine callP (af_at (ref10_word x.snap) _ rfl rfl) ?_
          refine boolI (fun h3 => ?_) (fun h3 => ?_)
          · have h3 : wordB x.snap = true := h3
            refine callP (af_at (ref10_word x.start) _ rfl rfl) ?_
            refine boolI (fun h4 => ?_) (fun h4 => ?_)
            · have h4 : wordB x.start = true := h4
              refine callP (af_at (ref10_word x.chain) _ rfl rfl) ?_
              exact ⟨_, wk_pick [] [1, 3, 4] rfl, _, by rw [ew, h0, h1, h2, h3, h4]; rfl, rfl⟩
            · have h4 : wordB x.start = false := h4
              exact ⟨_, wk_pick [] [1, 3, 4] rfl, _, by rw [ew, h0, h1, h2, h3, h4]; rfl, rfl⟩
          · have h3 : wordB x.snap = false := h3
            exact ⟨_, wk_pick [] [1, 3, 4] rfl, _, by rw [ew, h0, h1, h2, h3]; rfl, rfl⟩
        · have h2 : wordB x.epoch = false := h2
          exact ⟨_, wk_pick [] [1, 3, 4] rfl, _, by rw [ew, h0, h1, h2]; rfl, rfl⟩
      · have h1 : wordB x.gen = false := h1
        exact ⟨_, wk_pick [] [1, 3, 4] rfl, _, by rw [ew, h0, h1]; rfl, rfl⟩
    · have h0 : wordB x.vol = false := h0
      exact ⟨_, wk_pick [] [1, 3, 4] rfl, _, by rw [ew, h0]; rfl, rfl⟩
  rintro _ ⟨c, hc, rfl⟩
  have ea : (decide (x.area ≥ 0) && decide (x.area < 2)) = (decide (x.area = 0) || decide (x.area = 1)) := by
    rw [← Bool.decide_and, ← Bool.decide_or]
    exact decide_eq_decide.mpr (by omega)
  have er : x.g.may = true → x.g.room = IntKind.i64.wrap (IntKind.i64.wrap (x.g.s * x.g.k) * 228) := fun h => by
    have hf : x.g.fits = true := by unfold GeoV.may at h; rw [Bool.and_eq_true] at h; exact h.1
    obtain ⟨m1, m2, m3, m4, m5⟩ := fits_mul hf
    unfold GeoV.room
    rw [h, wrap64 (x.g.s * x.g.k) (by omega) (by omega), wrap64 _ (by omega) (by omega)]
  have e : x.may = (x.g.may && (c && (decide (x.gen ≥ 1) && ((decide (x.area = 0) || decide (x.area = 1)) && (decide (x.long ≥ 0) && decide (x.long ≤ x.g.room)))))) := by
    unfold Sup.may
    rw [hc, ← ea]
    cases x.words <;> cases decide (x.gen ≥ 1) <;> cases decide (x.area ≥ 0) <;> cases decide (x.area < 2) <;> cases x.g.may <;> rfl
  have eb : ∀ k : Int, (x.area == k) = decide (x.area = k) := fun k => by
    by_cases h : x.area = k
    · rw [decide_eq_true h, h]; exact beq_self_eq_true _
    · rw [decide_eq_false h]; exact beq_eq_false_iff_ne.mpr h
  refine aw_seq (aw_region hT ?_)
  refine boolI (fun h0 => ?_) (fun h0 => ?_)
  · have h0 : x.g.may = true := h0
    have er := er h0
    refine boolI (fun h1 => ?_) (fun h1 => ?_)
    · have h1 : c = true := h1
      refine boolI (fun h2 => ?_) (fun h2 => ?_)
      · have h2 : decide (x.gen ≥ 1) = true := h2
        refine boolI (fun h3 => ?_) (fun h3 => ?_)
        · have h3 : (x.area == 0) = true := h3
          rw [eb] at h3
          refine boolI (fun h4 => ?_) (fun h4 => ?_)
          · have h4 : decide (x.long ≥ 0) = true := h4
            refine aw_ret ?_
            exact retPick [] ⟨_, by rw [e, h0, h1, h2, h3, h4, er]; rfl, rfl, rfl⟩ rfl
          · have h4 : decide (x.long ≥ 0) = false := h4
            refine aw_ret ?_
            exact retPick [] ⟨_, by rw [e, h0, h1, h2, h3, h4]; rfl, rfl, rfl⟩ rfl
        · have h3 : (x.area == 0) = false := h3
          rw [eb] at h3
          refine boolI (fun h5 => ?_) (fun h5 => ?_)
          · have h5 : (x.area == 1) = true := h5
            rw [eb] at h5
            refine boolI (fun h4 => ?_) (fun h4 => ?_)
            · have h4 : decide (x.long ≥ 0) = true := h4
              refine aw_ret ?_
              exact retPick [] ⟨_, by rw [e, h0, h1, h2, h3, h5, h4, er]; rfl, rfl, rfl⟩ rfl
            · have h4 : decide (x.long ≥ 0) = false := h4
              refine aw_ret ?_
              exact retPick [] ⟨_, by rw [e, h0, h1, h2, h3, h5, h4]; rfl, rfl, rfl⟩ rfl
          · have h5 : (x.area == 1) = false := h5
            rw [eb] at h5
            refine aw_ret ?_
            exact retPick [] ⟨_, by rw [e, h0, h1, h2, h3, h5]; rfl, rfl, rfl⟩ rfl
      · have h2 : decide (x.gen ≥ 1) = false := h2
        refine aw_ret ?_
        exact retPick [] ⟨_, by rw [e, h0, h1, h2]; rfl, rfl, rfl⟩ rfl
    · have h1 : c = false := h1
      refine aw_ret ?_
      exact retPick [] ⟨_, by rw [e, h0, h1]; rfl, rfl, rfl⟩ rfl
  · have h0 : x.g.may = false := h0
    refine aw_ret ?_
    exact retPick [] ⟨_, by rw [e, h0]; rfl, rfl, rfl⟩ rfl
end Go.Proofs.Ytmdponffajapjaa.AL

/- The layer 10 (sup): the numbers of a body are put. -/
namespace Go.Proofs.Ytmdponffajapjaa.AL
open Go Go.Proofs

abbrev Sup.nine (x : Sup) : List Int := [x.area, x.snap, x.long, x.start, x.chain, x.g.w, x.g.s, x.g.k, x.g.m]
abbrev supC (x : Sup) : ABlk := .cells t_api_Super x.cv
abbrev secH (x : Sup) (b : Bytes) : List ABlk := [supC x, outC 2 b, .row t_u8 1 (bx b)]
def numsD (l : List Int) : Bytes := l.flatMap fun n => numD n.toNat
theorem numsD_snoc (l : List Int) (n : Int) : numsD (l ++ [n]) = numsD l ++ numD n.toNat := by unfold numsD; simp

theorem sup_Sector1 (x : Sup) (b : Bytes) (k n : Nat) (hk : k < 9) (hx : x.nine[k]? = some (n : Int)) (hn : n < 2 ^ 63) (hb : b.length ≤ 1000000) :
    AFm Try.prog 2 f_sup_Sector_1 [.ref 0 (3 + k), .ref 1 0] (secH x b) (Pure (.tup []) (secH x (b ++ numD n))) := by
  have w := Out_Num b n hn hb
  rcases k with _ | _ | _ | _ | _ | _ | _ | _ | _ | k
  all_goals first
    | omega
    | (have hx' : _ = (n : Int) := Option.some.inj hx
       rw [← hx'] at w
       refine af_bodyM 2 hT F_sup_Sector_1 rfl rfl N_sup_Sector_1 rfl rfl ?_
       refine aw_region hT ?_
       refine callP (af_in [1, 2] w rfl rfl rfl) ?_
       exact retPick [0, 1, 3] ⟨rfl, rfl⟩ rfl)

theorem nine_len (x : Sup) : x.nine.length = 9 := rfl
set_option maxRecDepth 20000 in
theorem sup_walk_out (x : Sup) (hx : ∀ n ∈ x.nine, 0 ≤ n ∧ n < 9223372036854775808) :
    AFm Try.prog 2 f_sup_walk [.ref 0 0, .clo (.func f_sup_Sector_1) [.ref 1 0]] (secH x []) (Pure (.tup []) (secH x (numsD x.nine))) := by
  have hlen : ∀ i, (numsD (x.nine.take i)).length ≤ 9 * i := fun i => by
    induction i with
    | zero => simp [numsD]
    | succ i ih =>
      by_cases h : i < x.nine.length
      · have hm := hx _ (List.getElem_mem h)
        rw [List.take_add_one, List.getElem?_eq_getElem h]
        show (numsD (x.nine.take i ++ [x.nine[i]])).length ≤ _
        rw [numsD_snoc, List.length_append]
        have := numD_le x.nine[i].toNat (by omega)
        omega
      · rw [List.take_of_length_le (by omega)]
        rw [List.take_of_length_le (by omega)] at ih
        omega
  refine af_bodyM 2 hT F_sup_walk rfl rfl N_sup_walk rfl rfl ?_
  refine aw_cut ⟨⟨47, [(1, .clo (.func f_sup_Sector_1) [.ref 1 0]), (37, .msl 3 1 0 9), (38, i64 9), (39, i64 0)]⟩, secH x [] ++ [.cells t_p_i64 [.ref 0 3, .ref 0 4, .ref 0 5, .ref 0 6, .ref 0 7, .ref 0 8, .ref 0 9, .ref 0 10, .ref 0 11]]⟩ True ?_ (fun _ => ?_)
  · refine aw_draw [31] [] hT follows_mixed (by rfl) ?_
    exact ⟨wk_pick [0, 1, 2, 3] [1, 37, 38, 39] rfl, trivial⟩
  refine aw_block ?_
  refine aw_loopW (fun n s => ∃ (i : Nat) (j : Int), n + i = 9 ∧ j = i ∧ s = ⟨⟨47, [(1, .clo (.func f_sup_Sector_1) [.ref 1 0]), (37, .msl 3 1 0 9), (38, i64 9), (39, i64 j)]⟩, secH x (numsD (x.nine.take i)) ++ [.cells t_p_i64 [.ref 0 3, .ref 0 4, .ref 0 5, .ref 0 6, .ref 0 7, .ref 0 8, .ref 0 9, .ref 0 10, .ref 0 11]]⟩) 9 ⟨⟨47, _⟩, _⟩ (wk_pick [0, 1, 2, 3] [1, 37, 38, 39] rfl) ⟨0, 0, rfl, rfl, rfl⟩ ?_
  rintro n s ⟨i, j, hni, rfl, rfl⟩
  refine aw_seq (aw_region hT ?_)
  refine aw_seq (aw_cond (boolI (fun h => ?_) (fun h => ?_)))
  · have hi : i < 9 := by
      have := of_decide_eq_true (show decide ((i : Int) < 9) = true from h)
      omega
    have hL := hlen i
    have hx' := List.getElem?_eq_getElem (show i < x.nine.length from hi)
    have hm := hx _ (List.getElem_mem (show i < x.nine.length from hi))
    have htk : numsD (x.nine.take (i + 1)) = numsD (x.nine.take i) ++ numD (x.nine[i]).toNat := by
      rw [List.take_add_one, hx']; exact numsD_snoc _ _
    generalize x.nine[i] = v at hx' hm htk
    obtain ⟨v, rfl⟩ : ∃ z : Nat, v = z := ⟨v.toNat, by omega⟩
    rw [Int.toNat_natCast] at htk
    have w := sup_Sector1 x (numsD (x.nine.take i)) i v hi hx' (by omega) (by omega)
    rw [← htk] at w
    generalize hB' : numsD (x.nine.take (i + 1)) = B' at w
    generalize numsD (x.nine.take i) = B at w
    refine aw_skip ?_
    refine aw_cut ⟨⟨47, [(1, .clo (.func f_sup_Sector_1) [.ref 1 0]), (37, .msl 3 1 0 9), (38, i64 9), (39, i64 i)]⟩, secH x B' ++ [.cells t_p_i64 [.ref 0 3, .ref 0 4, .ref 0 5, .ref 0 6, .ref 0 7, .ref 0 8, .ref 0 9, .ref 0 10, .ref 0 11]]⟩ True (aw_block ?_) (fun _ => ?_)
    · refine aw_cut ⟨⟨47, [(1, .clo (.func f_sup_Sector_1) [.ref 1 0]), (5, .ref 0 (3 + i)), (37, .msl 3 1 0 9), (38, i64 9), (39, i64 i)]⟩, secH x B ++ [.cells t_p_i64 [.ref 0 3, .ref 0 4, .ref 0 5, .ref 0 6, .ref 0 7, .ref 0 8, .ref 0 9, .ref 0 10, .ref 0 11]]⟩ True ?_ (fun _ => ?_)
      · clear hx' hL htk w hni
        rcases i with _ | _ | _ | _ | _ | _ | _ | _ | _ | i
        all_goals first
          | omega
          | (refine aw_region hT ?_
             refine ⟨⟨Int.natCast_nonneg _, by omega⟩, ?_⟩
             exact ⟨wk_pick [0, 1, 2, 3] [1, 5, 37, 38, 39] rfl, trivial⟩)
      · refine aw_region hT ?_
        refine callP (af_in [0, 1, 2] w rfl rfl rfl) ?_
        exact ⟨wk_pick [0, 1, 4, 3] [1, 37, 38, 39] rfl, trivial⟩
    · subst hB'
      refine aw_region hT ?_
      refine ⟨n - 1, by omega, _, wk_pick [0, 1, 2, 3] [1, 37, 38, 39] rfl, i + 1, IntKind.i64.wrap ((i : Int) + 1), by omega, ?_, rfl⟩
      rw [wrap64 _ (by omega) (by omega)]; rfl
  · have hi : ¬ (i : Int) < 9 := of_decide_eq_false h
    have hi9 : i = 9 := by omega
    subst hi9
    refine aw_exit ?_
    exact retPick [0, 1, 2] ⟨rfl, rfl⟩ rfl
end Go.Proofs.Ytmdponffajapjaa.AL

/- The layer 10 (sup): a copy's sector. -/
namespace Go.Proofs.Ytmdponffajapjaa.AL
open Go Go.Proofs

def Sup.blk (x : Sup) (i : Int) : Blk := ⟨2, x.vol, i, x.epoch, x.gen, numsD x.nine⟩
def Sup.sector (x : Sup) (i : Int) : Bytes × Int := match x.may && (!decide (i < 0) && !decide (i ≥ 4)) with
  | false => ([], 1)
  | true => (x.blk i).sld
theorem room_lt (g : GeoV) : g.room ≤ 116736 := by
  unfold GeoV.room
  cases h : g.may with
  | false => show (0 : Int) ≤ _; omega
  | true =>
    have hf : g.fits = true := by unfold GeoV.may at h; rw [Bool.and_eq_true] at h; exact h.1
    obtain ⟨m1, m2, m3, m4, m5⟩ := fits_mul hf
    show g.s * g.k * 228 ≤ _
    omega
theorem may_nine {x : Sup} (h : x.may = true) : ∀ n ∈ x.nine, 0 ≤ n ∧ n ≤ 4294967295 := by
  have hr := room_lt x.g
  unfold Sup.may at h
  simp only [Bool.and_eq_true, decide_eq_true_eq] at h
  obtain ⟨⟨⟨⟨⟨⟨hw, h1⟩, h2⟩, h3⟩, h4⟩, h5⟩, h6⟩ := h
  have hf : x.g.fits = true := by unfold GeoV.may at h4; rw [Bool.and_eq_true] at h4; exact h4.1
  obtain ⟨g1, g2, g3, g4, g5, g6, g7, g8⟩ := fits_of hf
  unfold Sup.words wordB at hw
  simp only [List.all_cons, List.all_nil, Bool.and_true, Bool.and_eq_true, decide_eq_true_eq] at hw
  intro n hn
  simp only [List.mem_cons, List.not_mem_nil, or_false] at hn
  rcases hn with rfl | rfl | rfl | rfl | rfl | rfl | rfl | rfl | rfl <;> omega

theorem numsD_len {l : List Int} (h : ∀ n ∈ l, 0 ≤ n ∧ n ≤ 4294967295) : (numsD l).length ≤ 5 * l.length := by
  induction l with
  | nil => simp [numsD]
  | cons n r ih =>
    have h1 := h n (by simp)
    have h2 := ih fun n hn => h n (by simp [hn])
    have h3 := numD_len 4 n.toNat (by omega)
    show (numD n.toNat ++ numsD r).length ≤ _
    rw [List.length_append, List.length_cons]
    omega

set_option maxRecDepth 20000 in
theorem sup_Sector (x : Sup) (i : Int) : AF Try.prog f_sup_Sector [x.av, i64 i] [] (Pure (.tup [bA (x.sector i).1, i64 (x.sector i).2]) []) := by
  refine AF.mono (R := fun r H' => ∃ z, z = x.sector i ∧ r = .tup [bA z.1, i64 z.2] ∧ H' = []) ?_ (by rintro r H' ⟨b, rfl, rfl, rfl⟩; exact ⟨rfl, rfl⟩)
  refine af_body hT F_sup_Sector rfl rfl N_sup_Sector rfl ?_
  refine aw_seq (aw_region hT ?_)
  refine aw_cut ⟨⟨32, [(1, i64 i), (2, .ref 0 0)]⟩, [supC x]⟩ ((x.may && (!decide (i < 0) && !decide (i ≥ 4))) = true) (aw_seq (aw_region hT ?_)) ?_
  · refine callP (af_at (sup_May x) _ rfl rfl) ?_
    have bad : (x.may && (!decide (i < 0) && !decide (i ≥ 4))) = false → (([], 1) : Bytes × Int) = x.sector i := fun h => by unfold Sup.sector; rw [h]
    refine boolI (fun h0 => ?_) (fun h0 => ?_)
    · have h0 : (!x.may) = true := h0
      refine aw_cond ?_
      refine aw_seq (aw_region hT ?_)
      refine aw_wk (wk_nilP 4 1 rfl) ?_
      refine aw_ret ?_
      exact retPick [] ⟨_, bad (by rw [(Bool.not_eq_true' _).mp h0]; rfl), rfl, rfl⟩ rfl
    · have h0 : (!x.may) = false := h0
      have h0 := (Bool.not_eq_false' _).mp h0
      refine boolI (fun h1 => ?_) (fun h1 => ?_)
      · have h1 : decide (i < 0) = true := h1
        refine aw_cond ?_
        refine aw_seq (aw_region hT ?_)
        refine aw_wk (wk_nilP 4 1 rfl) ?_
        refine aw_ret ?_
        exact retPick [] ⟨_, bad (by rw [h0, h1]; rfl), rfl, rfl⟩ rfl
      · have h1 : decide (i < 0) = false := h1
        refine aw_cond (boolI (fun h2 => ?_) (fun h2 => ?_))
        · have h2 : decide (i ≥ 4) = true := h2
          refine aw_seq (aw_region hT ?_)
          refine aw_wk (wk_nilP 4 1 rfl) ?_
          refine aw_ret ?_
          exact retPick [] ⟨_, bad (by rw [h0, h1, h2]; rfl), rfl, rfl⟩ rfl
        · have h2 : decide (i ≥ 4) = false := h2
          exact aw_skip ⟨wk_pick [0] [1, 2] rfl, by rw [h0, h1, h2]; rfl⟩
  intro hg
  have e : x.sector i = (x.blk i).sld := by unfold Sup.sector; rw [hg]
  rw [Bool.and_eq_true] at hg
  have hn := may_nine hg.1
  have hlen := numsD_len hn
  have hlen : (numsD x.nine).length ≤ 45 := hlen
  have wo := sup_walk_out x fun n h => ⟨(hn n h).1, by have := (hn n h).2; omega⟩
  have wa := Out_All (numsD x.nine) (by omega)
  have ws := block_Seal (x.blk i)
  rw [← e] at ws
  unfold Sup.blk at ws
  generalize numsD x.nine = B at wo wa ws hlen
  generalize x.sector i = Z at ws
  refine aw_cut ⟨⟨32, [(1, i64 i), (2, .ref 0 0), (6, .ref 1 0)]⟩, secH x []⟩ True (aw_region hT ?_) (fun _ => ?_)
  · refine ⟨Wk.trans (wk_phantom t_u8 1) (Wk.trans (wk_cells 1 [.msl 2 1 0 0] rfl ⟨.inr (.inr (.inl ⟨2, 1, 0, rfl, rfl⟩)), trivial⟩) (wk_pick [0, 1, 2] [1, 2, 6] rfl)), trivial⟩
  refine aw_cut ⟨⟨32, [(1, i64 i), (2, .ref 0 0), (6, .ref 1 0)]⟩, secH x B⟩ True (aw_region hT ?_) (fun _ => ?_)
  · refine callP (af_in [0, 1, 2] wo rfl rfl rfl) ?_
    exact ⟨wk_pick [0, 1, 3] [1, 2, 6] rfl, trivial⟩
  refine aw_seq ?_
  refine aw_draw [] [] hT follows_mixed (by rfl) ?_
  refine ⟨_, af_in [1, 2] wa rfl rfl rfl, ?_⟩
  refine ⟨_, af_at ws _ rfl rfl, ?_⟩
  refine aw_ret ?_
  exact retPick [] ⟨Z, rfl, rfl, rfl⟩ rfl
end Go.Proofs.Ytmdponffajapjaa.AL

/- The layer 10 (sup): what a sector tells. -/
namespace Go.Proofs.Ytmdponffajapjaa.AL
open Go Go.Proofs

def Sup.set9 (x : Sup) (k : Nat) (v : Int) : Sup := match k with
  | 0 => { x with area := v }
  | 1 => { x with snap := v }
  | 2 => { x with long := v }
  | 3 => { x with start := v }
  | 4 => { x with chain := v }
  | 5 => { x with g := { x.g with w := v } }
  | 6 => { x with g := { x.g with s := v } }
  | 7 => { x with g := { x.g with k := v } }
  | 8 => { x with g := { x.g with m := v } }
  | _ => x
def st9 (x : Sup) (b : Bytes) : Nat → Sup × Bytes
  | 0 => (x, b)
  | i + 1 => ((st9 x b i).1.set9 i (numS (st9 x b i).2).1, (st9 x b i).2.drop (numS (st9 x b i).2).2.1)
theorem st9_len (x : Sup) (b : Bytes) : ∀ i, (st9 x b i).2.length ≤ b.length
  | 0 => Nat.le_refl _
  | i + 1 => by
    have := st9_len x b i
    show ((st9 x b i).2.drop _).length ≤ _
    rw [List.length_drop]; omega
abbrev telH (x : Sup) (b : Bytes) : List ABlk := [supC x, .cells t_p_code_In [.ref 2 0], inC b]

theorem sup_Told1 (x : Sup) (b : Bytes) (k : Nat) (hk : k < 9) (hb : b.length ≤ 1000000) :
    AFm Try.prog 3 f_sup_Told_1 [.ref 0 (3 + k), .ref 1 0] (telH x b) (Pure (.tup []) (telH (x.set9 k (numS b).1) (b.drop (numS b).2.1))) := by
  have w := In_Num b hb
  generalize numS b = Y at w
  obtain ⟨n, j, e⟩ := Y
  have w : AFm Try.prog 1 f_code_In_Num [.ref 0 0] [inC b] (Pure (.tup [i64 n, i64 e]) [inC (b.drop j)]) := w
  generalize b.drop j = c at w
  rcases k with _ | _ | _ | _ | _ | _ | _ | _ | _ | k
  all_goals first
    | omega
    | (refine af_bodyM 3 hT F_sup_Told_1 rfl rfl N_sup_Told_1 rfl rfl ?_
       refine aw_region hT ?_
       refine callP (af_in [2] w rfl rfl rfl) ?_
       exact retPick [0, 1, 2] ⟨rfl, rfl⟩ rfl)

set_option maxRecDepth 20000 in
theorem sup_walk_in (x : Sup) (b : Bytes) (hb : b.length ≤ 1000000) :
    AFm Try.prog 3 f_sup_walk [.ref 0 0, .clo (.func f_sup_Told_1) [.ref 1 0]] (telH x b) (Pure (.tup []) (telH (st9 x b 9).1 (st9 x b 9).2)) := by
  refine af_bodyM 3 hT F_sup_walk rfl rfl N_sup_walk rfl rfl ?_
  refine aw_cut ⟨⟨47, [(1, .clo (.func f_sup_Told_1) [.ref 1 0]), (37, .msl 3 1 0 9), (38, i64 9), (39, i64 0)]⟩, telH x b ++ [.cells t_p_i64 [.ref 0 3, .ref 0 4, .ref 0 5, .ref 0 6, .ref 0 7, .ref 0 8, .ref 0 9, .ref 0 10, .ref 0 11]]⟩ True ?_ (fun _ => ?_)
  · refine aw_draw [31] [] hT follows_mixed (by rfl) ?_
    exact ⟨wk_pick [0, 1, 2, 3] [1, 37, 38, 39] rfl, trivial⟩
  refine aw_block ?_
  refine aw_loopW (fun n s => ∃ (i : Nat) (j : Int), n + i = 9 ∧ j = i ∧ s = ⟨⟨47, [(1, .clo (.func f_sup_Told_1) [.ref 1 0]), (37, .msl 3 1 0 9), (38, i64 9), (39, i64 j)]⟩, telH (st9 x b i).1 (st9 x b i).2 ++ [.cells t_p_i64 [.ref 0 3, .ref 0 4, .ref 0 5, .ref 0 6, .ref 0 7, .ref 0 8, .ref 0 9, .ref 0 10, .ref 0 11]]⟩) 9 ⟨⟨47, _⟩, _⟩ (wk_pick [0, 1, 2, 3] [1, 37, 38, 39] rfl) ⟨0, 0, rfl, rfl, rfl⟩ ?_
  rintro n s ⟨i, j, hni, rfl, rfl⟩
  refine aw_seq (aw_region hT ?_)
  refine aw_seq (aw_cond (boolI (fun h => ?_) (fun h => ?_)))
  · have hi : i < 9 := by
      have := of_decide_eq_true (show decide ((i : Int) < 9) = true from h)
      omega
    have hL := st9_len x b i
    have w := sup_Told1 (st9 x b i).1 (st9 x b i).2 i hi (by omega)
    have w : AFm Try.prog 3 f_sup_Told_1 [.ref 0 (3 + i), .ref 1 0] (telH (st9 x b i).1 (st9 x b i).2) (Pure (.tup []) (telH (st9 x b (i + 1)).1 (st9 x b (i + 1)).2)) := w
    generalize hB' : st9 x b (i + 1) = B' at w
    generalize st9 x b i = B at w
    refine aw_skip ?_
    refine aw_cut ⟨⟨47, [(1, .clo (.func f_sup_Told_1) [.ref 1 0]), (37, .msl 3 1 0 9), (38, i64 9), (39, i64 i)]⟩, telH B'.1 B'.2 ++ [.cells t_p_i64 [.ref 0 3, .ref 0 4, .ref 0 5, .ref 0 6, .ref 0 7, .ref 0 8, .ref 0 9, .ref 0 10, .ref 0 11]]⟩ True (aw_block ?_) (fun _ => ?_)
    · refine aw_cut ⟨⟨47, [(1, .clo (.func f_sup_Told_1) [.ref 1 0]), (5, .ref 0 (3 + i)), (37, .msl 3 1 0 9), (38, i64 9), (39, i64 i)]⟩, telH B.1 B.2 ++ [.cells t_p_i64 [.ref 0 3, .ref 0 4, .ref 0 5, .ref 0 6, .ref 0 7, .ref 0 8, .ref 0 9, .ref 0 10, .ref 0 11]]⟩ True ?_ (fun _ => ?_)
      · clear hL w hni hB'
        rcases i with _ | _ | _ | _ | _ | _ | _ | _ | _ | i
        all_goals first
          | omega
          | (refine aw_region hT ?_
             refine ⟨⟨Int.natCast_nonneg _, by omega⟩, ?_⟩
             exact ⟨wk_pick [0, 1, 2, 3] [1, 5, 37, 38, 39] rfl, trivial⟩)
      · refine aw_region hT ?_
        refine callP (af_in [0, 1, 2] w rfl rfl rfl) ?_
        exact ⟨wk_pick [0, 1, 2, 3] [1, 37, 38, 39] rfl, trivial⟩
    · subst hB'
      refine aw_region hT ?_
      refine ⟨n - 1, by omega, _, wk_pick [0, 1, 2, 3] [1, 37, 38, 39] rfl, i + 1, IntKind.i64.wrap ((i : Int) + 1), by omega, ?_, rfl⟩
      rw [wrap64 _ (by omega) (by omega)]; rfl
  · have hi : ¬ (i : Int) < 9 := of_decide_eq_false h
    have hi9 : i = 9 := by omega
    subst hi9
    refine aw_exit ?_
    exact retPick [0, 1, 2] ⟨rfl, rfl⟩ rfl
end Go.Proofs.Ytmdponffajapjaa.AL

/- The layer 10 (sup): one is told, or not. -/
namespace Go.Proofs.Ytmdponffajapjaa.AL
open Go Go.Proofs

def Sup.zero : Sup := ⟨0, 0, 0, 0, 0, 0, 0, 0, ⟨0, 0, 0, 0⟩⟩
def toldX (b : Blk) : Sup := (st9 ⟨b.vol, b.seq, b.epoch, 0, 0, 0, 0, 0, ⟨0, 0, 0, 0⟩⟩ b.body 9).1
def toldB (s : Bytes) (i : Int) : Sup × Bool := match (openB s).2 != 0 with
  | true => (Sup.zero, false)
  | false => match ((toldX (openB s).1).sector i).2 != 0 || !(s == ((toldX (openB s).1).sector i).1) with
    | true => (Sup.zero, false)
    | false => (toldX (openB s).1, true)
theorem openB_len (s : Bytes) : (openB s).1.body.length ≤ s.length := by
  unfold openB
  split
  · exact Nat.zero_le _
  · split
    · exact Nat.zero_le _
    · split
      · exact Nat.zero_le _
      · show ((s.drop 24).take _).length ≤ _
        rw [List.length_take, List.length_drop]; omega

set_option maxRecDepth 20000 in
theorem sup_Told (s : Bytes) (i : Int) (hl : s.length ≤ 1000000) : AF Try.prog f_sup_Told [bA s, i64 i] [] (Pure (.tup [(toldB s i).1.av, bl (toldB s i).2]) []) := by
  refine AF.mono (R := fun r H' => ∃ z, z = toldB s i ∧ r = .tup [z.1.av, bl z.2] ∧ H' = []) ?_ (by rintro r H' ⟨b, rfl, rfl, rfl⟩; exact ⟨rfl, rfl⟩)
  have wo := block_Open s hl
  have hbl := openB_len s
  have eT : toldB s i = match (openB s).2 != 0 with
    | true => (Sup.zero, false)
    | false => match ((toldX (openB s).1).sector i).2 != 0 || !(s == ((toldX (openB s).1).sector i).1) with
      | true => (Sup.zero, false)
      | false => (toldX (openB s).1, true) := rfl
  generalize toldB s i = Z at eT
  generalize openB s = O at wo hbl eT
  obtain ⟨B, e⟩ := O
  have wo : AF Try.prog f_block_Open [bA s] [] (Pure (.tup [B.av, i64 e]) []) := wo
  have hbl : B.body.length ≤ s.length := hbl
  have eT : Z = match e != 0 with
    | true => (Sup.zero, false)
    | false => match ((toldX B).sector i).2 != 0 || !(s == ((toldX B).sector i).1) with
      | true => (Sup.zero, false)
      | false => (toldX B, true) := eT
  refine af_body hT F_sup_Told rfl rfl N_sup_Told rfl ?_
  refine aw_seq (aw_region hT ?_)
  refine aw_cut ⟨⟨48, [(0, bA s), (1, i64 i), (4, .ref 0 0), (6, .ref 1 0), (7, i64 e)]⟩, [.cells t_api_Super Sup.zero.cv, .cells t_api_Block [i64 B.kind, i64 B.vol, i64 B.addr, i64 B.epoch, i64 B.seq, bA B.body]]⟩ True (aw_region hT ?_) (fun _ => ?_)
  · refine callP (af_at wo _ rfl rfl) ?_
    exact ⟨wk_pick [0, 1] [0, 1, 4, 6, 7] rfl, trivial⟩
  refine aw_cut ⟨⟨48, [(0, bA s), (1, i64 i), (4, .ref 0 0), (6, .ref 1 0)]⟩, [.cells t_api_Super Sup.zero.cv, .cells t_api_Block [i64 B.kind, i64 B.vol, i64 B.addr, i64 B.epoch, i64 B.seq, bA B.body]]⟩ ((e != 0) = false) (aw_seq (aw_region hT ?_)) ?_
  · refine aw_cond (boolI (fun h => ?_) (fun h => ?_))
    · have h : (e != 0) = true := h
      rw [h] at eT
      refine aw_seq (aw_region hT ?_)
      refine aw_ret ?_
      exact retPick [] ⟨_, eT.symm, rfl, rfl⟩ rfl
    · have h : (e != 0) = false := h
      exact aw_skip ⟨wk_pick [0, 1] [0, 1, 4, 6] rfl, h⟩
  intro h
  rw [h] at eT
  have wn := code_NewIn B.body (by omega)
  have ww := sup_walk_in ⟨B.vol, B.seq, B.epoch, 0, 0, 0, 0, 0, ⟨0, 0, 0, 0⟩⟩ B.body (by omega)
  unfold toldX at eT
  generalize st9 ⟨B.vol, B.seq, B.epoch, 0, 0, 0, 0, 0, ⟨0, 0, 0, 0⟩⟩ B.body 9 = X at ww eT
  obtain ⟨x, r⟩ := X
  have ww : AFm Try.prog 3 f_sup_walk [.ref 0 0, .clo (.func f_sup_Told_1) [.ref 1 0]] (telH ⟨B.vol, B.seq, B.epoch, 0, 0, 0, 0, 0, ⟨0, 0, 0, 0⟩⟩ B.body) (Pure (.tup []) (telH x r)) := ww
  have eT : Z = match (x.sector i).2 != 0 || !(s == (x.sector i).1) with
      | true => (Sup.zero, false)
      | false => (x, true) := eT
  have wS := sup_Sector x i
  generalize x.sector i = Y at wS eT
  obtain ⟨t, f⟩ := Y
  have wS : AF Try.prog f_sup_Sector [x.av, i64 i] [] (Pure (.tup [bA t, i64 f]) []) := wS
  have eT : Z = match f != 0 || !(s == t) with
      | true => (Sup.zero, false)
      | false => (x, true) := eT
  refine aw_cut ⟨⟨48, [(0, bA s), (1, i64 i), (4, .ref 0 0), (6, .ref 1 0), (8, .ref 2 0)]⟩, [.cells t_api_Super Sup.zero.cv, .cells t_api_Block [i64 B.kind, i64 B.vol, i64 B.addr, i64 B.epoch, i64 B.seq, bA B.body], supC ⟨B.vol, B.seq, B.epoch, 0, 0, 0, 0, 0, ⟨0, 0, 0, 0⟩⟩]⟩ True (aw_region hT ?_) (fun _ => ?_)
  · exact ⟨wk_pick [0, 1, 2] [0, 1, 4, 6, 8] rfl, trivial⟩
  refine aw_cut ⟨⟨48, [(0, bA s), (1, i64 i), (4, .ref 0 0), (8, .ref 1 0), (9, .ref 2 0)]⟩, [.cells t_api_Super Sup.zero.cv, supC ⟨B.vol, B.seq, B.epoch, 0, 0, 0, 0, 0, ⟨0, 0, 0, 0⟩⟩, .cells t_p_code_In [.ref 3 0], inC B.body]⟩ True (aw_region hT ?_) (fun _ => ?_)
  · refine callP (af_lift wn _ rfl) ?_
    exact ⟨wk_pick [0, 2, 4, 3] [0, 1, 4, 8, 9] rfl, trivial⟩
  refine aw_cut ⟨⟨48, [(0, bA s), (1, i64 i), (4, .ref 0 0), (8, .ref 1 0)]⟩, [.cells t_api_Super Sup.zero.cv, supC x]⟩ True (aw_region hT ?_) (fun _ => ?_)
  · refine callP (af_in [1, 2, 3] ww rfl rfl rfl) ?_
    exact ⟨wk_pick [0, 1] [0, 1, 4, 8] rfl, trivial⟩
  refine aw_cut ⟨⟨48, [(4, .ref 0 0), (8, .ref 1 0)]⟩, [.cells t_api_Super Sup.zero.cv, supC x]⟩ ((f != 0 || !(s == t)) = false) (aw_seq (aw_region hT ?_)) ?_
  · refine callP (af_at wS _ rfl rfl) ?_
    refine aw_seq (aw_region hT ?_)
    refine boolI (fun h1 => ?_) (fun h1 => ?_)
    · have h1 : (f != 0) = true := h1
      rw [h1] at eT
      refine aw_cond ?_
      refine aw_seq (aw_region hT ?_)
      refine aw_ret ?_
      exact retPick [] ⟨_, eT.symm, rfl, rfl⟩ rfl
    · have h1 : (f != 0) = false := h1
      rw [h1] at eT
      refine callP (af_at (bytes_Equal s t) _ rfl rfl) ?_
      refine aw_cond (boolI (fun h2 => ?_) (fun h2 => ?_))
      · have h2 : (!(s == t)) = true := h2
        rw [h2] at eT
        refine aw_seq (aw_region hT ?_)
        refine aw_ret ?_
        exact retPick [] ⟨_, eT.symm, rfl, rfl⟩ rfl
      · have h2 : (!(s == t)) = false := h2
        exact aw_skip ⟨wk_pick [0, 1] [4, 8] rfl, by rw [h1, h2]; rfl⟩
  intro h
  rw [h] at eT
  refine aw_seq (aw_region hT ?_)
  refine aw_ret ?_
  exact retPick [] ⟨_, eT.symm, rfl, rfl⟩ rfl
end Go.Proofs.Ytmdponffajapjaa.AL

/- The layers 07 and 10, plain: what was sealed is opened; what is told. -/
namespace Go.Proofs.Ytmdponffajapjaa.AL
open Go Go.Proofs Go.Proofs.Ytmdponffajapjaa.AL.Crc

theorem leB_cons (k n : Nat) : leB (k + 1) n = UInt8.ofNat n :: leB k (n / 256) := by
  unfold leB
  rw [List.range_succ_eq_map, List.map_cons, List.map_map]
  congr 1
  · rw [Nat.pow_zero, Nat.div_one]
  · apply List.map_congr_left
    intro j _
    show UInt8.ofNat (n / 256 ^ (j + 1)) = UInt8.ofNat (n / 256 / 256 ^ j)
    rw [Nat.pow_succ, Nat.mul_comm, Nat.div_div_eq_div_mul]
theorem lenum_leB : ∀ k n, lenum (leB k n) = n % 256 ^ k
  | 0, n => by show 0 = n % 1; omega
  | k + 1, n => by
    rw [leB_cons, lenum, lenum_leB k, UInt8.toNat_ofNat', show (256 : Nat) ^ (k + 1) = 256 * 256 ^ k by rw [Nat.pow_succ, Nat.mul_comm], Nat.mod_mul, Nat.mul_comm]
    omega
theorem numB_of {s p c r : Bytes} {a w n : Nat} (hs : s = p ++ (c ++ r)) (hp : p.length = a) (hc : c.length = w) (hl : lenum c = n) : numB s a w = n := by
  subst hs; subst hp; subst hc
  unfold numB
  rw [List.drop_left, List.take_left]; exact hl

theorem open_seal {b : Blk} (hn : b.nums = true) (hb : b.body.length ≤ 228) : openB (sealB b.all) = (b, 0) := by
  obtain ⟨k, v, a, e, q, hbk, k1, k4, hv, ha, he, hq⟩ := nums_nat hn
  generalize hbody : b.body = body at hbk hb
  have hall := all_len b (by rw [hbody]; exact hb)
  have hs : sealB b.all = [81, 77, UInt8.ofNat k, 0] ++ (leB 4 v ++ (leB 4 a ++ (leB 4 e ++ (leB 4 q ++ (leB 2 body.length ++ (leB 2 0 ++ (body ++ (List.replicate (228 - body.length) 0 ++ leB 4 (sum b.all).toNat)))))))) := by
    show b.all ++ leB 4 (sum b.all).toNat = _
    have : b.all = [81, 77, UInt8.ofNat k, 0] ++ (leB 4 v ++ (leB 4 a ++ (leB 4 e ++ (leB 4 q ++ (leB 2 body.length ++ (leB 2 0 ++ (body ++ List.replicate (228 - body.length) 0))))))) := by
      unfold Blk.all Blk.head
      rw [hbk]
      simp only [layB_cons, layB_nil, Int.toNat_natCast, List.append_assoc, List.append_nil]
    generalize leB 4 (sum b.all).toNat = z
    rw [this]
    simp only [List.append_assoc]
  have hlen := sealB_len b.all
  have hw := whole_seal b.all
  have hseal : b.sld = (sealB b.all, 0) := by unfold Blk.sld; rw [hn, decide_eq_false (by rw [hbody]; omega)]
  generalize sealB b.all = s at hs hlen hw hseal
  have l4 := fun n => leB_len 4 n
  have n20 : numB s 20 2 = body.length := numB_of (p := [81, 77, UInt8.ofNat k, 0] ++ (leB 4 v ++ (leB 4 a ++ (leB 4 e ++ leB 4 q)))) (c := leB 2 body.length) (by rw [hs]; simp only [List.append_assoc]; rfl) (by simp only [List.length_append, l4]; rfl) (leB_len _ _) (by rw [lenum_leB]; omega)
  have n4 : numB s 4 4 = v := numB_of (p := [81, 77, UInt8.ofNat k, 0]) (c := leB 4 v) hs rfl (leB_len _ _) (by rw [lenum_leB]; omega)
  have n8 : numB s 8 4 = a := numB_of (p := [81, 77, UInt8.ofNat k, 0] ++ leB 4 v) (c := leB 4 a) (by rw [hs]; simp only [List.append_assoc]; rfl) (by simp only [List.length_append, l4]; rfl) (leB_len _ _) (by rw [lenum_leB]; omega)
  have n12 : numB s 12 4 = e := numB_of (p := [81, 77, UInt8.ofNat k, 0] ++ (leB 4 v ++ leB 4 a)) (c := leB 4 e) (by rw [hs]; simp only [List.append_assoc]; rfl) (by simp only [List.length_append, l4]; rfl) (leB_len _ _) (by rw [lenum_leB]; omega)
  have n16 : numB s 16 4 = q := numB_of (p := [81, 77, UInt8.ofNat k, 0] ++ (leB 4 v ++ (leB 4 a ++ leB 4 e))) (c := leB 4 q) (by rw [hs]; simp only [List.append_assoc]; rfl) (by simp only [List.length_append, l4]; rfl) (leB_len _ _) (by rw [lenum_leB]; omega)
  have hd : (s.drop 24).take body.length = body := by
    have e1 : s = ([81, 77, UInt8.ofNat k, 0] ++ (leB 4 v ++ (leB 4 a ++ (leB 4 e ++ (leB 4 q ++ (leB 2 body.length ++ leB 2 0)))))) ++ (body ++ (List.replicate (228 - body.length) 0 ++ leB 4 (sum b.all).toNat)) := by rw [hs]; simp only [List.append_assoc]
    have e2 : ([81, 77, UInt8.ofNat k, 0] ++ (leB 4 v ++ (leB 4 a ++ (leB 4 e ++ (leB 4 q ++ (leB 2 body.length ++ leB 2 0)))))).length = 24 := by simp only [List.length_append, l4, leB_len]; rfl
    rw [e1, ← e2, List.drop_left, List.take_left]
  have hk : s.getD 2 0 = UInt8.ofNat k := by rw [hs]; rfl
  have hblk : blkOf s = b := by
    unfold blkOf
    rw [n20, n4, n8, n12, n16, hd, hk, hbk, UInt8.toNat_ofNat']
    congr 1
    omega
  unfold openB
  rw [hw, n20, hblk, hseal, decide_eq_true (show s.length = 256 by omega), decide_eq_false (show ¬ (body.length : Int) > 228 by omega)]
  show (match (0 : Int) != 0 || !(s == s) with | true => (Blk.zero, 7) | false => (b, 0) : Blk × Int) = _
  rw [show (s == s) = true from beq_self_eq_true s]
  rfl

theorem may_blk {x : Sup} {i : Int} (h : x.may = true) (h0 : 0 ≤ i) (h4 : i < 4) : (x.blk i).nums = true ∧ (x.blk i).body.length ≤ 228 := by
  have hl : (numsD x.nine).length ≤ 45 := numsD_len (may_nine h)
  refine ⟨?_, by show (numsD x.nine).length ≤ 228; omega⟩
  unfold Sup.may Sup.words at h
  simp only [Bool.and_eq_true, List.all_cons, List.all_nil, decide_eq_true_eq] at h
  unfold Blk.nums Sup.blk
  simp only [List.all_cons, List.all_nil, Bool.and_eq_true, decide_eq_true_eq]
  have hw : wordB i = true := by unfold wordB; simp only [Bool.and_eq_true, decide_eq_true_eq]; omega
  exact ⟨by decide, h.1.1.1.1.1.1.1, hw, h.1.1.1.1.1.1.2.2.1, h.1.1.1.1.1.1.2.1, trivial⟩
theorem sector_ok {x : Sup} {i : Int} (h : x.may = true) (h0 : 0 ≤ i) (h4 : i < 4) : x.sector i = (sealB (x.blk i).all, 0) ∧ openB (sealB (x.blk i).all) = (x.blk i, 0) := by
  obtain ⟨hn, hl⟩ := may_blk h h0 h4
  refine ⟨?_, open_seal hn hl⟩
  unfold Sup.sector
  rw [h, decide_eq_false (show ¬ i < 0 by omega), decide_eq_false (show ¬ i ≥ 4 by omega)]
  show (x.blk i).sld = _
  unfold Blk.sld
  rw [hn, decide_eq_false (show ¬ (x.blk i).body.length > 228 by omega)]
theorem sector_inv {x : Sup} {i : Int} (h : (x.sector i).2 = 0) : x.may = true ∧ 0 ≤ i ∧ i < 4 := by
  unfold Sup.sector at h
  cases hg : x.may && (!decide (i < 0) && !decide (i ≥ 4)) with
  | false => rw [hg] at h; simp at h
  | true =>
    simp only [Bool.and_eq_true, Bool.not_eq_true', decide_eq_false_iff_not] at hg
    exact ⟨hg.1, by omega, by omega⟩
end Go.Proofs.Ytmdponffajapjaa.AL

/- The layer 10, plain: what is told of what was sealed; what tells is a sector. -/
namespace Go.Proofs.Ytmdponffajapjaa.AL
open Go Go.Proofs Go.Proofs.Ytmdponffajapjaa.AL.Crc

def rst (b : Bytes) : Nat → Bytes
  | 0 => b
  | i + 1 => (rst b i).drop (numS (rst b i)).2.1
def nv (b : Bytes) (i : Nat) : Int := ((numS (rst b i)).1 : Int)
theorem st9_rst (y : Sup) (b : Bytes) : ∀ i, (st9 y b i).2 = rst b i
  | 0 => rfl
  | i + 1 => by
    show (st9 y b i).2.drop (numS (st9 y b i).2).2.1 = (rst b i).drop (numS (rst b i)).2.1
    rw [st9_rst y b i]
theorem st9_fst (y : Sup) (b : Bytes) (i : Nat) : (st9 y b (i + 1)).1 = (st9 y b i).1.set9 i (nv b i) := by
  show (st9 y b i).1.set9 i (numS (st9 y b i).2).1 = _
  rw [st9_rst]; rfl
def toldV (v g e : Int) (b : Bytes) : Sup := ⟨v, g, e, nv b 0, nv b 1, nv b 2, nv b 3, nv b 4, ⟨nv b 5, nv b 6, nv b 7, nv b 8⟩⟩
theorem toldX_eq (B : Blk) : toldX B = toldV B.vol B.seq B.epoch B.body := by
  unfold toldX
  rw [st9_fst, st9_fst, st9_fst, st9_fst, st9_fst, st9_fst, st9_fst, st9_fst, st9_fst]
  rfl

theorem rst_nums (l : List Int) (h : ∀ n ∈ l, 0 ≤ n ∧ n < 9223372036854775808) : ∀ i, i ≤ l.length → rst (numsD l) i = numsD (l.drop i)
  | 0, _ => rfl
  | i + 1, hi => by
    have hx := List.getElem?_eq_getElem (show i < l.length by omega)
    have hm := h _ (List.getElem_mem (show i < l.length by omega))
    have hd : l.drop i = l[i] :: l.drop (i + 1) := List.drop_eq_getElem_cons (by omega)
    generalize l[i] = v at hx hm hd
    show (rst (numsD l) i).drop (numS (rst (numsD l) i)).2.1 = _
    rw [rst_nums l h i (by omega), hd]
    show (numD v.toNat ++ numsD (l.drop (i + 1))).drop (numS (numD v.toNat ++ numsD (l.drop (i + 1)))).2.1 = _
    rw [numS_numD _ _ (by omega)]
    exact List.drop_left
theorem nv_nums (l : List Int) (h : ∀ n ∈ l, 0 ≤ n ∧ n < 9223372036854775808) (i : Nat) (v : Int) (hv : l[i]? = some v) : nv (numsD l) i = v ∧ (numS (rst (numsD l) i)).2.2 = 0 := by
  have hi := (List.getElem?_eq_some_iff.1 hv).1
  have hd : l.drop i = l[i] :: l.drop (i + 1) := List.drop_eq_getElem_cons hi
  have e : l[i] = v := (List.getElem?_eq_some_iff.1 hv).2
  have hm := h _ (List.getElem_mem hi)
  rw [e] at hd hm
  have e2 : numS (rst (numsD l) i) = (v.toNat, (numD v.toNat).length, 0) := by
    rw [rst_nums l h i (by omega), hd]
    show numS (numD v.toNat ++ numsD (l.drop (i + 1))) = _
    exact numS_numD _ _ (by omega)
  unfold nv
  rw [e2]
  exact ⟨by show ((v.toNat : Nat) : Int) = v; omega, rfl⟩

theorem toldX_blk {x : Sup} {i : Int} (h : x.may = true) : toldX (x.blk i) = x := by
  have hn : ∀ n ∈ x.nine, 0 ≤ n ∧ n < 9223372036854775808 := fun n hn => by have := may_nine h n hn; omega
  have hv : ∀ k v, x.nine[k]? = some v → nv (numsD x.nine) k = v := fun k v hv => (nv_nums x.nine hn k v hv).1
  rw [toldX_eq]
  show toldV x.vol x.gen x.epoch (numsD x.nine) = x
  unfold toldV
  rw [hv 0 _ rfl, hv 1 _ rfl, hv 2 _ rfl, hv 3 _ rfl, hv 4 _ rfl, hv 5 _ rfl, hv 6 _ rfl, hv 7 _ rfl, hv 8 _ rfl]

theorem told_sector {x : Sup} {i : Int} (h : x.may = true) (h0 : 0 ≤ i) (h4 : i < 4) : toldB (x.sector i).1 i = (x, true) := by
  obtain ⟨e1, e2⟩ := sector_ok h h0 h4
  unfold toldB
  rw [e1]
  show (match (openB (sealB (x.blk i).all)).2 != 0 with
    | true => (Sup.zero, false)
    | false => match ((toldX (openB (sealB (x.blk i).all)).1).sector i).2 != 0 || !(sealB (x.blk i).all == ((toldX (openB (sealB (x.blk i).all)).1).sector i).1) with
      | true => (Sup.zero, false)
      | false => (toldX (openB (sealB (x.blk i).all)).1, true) : Sup × Bool) = _
  rw [e2]
  show (match ((toldX (x.blk i)).sector i).2 != 0 || !(sealB (x.blk i).all == ((toldX (x.blk i)).sector i).1) with
      | true => (Sup.zero, false)
      | false => (toldX (x.blk i), true) : Sup × Bool) = _
  rw [toldX_blk h, e1]
  show (match (0 : Int) != 0 || !(sealB (x.blk i).all == sealB (x.blk i).all) with
      | true => (Sup.zero, false)
      | false => (x, true) : Sup × Bool) = _
  rw [beq_self_eq_true]
  rfl

/-- What opens, and is the sector of what it tells: it is whole. -/
theorem told_cond {s : Bytes} {i : Int} (h : (((toldX (openB s).1).sector i).2 != 0 || !(s == ((toldX (openB s).1).sector i).1)) = false) :
    (toldX (openB s).1).may = true ∧ 0 ≤ i ∧ i < 4 ∧ s = ((toldX (openB s).1).sector i).1 ∧ ∀ k, k < 9 → (numS (rst (openB s).1.body k)).2.2 = 0 := by
  rw [Bool.or_eq_false_iff] at h
  have h1 : ((toldX (openB s).1).sector i).2 = 0 := by simpa using h.1
  have h2 : s = ((toldX (openB s).1).sector i).1 := by simpa using h.2
  obtain ⟨hm, h0, h4⟩ := sector_inv h1
  refine ⟨hm, h0, h4, h2, fun k hk => ?_⟩
  obtain ⟨e1, e2⟩ := sector_ok hm h0 h4
  generalize hX : toldX (openB s).1 = x at h2 hm e1 e2
  rw [e1] at h2
  have h2 : s = sealB (x.blk i).all := h2
  rw [h2, e2]
  show (numS (rst (numsD x.nine) k)).2.2 = 0
  have hn : ∀ n ∈ x.nine, 0 ≤ n ∧ n < 9223372036854775808 := fun n hn => by have := may_nine hm n hn; omega
  have hx := List.getElem?_eq_getElem (show k < x.nine.length from hk)
  exact (nv_nums x.nine hn k _ hx).2
theorem told_true {s : Bytes} {i : Int} {x : Sup} (h : toldB s i = (x, true)) : x.may = true ∧ 0 ≤ i ∧ i < 4 ∧ s = (x.sector i).1 := by
  unfold toldB at h
  cases h1 : (openB s).2 != 0 with
  | true => rw [h1] at h; simp at h
  | false =>
    rw [h1] at h
    cases h2 : ((toldX (openB s).1).sector i).2 != 0 || !(s == ((toldX (openB s).1).sector i).1) with
    | true => rw [h2] at h; simp at h
    | false =>
      rw [h2] at h
      obtain ⟨a1, a2, a3, a4, _⟩ := told_cond h2
      have h : toldX (openB s).1 = x := (Prod.mk.injEq _ _ _ _ ▸ h).1
      rw [h] at a1 a4
      exact ⟨a1, a2, a3, a4⟩
theorem told_false {s : Bytes} {i : Int} (h : (toldB s i).2 = false) : toldB s i = (Sup.zero, false) := by
  unfold toldB at h ⊢
  cases h1 : (openB s).2 != 0 with
  | true => rfl
  | false =>
    rw [h1] at h
    cases h2 : ((toldX (openB s).1).sector i).2 != 0 || !(s == ((toldX (openB s).1).sector i).1) with
    | true => rfl
    | false => rw [h2] at h; simp at h
end Go.Proofs.Ytmdponffajapjaa.AL
