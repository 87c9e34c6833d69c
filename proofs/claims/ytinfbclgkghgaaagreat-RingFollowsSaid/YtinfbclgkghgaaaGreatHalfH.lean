/- A part of the proof. -/
import Derived.Laws.Strings
import Derived.Test.YtinfbclgkghgaaaGreatHalfG
/- The document's check of bytes: sums, seals. -/
namespace Go.Proofs.YtinfbclgkghgaaaGreat.AL
open Go Go.Proofs Go.Proofs.YtinfbclgkghgaaaGreat.AL.Crc

theorem nat_tmod (q k : Nat) : ((q : Int).tmod (k : Int)) = ((q % k : Nat) : Int) := by
  rw [Int.tmod_eq_emod_of_nonneg (Int.natCast_nonneg _)]; exact (Int.natCast_emod q k).symm
theorem nat_tdiv (q k : Nat) (hq : q < 9223372036854775808) : IntKind.i64.wrap ((q : Int).tdiv (k : Int)) = ((q / k : Nat) : Int) := by
  rw [Int.tdiv_eq_ediv_of_nonneg (Int.natCast_nonneg _), ← Int.natCast_ediv]
  have : q / k ≤ q := Nat.div_le_self _ _
  generalize q / k = r at this
  exact wrap64 _ (by omega) (by omega)
theorem wd_toNat (c : UInt8) : (wd c).toNat = c.toNat := by
  unfold wd
  rw [BitVec.toNat_ofNat, Nat.mod_eq_of_lt (Nat.lt_trans c.toNat_lt (by decide))]
theorem w_half (x : W) : IntKind.i64.wrap ((x.toNat : Int).tdiv 2) = ((x >>> 1).toNat : Int) := by
  have := x.isLt
  rw [show (2 : Int) = ((2 : Nat) : Int) from rfl, nat_tdiv _ _ (by omega), BitVec.toNat_ushiftRight, Nat.shiftRight_eq_div_pow]
theorem w_rem (x : W) : ((x.toNat : Int).tmod 2 == 1) = x.getLsbD 0 := by
  rw [show (2 : Int) = ((2 : Nat) : Int) from rfl, nat_tmod, ← BitVec.testBit_toNat, Nat.testBit_zero]
  rcases Nat.mod_two_eq_zero_or_one x.toNat with h | h <;> rw [h] <;> decide

set_option maxRecDepth 8000 in
theorem ref04_Sum (l : Bytes) (hl : l.length ≤ 1000000) : AF Tryz.prog f_ref04_Sum [bA l] [] (Pure (i64 ((sum l).toNat : Int)) []) := by
  refine af_body hT F_ref04_Sum rfl rfl N_ref04_Sum rfl ?_
  refine aw_seq (aw_region hT ?_)
  refine aw_seq (aw_region hT ?_)
  refine aw_cut ⟨⟨34, [(3, i64 ((run all1 l).toNat : Int))]⟩, []⟩ True (aw_seq (aw_region hT ?_)) (fun _ => ?_)
  · refine aw_block ?_
    refine aw_loopW (fun n s => ∃ (i : Nat) (j v : Int), n + i = l.length ∧ j = i ∧ v = ((run all1 (l.take i)).toNat : Int) ∧ s = ⟨⟨34, [(0, bA l), (3, i64 v), (4, i64 j)]⟩, []⟩) l.length ⟨⟨34, _⟩, []⟩ (wk_pick [] [0, 3, 4] rfl) ⟨0, 0, _, rfl, rfl, (by decide : (4294967295 : Int) = (all1.toNat : Int)), rfl⟩ ?_
    rintro n s ⟨i, j, v, hni, rfl, hv, rfl⟩
    refine aw_seq (aw_seq (aw_region hT ?_))
    refine aw_cond (boolI (fun h => ?_) (fun h => ?_))
    · have hi : i < l.length := by
        have := of_decide_eq_true (show decide ((i : Int) < ((bx l).length : Int)) = true from h)
        rw [bx_len] at this; omega
      have hx := List.getElem?_eq_getElem hi
      have htk : l.take (i + 1) = l.take i ++ [l[i]] := by rw [List.take_add_one, hx]; rfl
      generalize l[i] = c at hx htk
      have hxp : (bx l)[((i : Nat) : Int).toNat]? = some [u8 c] := by rw [Int.toNat_natCast]; exact bx_get hx
      have hrun : run all1 (l.take (i + 1)) = stN 8 (run all1 (l.take i) ^^^ wd c) := by rw [htk, run_snoc]; rfl
      subst hv
      generalize run all1 (l.take i) = x at hrun
      have w : AF Tryz.prog f_ref04_differ [i64 (x.toNat : Int), i64 (IntKind.i64.wrap (c.toNat : Int))] [] (Pure (i64 ((x ^^^ wd c).toNat : Int)) []) := by
        have hc := c.toNat_lt
        rw [wrap64 _ (by omega) (by omega), ← wd_toNat]; exact ref04_differ x (wd c)
      refine aw_skip ?_
      refine aw_cut ⟨⟨34, [(0, bA l), (3, i64 ((run all1 (l.take (i + 1))).toNat : Int)), (4, i64 i)]⟩, []⟩ True (aw_block (aw_seq (aw_region hT ?_))) (fun _ => ?_)
      · rw [hrun]
        refine ⟨Int.natCast_nonneg _, optI hxp ?_⟩
        refine callP w ?_
        generalize x ^^^ wd c = z
        refine aw_seq (aw_region hT ?_)
        refine aw_block ?_
        refine aw_loopW (fun n s => ∃ (k : Nat) (j v : Int), n + k = 8 ∧ j = k ∧ v = ((stN k z).toNat : Int) ∧ s = ⟨⟨34, [(0, bA l), (3, i64 v), (4, i64 i), (5, i64 j)]⟩, []⟩) 8 ⟨⟨34, _⟩, []⟩ (wk_pick [] [0, 3, 4, 5] rfl) ⟨0, 0, _, rfl, rfl, rfl, rfl⟩ ?_
        rintro m s ⟨k, j, v, hmk, rfl, hv, rfl⟩
        refine aw_seq (aw_seq (aw_region hT ?_))
        refine aw_cond (boolI (fun h => ?_) (fun h => ?_))
        · have hk : k < 8 := by
            have := of_decide_eq_true (show decide ((k : Int) < 8) = true from h)
            omega
          refine aw_skip ?_
          refine aw_cut ⟨⟨34, [(0, bA l), (3, i64 ((stN (k + 1) z).toNat : Int)), (4, i64 i), (5, i64 k)]⟩, []⟩ True (aw_block ?_) (fun _ => ?_)
          · rw [stN_step, st_step]
            subst hv
            generalize stN k z = x
            refine aw_seq (aw_region hT ?_)
            refine aw_seq (aw_region hT ?_)
            refine aw_seq (aw_region hT ?_)
            refine aw_cond (boolI (fun h => ?_) (fun h => ?_))
            · have h : ((x.toNat : Int).tmod 2 == 1) = true := h
              rw [w_rem] at h
              have w2 : AF Tryz.prog f_ref04_differ [i64 (IntKind.i64.wrap ((x.toNat : Int).tdiv 2)), i64 2197175160] [] (Pure (i64 (((x >>> 1) ^^^ poly).toNat : Int)) []) := by
                rw [w_half, show (2197175160 : Int) = (poly.toNat : Int) by decide]; exact ref04_differ _ poly
              refine aw_region hT ?_
              refine callP w2 ?_
              rw [h]
              exact ⟨wk_pick [] [0, 3, 4, 5] rfl, trivial⟩
            · have h : ((x.toNat : Int).tmod 2 == 1) = false := h
              rw [w_rem] at h
              refine aw_skip ?_
              rw [h]
              show Wk _ _ ⟨⟨34, [(0, _), (3, i64 ((x >>> 1).toNat : Int)), (4, _), (5, _)]⟩, _⟩ ∧ True
              rw [← w_half]
              exact ⟨wk_pick [] [0, 3, 4, 5] rfl, trivial⟩
          · refine aw_region hT ?_
            refine ⟨m - 1, by omega, _, wk_pick [] [0, 3, 4, 5] rfl, k + 1, IntKind.i64.wrap ((k : Int) + 1), _, by omega, ?_, rfl, rfl⟩
            rw [wrap64 _ (by omega) (by omega)]; rfl
        · have hk : ¬ (k : Int) < 8 := of_decide_eq_false h
          have hk8 : k = 8 := by omega
          subst hk8 hv
          refine aw_exit ?_
          exact ⟨wk_pick [] [0, 3, 4] rfl, trivial⟩
      · refine aw_region hT ?_
        refine ⟨n - 1, by omega, _, wk_pick [] [0, 3, 4] rfl, i + 1, IntKind.i64.wrap ((i : Int) + 1), _, by omega, ?_, rfl, rfl⟩
        rw [wrap64 _ (by omega) (by omega)]; rfl
    · have hi : ¬ (i : Int) < ((bx l).length : Int) := of_decide_eq_false h
      rw [bx_len] at hi
      have hil : i = l.length := by omega
      subst hil hv
      rw [List.take_length]
      refine aw_exit ?_
      exact ⟨wk_pick [] [3] rfl, trivial⟩
  · refine aw_seq (aw_region hT ?_)
    refine aw_ret ?_
    refine retPick [] ⟨?_, rfl⟩ rfl
    show AV.p (.raw (.int .i64 (IntKind.i64.wrap (4294967295 - ((run all1 l).toNat : Int))))) = _
    have h1 := (run all1 l).isLt
    have e : (sum l).toNat = 4294967295 - (run all1 l).toNat := by
      unfold sum
      have : run all1 l ^^^ all1 = ~~~ (run all1 l) := by
        rw [← BitVec.xor_allOnes]; rfl
      rw [this, BitVec.toNat_not]
    rw [wrap64 _ (by omega) (by omega), e]
    congr 3
    omega
end Go.Proofs.YtinfbclgkghgaaaGreat.AL

/- The check of bytes: a number's bytes; the document's seal. -/
namespace Go.Proofs.YtinfbclgkghgaaaGreat.AL
open Go Go.Proofs Go.Proofs.YtinfbclgkghgaaaGreat.AL.Crc

/-- A number's bytes, the lowest one first. -/
def leB (k n : Nat) : Bytes := (List.range k).map fun j => UInt8.ofNat (n / 256 ^ j)
theorem leB_len (k n : Nat) : (leB k n).length = k := by simp [leB]
theorem leB_snoc (k n : Nat) : leB (k + 1) n = leB k n ++ [UInt8.ofNat (n / 256 ^ k)] := by unfold leB; rw [List.range_succ, List.map_append]; rfl
theorem bx_snoc (l : Bytes) (b : UInt8) : bx (l ++ [b]) = bx l ++ [[u8 b]] := by simp [bx]
theorem bx_app (l r : Bytes) : bx (l ++ r) = bx l ++ bx r := by simp [bx]
theorem pow_div (n k : Nat) : n / 256 ^ (k + 1) = n / 256 ^ k / 256 := by rw [Nat.pow_succ, Nat.div_div_eq_div_mul]
theorem shr8 (q : Nat) : ((q : Int).fdiv (2 ^ (min ((8 : Nat) : Int).toNat 64))) = ((q / 256 : Nat) : Int) := by
  rw [Int.fdiv_eq_ediv_of_nonneg _ (Int.pow_nonneg (by omega)), Int.natCast_ediv]; rfl

theorem crc_fourM (n : Nat) : AF Tryz.prog f_crc_four [i64 n] [] (Pure (.msl 0 1 0 4) [.row t_u8 1 (bx (leB 4 n))]) := by
  refine af_body hT F_crc_four rfl rfl N_crc_four rfl ?_
  refine aw_seq (aw_region hT ?_)
  refine aw_seq (aw_region hT ?_)
  refine aw_wk (Wk.trans (wk_phantom t_u8 1) (wk_nil 3 0 1 0 rfl)) ?_
  refine aw_seq (aw_seq (aw_region hT ?_))
  refine aw_block ?_
  refine aw_loopW (fun m s => ∃ (i : Nat) (j v : Int) (L : Bytes), m + i = 4 ∧ j = i ∧ v = ((n / 256 ^ i : Nat) : Int) ∧ L = leB i n ∧ s = ⟨⟨15, [(0, i64 v), (3, .msl 0 1 0 (bx L).length), (4, i64 j)]⟩, [.row t_u8 1 (bx L)]⟩) 4 ⟨⟨15, _⟩, [_]⟩ (wk_pick [0] [0, 3, 4] rfl) ⟨0, 0, _, [], rfl, rfl, by rw [Nat.pow_zero, Nat.div_one], rfl, rfl⟩ ?_
  rintro m s ⟨i, j, v, L, hmi, rfl, rfl, hL, rfl⟩
  have hLl : L.length = i := by rw [hL, leB_len]
  have hbl := bx_len L
  refine aw_seq (aw_region hT ?_)
  refine aw_seq (aw_cond (boolI (fun h => ?_) (fun h => ?_)))
  · have hi : i < 4 := by
      have := of_decide_eq_true (show decide ((i : Int) < 4) = true from h)
      omega
    refine aw_skip ?_
    refine aw_cut ⟨⟨15, [(0, i64 ((n / 256 ^ (i + 1) : Nat) : Int)), (3, .msl 0 1 0 (bx (L ++ [UInt8.ofNat (n / 256 ^ i)])).length), (4, i64 i)]⟩, [.row t_u8 1 (bx (L ++ [UInt8.ofNat (n / 256 ^ i)]))]⟩ True (aw_block (aw_seq (aw_regionF (fun k => Nat.beq 3 k) hT ?_))) (fun _ => ?_)
    · refine ⟨⟨rfl, rfl⟩, ?_⟩
      refine ⟨rfl, ⟨?_, ?_⟩, ?_⟩
      · show ((bx L).length + 1) * 1 ≤ 140737488355328
        omega
      · show (bx L).length + 1 ≤ 140737488355328
        omega
      refine aw_region hT ?_
      rw [bx_snoc, show u8 (UInt8.ofNat (n / 256 ^ i)) = PV.raw (.int .u8 (IntKind.u8.wrap ((n / 256 ^ i : Nat) : Int))) by rw [u8_wrapN], pow_div, ← shr8]
      exact ⟨wk_pick [1] [0, 3, 4] rfl, trivial⟩
    · refine aw_region hT ?_
      refine ⟨m - 1, by omega, _, wk_pick [0] [0, 3, 4] rfl, i + 1, IntKind.i64.wrap ((i : Int) + 1), _, _, by omega, ?_, rfl, by rw [hL, leB_snoc], rfl⟩
      rw [wrap64 _ (by omega) (by omega)]; rfl
  · have hi : ¬ (i : Int) < 4 := of_decide_eq_false h
    have hi4 : i = 4 := by omega
    subst hi4
    refine aw_exit ?_
    refine aw_seq (aw_region hT ?_)
    refine aw_ret ?_
    subst hL
    have e : (bx (leB 4 n)).length = 4 := by rw [hbl, leB_len]
    rw [show AV.msl 0 1 0 4 = AV.msl 0 1 0 (bx (leB 4 n)).length by rw [e]]
    exact retPick [0] ⟨rfl, rfl⟩ rfl
theorem crc_four (n : Nat) : AF Tryz.prog f_crc_four [i64 n] [] (Pure (bA (leB 4 n)) []) := af_frz (crc_fourM n) (by rw [bx_len, leB_len])

/-- A sealed piece. -/
def sealB (l : Bytes) : Bytes := l ++ leB 4 (sum l).toNat
theorem sealB_len (l : Bytes) : (sealB l).length = l.length + 4 := by unfold sealB; rw [List.length_append, leB_len]

theorem u8_rem (q : Nat) : IntKind.u8.wrap ((q : Int).tmod 256) = ((UInt8.ofNat q).toNat : Int) := by
  rw [show (256 : Int) = ((256 : Nat) : Int) from rfl, nat_tmod, u8_wrapN, UInt8.toNat_ofNat', UInt8.toNat_ofNat']; omega

theorem ref04_SealM (l : Bytes) (hl : l.length ≤ 1000000) : AF Tryz.prog f_ref04_Seal [bA l] [] (Pure (.msl 0 1 0 (sealB l).length) [.row t_u8 1 (bx (sealB l))]) := by
  have hbl := bx_len l
  refine af_body hT F_ref04_Seal rfl rfl N_ref04_Seal rfl ?_
  refine aw_seq (aw_region hT ?_)
  refine aw_seq (aw_region hT ?_)
  refine callP (ref04_Sum l hl) ?_
  have hn := (sum l).isLt
  unfold sealB
  generalize (sum l).toNat = n at hn
  refine aw_seq (aw_region hT ?_)
  refine ⟨⟨?_, ?_⟩, ?_⟩
  · show (bx l).length * 1 ≤ 140737488355328
    omega
  · show (bx l).length ≤ 140737488355328
    omega
  refine aw_seq (aw_seq (aw_region hT ?_))
  refine aw_block ?_
  refine aw_loopW (fun m s => ∃ (i : Nat) (j v : Int) (L : Bytes), m + i = 4 ∧ j = i ∧ v = ((n / 256 ^ i : Nat) : Int) ∧ L = l ++ leB i n ∧ s = ⟨⟨23, [(3, i64 v), (4, .msl 0 1 0 (bx L).length), (5, i64 j)]⟩, [.row t_u8 1 (bx L)]⟩) 4 ⟨⟨23, _⟩, [_]⟩ (wk_pick [0] [3, 4, 5] rfl) ⟨0, 0, _, l, rfl, rfl, by rw [Nat.pow_zero, Nat.div_one], by simp [leB], rfl⟩ ?_
  rintro m s ⟨i, j, v, L, hmi, rfl, rfl, hL, rfl⟩
  have hLl : L.length = l.length + i := by rw [hL, List.length_append, leB_len]
  have hbL := bx_len L
  refine aw_seq (aw_seq (aw_region hT ?_))
  refine aw_cond (boolI (fun h => ?_) (fun h => ?_))
  · have hi : i < 4 := by
      have := of_decide_eq_true (show decide ((i : Int) < 4) = true from h)
      omega
    refine aw_skip ?_
    refine aw_cut ⟨⟨23, [(3, i64 ((n / 256 ^ (i + 1) : Nat) : Int)), (4, .msl 0 1 0 (bx (L ++ [UInt8.ofNat (n / 256 ^ i)])).length), (5, i64 i)]⟩, [.row t_u8 1 (bx (L ++ [UInt8.ofNat (n / 256 ^ i)]))]⟩ True (aw_block (aw_seq (aw_regionF (fun k => Nat.beq 4 k) hT ?_))) (fun _ => ?_)
    · refine ⟨⟨rfl, rfl⟩, ?_⟩
      refine ⟨rfl, ⟨?_, ?_⟩, ?_⟩
      · show ((bx L).length + 1) * 1 ≤ 140737488355328
        omega
      · show (bx L).length + 1 ≤ 140737488355328
        omega
      refine aw_region hT ?_
      have hq : n / 256 ^ i ≤ n := Nat.div_le_self _ _
      rw [bx_snoc, show u8 (UInt8.ofNat (n / 256 ^ i)) = PV.raw (.int .u8 (IntKind.u8.wrap (((n / 256 ^ i : Nat) : Int).tmod 256))) by rw [u8_rem], pow_div, ← nat_tdiv _ 256 (by omega)]
      exact ⟨wk_pick [1] [3, 4, 5] rfl, trivial⟩
    · refine aw_region hT ?_
      refine ⟨m - 1, by omega, _, wk_pick [0] [3, 4, 5] rfl, i + 1, IntKind.i64.wrap ((i : Int) + 1), _, _, by omega, ?_, rfl, by rw [hL, leB_snoc, List.append_assoc], rfl⟩
      rw [wrap64 _ (by omega) (by omega)]; rfl
  · have hi : ¬ (i : Int) < 4 := of_decide_eq_false h
    have hi4 : i = 4 := by omega
    subst hi4
    refine aw_exit ?_
    refine aw_seq (aw_region hT ?_)
    refine aw_ret ?_
    subst hL
    rw [← bx_len (l ++ leB 4 n)]
    exact retPick [0] ⟨rfl, rfl⟩ rfl
theorem ref04_Seal (l : Bytes) (hl : l.length ≤ 1000000) : AF Tryz.prog f_ref04_Seal [bA l] [] (Pure (bA (sealB l)) []) := af_frz (ref04_SealM l hl) (by rw [bx_len])
end Go.Proofs.YtinfbclgkghgaaaGreat.AL

/- The layer 05 (code), plain: digits, what stands next. -/
namespace Go.Proofs.YtinfbclgkghgaaaGreat.AL
open Go Go.Proofs

def lookF (k n s : Nat) : Bytes → Nat × Nat × Int
  | [] => (0, 0, 6)
  | d :: r => match decide (k = 10) || (decide (k = 9) && decide (d.toNat > 1)) with
    | true => (0, 0, 7)
    | false => match decide (d.toNat ≥ 128) with
      | true => lookF (k + 1) (n + (d.toNat - 128) * s) (s * 128) r
      | false => match decide (d.toNat = 0) && decide (k > 0) with
        | true => (0, 0, 7)
        | false => (n + d.toNat * s, k + 1, 0)
def lookB (b : Bytes) : Nat × Nat × Int := lookF 0 0 1 b
/-- The number that digits are. -/
def val : Bytes → Nat
  | [] => 0
  | c :: r => c.toNat % 128 + 128 * val r
theorem val_snoc : ∀ (l : Bytes) (c : UInt8), val (l ++ [c]) = val l + (c.toNat % 128) * 128 ^ l.length
  | [], c => by simp [val]
  | d :: r, c => by
    rw [List.cons_append, val, val, val_snoc r c, List.length_cons, Nat.pow_succ, Nat.mul_add, Nat.add_assoc]
    congr 2
    rw [Nat.mul_comm 128, Nat.mul_assoc]
theorem lookF_any : ∀ (l : Bytes) (k n s n' s' : Nat), (lookF k n s l).2 = (lookF k n' s' l).2
  | [], _, _, _, _, _ => rfl
  | d :: r, k, n, s, n', s' => by
    unfold lookF
    cases decide (k = 10) || (decide (k = 9) && decide (d.toNat > 1)) with
    | true => rfl
    | false =>
      cases decide (d.toNat ≥ 128) with
      | true => exact lookF_any r _ _ _ _ _
      | false => cases decide (d.toNat = 0) && decide (k > 0) <;> rfl
theorem lookF_err : ∀ (l : Bytes) (k n s : Nat), (lookF k n s l).2.2 ≠ 0 → (lookF k n s l).1 = 0 ∧ (lookF k n s l).2.1 = 0
  | [], _, _, _, _ => ⟨rfl, rfl⟩
  | d :: r, k, n, s, h => by
    unfold lookF at h ⊢
    cases h1 : decide (k = 10) || (decide (k = 9) && decide (d.toNat > 1)) with
    | true => exact ⟨rfl, rfl⟩
    | false =>
      rw [h1] at h
      cases h2 : decide (d.toNat ≥ 128) with
      | true => rw [h2] at h; exact lookF_err r _ _ _ h
      | false =>
        rw [h2] at h
        cases h3 : decide (d.toNat = 0) && decide (k > 0) with
        | true => exact ⟨rfl, rfl⟩
        | false => rw [h3] at h; exact absurd rfl h
theorem lookF_ok : ∀ (l : Bytes) (k n : Nat), k ≤ 10 → n < 128 ^ k → (lookF k n (128 ^ k) l).2.2 = 0 →
    ∃ j, (lookF k n (128 ^ k) l).2.1 = k + j ∧ 0 < j ∧ j ≤ l.length ∧ k + j ≤ 10 ∧ (lookF k n (128 ^ k) l).1 = n + 128 ^ k * val (l.take j) ∧ (lookF k n (128 ^ k) l).1 < 2 ^ 64
  | [], _, _, _, _, h => by simp [lookF] at h
  | d :: r, k, n, hk, hn, h => by
    have hd := d.toNat_lt
    unfold lookF at h ⊢
    cases h1 : decide (k = 10) || (decide (k = 9) && decide (d.toNat > 1)) with
    | true => rw [h1] at h; simp at h
    | false =>
      rw [h1] at h
      rw [Bool.or_eq_false_iff, Bool.and_eq_false_iff] at h1
      have k10 := of_decide_eq_false h1.1
      cases h2 : decide (d.toNat ≥ 128) with
      | true =>
        have hd2 := of_decide_eq_true h2
        have k9 : k ≤ 8 := by
          rcases h1.2 with h | h
          · have := of_decide_eq_false h; omega
          · have := of_decide_eq_false h; omega
        rw [h2] at h
        have hm : d.toNat % 128 = d.toNat - 128 := by omega
        have hn' : n + (d.toNat - 128) * 128 ^ k < 128 ^ (k + 1) := by
          have : (d.toNat - 128) * 128 ^ k ≤ 127 * 128 ^ k := Nat.mul_le_mul_right _ (by omega)
          rw [Nat.pow_succ]; omega
        rw [← Nat.pow_succ] at h ⊢
        obtain ⟨j, a1, a2, a3, a4, a5, a6⟩ := lookF_ok r (k + 1) _ (by omega) hn' h
        refine ⟨j + 1, ?_, by omega, by simpa using a3, by omega, ?_, a6⟩
        · show (lookF (k + 1) _ _ r).2.1 = _
          rw [a1]; omega
        · show (lookF (k + 1) _ _ r).1 = _
          rw [a5, List.take_succ_cons, val, hm, Nat.mul_add, Nat.pow_succ, Nat.mul_comm (d.toNat - 128), Nat.mul_assoc]; omega
      | false =>
        have hd2 := of_decide_eq_false h2
        rw [h2] at h
        cases h3 : decide (d.toNat = 0) && decide (k > 0) with
        | true => rw [h3] at h; simp at h
        | false =>
          refine ⟨1, rfl, by omega, by simp, by omega, ?_, ?_⟩
          · show n + d.toNat * 128 ^ k = n + 128 ^ k * (d.toNat % 128 + 128 * 0)
            rw [show d.toNat % 128 = d.toNat by omega, Nat.mul_comm]; rfl
          · show n + d.toNat * 128 ^ k < _
            rcases Nat.lt_or_ge k 9 with hk8 | hk9
            · have h1 : 128 ^ k ≤ 128 ^ 8 := Nat.pow_le_pow_right (by omega) (by omega)
              have h2 : d.toNat * 128 ^ k ≤ 127 * 128 ^ 8 := Nat.mul_le_mul (by omega) h1
              omega
            · have hk9 : k = 9 := by omega
              subst hk9
              have hd1 : d.toNat ≤ 1 := by
                rcases h1.2 with h | h
                · exact absurd rfl (of_decide_eq_false h)
                · have := of_decide_eq_false h; omega
              have : d.toNat * 128 ^ 9 ≤ 1 * 128 ^ 9 := Nat.mul_le_mul_right _ hd1
              omega
/-- The number from 0 on that stands next, how many digits it has, what is wrong. -/
def numS (b : Bytes) : Nat × Nat × Int := match lookB b with
  | (n, k, e) => match decide (e = 0) && decide (n ≥ 2 ^ 63) with
    | true => (0, 0, 7)
    | false => (n, k, e)
theorem lookB_ok {b : Bytes} (h : (lookB b).2.2 = 0) : 0 < (lookB b).2.1 ∧ (lookB b).2.1 ≤ b.length ∧ (lookB b).2.1 ≤ 10 ∧ (lookB b).1 = val (b.take (lookB b).2.1) ∧ (lookB b).1 < 2 ^ 64 := by
  obtain ⟨j, a1, a2, a3, a4, a5, a6⟩ := lookF_ok b 0 0 (by omega) (by simp) h
  have e : (lookB b).2.1 = j := by show (lookF 0 0 1 b).2.1 = j; rw [show (1 : Nat) = 128 ^ 0 from rfl, a1]; omega
  rw [e]
  refine ⟨a2, a3, by omega, ?_, a6⟩
  show (lookF 0 0 (128 ^ 0) b).1 = _
  rw [a5]; simp
theorem numS_lt (b : Bytes) : (numS b).1 < 2 ^ 63 := by
  unfold numS
  by_cases h : (lookB b).2.2 = 0
  · generalize hY : lookB b = Y at h
    obtain ⟨n, k, e⟩ := Y
    show (match decide (e = 0) && decide (n ≥ 2 ^ 63) with | true => (0, 0, 7) | false => (n, k, e) : Nat × Nat × Int).1 < _
    cases h2 : decide (e = 0) && decide (n ≥ 2 ^ 63) with
    | true => exact Nat.two_pow_pos 63
    | false =>
      rw [decide_eq_true (show e = 0 from h), Bool.true_and] at h2
      have := of_decide_eq_false h2
      show n < _
      omega
  · have h0 := lookF_err b 0 0 1 h
    have h1 : (lookB b).1 = 0 := h0.1
    generalize hY : lookB b = Y at h h1
    obtain ⟨n, k, e⟩ := Y
    have h1 : n = 0 := h1
    subst h1
    show (match decide (e = 0) && decide ((0 : Nat) ≥ 2 ^ 63) with | true => (0, 0, 7) | false => (0, k, e) : Nat × Nat × Int).1 < _
    cases h2 : decide (e = 0) && decide ((0 : Nat) ≥ 2 ^ 63) <;> exact Nat.two_pow_pos 63

/-- The digits of a number from 0 on. -/
def numD (n : Nat) : Bytes := if n < 128 then [UInt8.ofNat n] else UInt8.ofNat (n % 128 + 128) :: numD (n / 128)
termination_by n
decreasing_by omega
theorem numD_lt {n : Nat} (h : n < 128) : numD n = [UInt8.ofNat n] := by rw [numD, if_pos h]
theorem numD_ge {n : Nat} (h : ¬ n < 128) : numD n = UInt8.ofNat (n % 128 + 128) :: numD (n / 128) := by rw [numD, if_neg h]
theorem numD_len : ∀ (k n : Nat), n < 128 ^ (k + 1) → (numD n).length ≤ k + 1
  | 0, n, h => by rw [numD_lt (by simpa using h)]; simp
  | k + 1, n, h => by
    by_cases h1 : n < 128
    · rw [numD_lt h1]; simp
    · rw [numD_ge h1, List.length_cons]
      have := numD_len k (n / 128) (by rw [Nat.pow_succ] at h; exact Nat.div_lt_of_lt_mul (by rw [Nat.mul_comm]; exact h))
      omega
/-- What digits are is found again, whatever stands behind. -/
theorem lookF_numD : ∀ (k n a : Nat) (r : Bytes), k ≤ 9 → (k = 0 ∨ 0 < n) → n * 128 ^ k < 2 ^ 64 → lookF k a (128 ^ k) (numD n ++ r) = (a + n * 128 ^ k, k + (numD n).length, 0) := by
  intro k n
  induction n using Nat.strongRecOn generalizing k with
  | ind n ih =>
    intro a r hk h0 hb
    by_cases h1 : n < 128
    · rw [numD_lt h1]
      have hc : (UInt8.ofNat n).toNat = n := by rw [UInt8.toNat_ofNat']; omega
      show lookF k a (128 ^ k) (UInt8.ofNat n :: r) = _
      unfold lookF
      rw [hc]
      have e1 : (decide (k = 10) || (decide (k = 9) && decide (n > 1))) = false := by
        rw [decide_eq_false (by omega), Bool.false_or, Bool.and_eq_false_iff]
        by_cases h9 : k = 9
        · right
          subst h9
          apply decide_eq_false
          intro h2
          have : 2 * 128 ^ 9 ≤ n * 128 ^ 9 := Nat.mul_le_mul_right _ h2
          omega
        · left; exact decide_eq_false h9
      have e3 : (decide (n = 0) && decide (k > 0)) = false := by
        rw [Bool.and_eq_false_iff]
        rcases h0 with h | h
        · right; exact decide_eq_false (by omega)
        · left; exact decide_eq_false (by omega)
      rw [e1, decide_eq_false (show ¬ n ≥ 128 by omega), e3]
      rfl
    · rw [numD_ge h1]
      have hc : (UInt8.ofNat (n % 128 + 128)).toNat = n % 128 + 128 := by rw [UInt8.toNat_ofNat']; omega
      have hk8 : k ≤ 8 := by
        rcases Nat.lt_or_ge k 9 with h | h
        · omega
        · have h9 : k = 9 := by omega
          subst h9
          have : 128 * 128 ^ 9 ≤ n * 128 ^ 9 := Nat.mul_le_mul_right _ (by omega)
          omega
      show lookF k a (128 ^ k) (UInt8.ofNat (n % 128 + 128) :: (numD (n / 128) ++ r)) = _
      unfold lookF
      rw [hc]
      have e1 : (decide (k = 10) || (decide (k = 9) && decide (n % 128 + 128 > 1))) = false := by
        rw [decide_eq_false (by omega), decide_eq_false (show ¬ k = 9 by omega)]; rfl
      rw [e1, decide_eq_true (show n % 128 + 128 ≥ 128 by omega)]
      show lookF (k + 1) (a + (n % 128 + 128 - 128) * 128 ^ k) (128 ^ k * 128) _ = _
      rw [← Nat.pow_succ]
      have hsplit : n / 128 * 128 ^ (k + 1) + n % 128 * 128 ^ k = n * 128 ^ k := by
        rw [Nat.pow_succ, Nat.mul_comm (128 ^ k) 128, ← Nat.mul_assoc, ← Nat.add_mul]
        congr 1; omega
      rw [ih (n / 128) (by omega) (k + 1) _ r (by omega) (.inr (by omega)) (by omega)]
      rw [List.length_cons, Nat.add_sub_cancel]
      refine Prod.ext ?_ (Prod.ext ?_ rfl)
      · show a + n % 128 * 128 ^ k + n / 128 * 128 ^ (k + 1) = a + n * 128 ^ k
        omega
      · show k + 1 + _ = k + (_ + 1)
        omega
theorem numS_numD (n : Nat) (r : Bytes) (h : n < 2 ^ 63) : numS (numD n ++ r) = (n, (numD n).length, 0) := by
  have e := lookF_numD 0 n 0 r (by omega) (.inl rfl) (by simpa using Nat.lt_trans h (by decide))
  have e : lookB (numD n ++ r) = (n, (numD n).length, 0) := by
    show lookF 0 0 (128 ^ 0) _ = _
    rw [e]; simp
  unfold numS
  rw [e]
  show (match decide ((0 : Int) = 0) && decide (n ≥ 2 ^ 63) with | true => (0, 0, 7) | false => (n, (numD n).length, 0) : Nat × Nat × Int) = _
  rw [decide_eq_false (show ¬ n ≥ 2 ^ 63 by omega), Bool.and_false]
end Go.Proofs.YtinfbclgkghgaaaGreat.AL

/- Rounds: blocks are kept, in an order; the record, which is not looked at, stays. -/
namespace Go.Proofs.YtinfbclgkghgaaaGreat.AL
open Go

theorem set_getD_ne {α : Type} {l : List α} {i j : Nat} {x d : α} (h : i ≠ j) : (l.set i x).getD j d = l.getD j d := by
  rw [List.getD_eq_getElem?_getD, List.getD_eq_getElem?_getD, List.getElem?_set_ne h]

theorem wk_pickL {m : Nat} {s : St} (M : Nat) (ps ks : List Nat) (H2 : List ABlk) {q : RecK} {st : LoopState} {pe : Option Code} {l : List AV} (hM : s.H[M]? = some (.lp q st pe l)) (hl : belowL (M + 1) l = true)
    (hp : prefB (M + 1) 0 ps = true) (hH : (pickH (s.H.set M .dead) ps ps).set M (.lp q st pe l) = H2)
    (h : (prefB m 0 ps && nodupB ps && allLt s.H.length ps && pickOk (s.H.set M .dead) ps ps && pickFOk s.fr.l ps ks) = true) :
    Wk m s ⟨⟨s.fr.n, pickF s.fr.l ps ks⟩, H2⟩ := by
  subst hH
  simp only [Bool.and_eq_true] at h
  obtain ⟨⟨⟨⟨h1, h2⟩, h3⟩, h4⟩, h5⟩ := h
  have hid : ∀ b, b < M + 1 → rho s.H.length ps b = b := fun b hb => by
    have := pref_of hp b hb
    simp [rho, List.getD_eq_getElem?_getD, this]
  have hnd := nodup_of h2
  have hMp : ps[M]? = some M := by rw [pref_of hp M (by omega)]; congr 1; omega
  refine wk_sel ps ⟨by rw [List.length_set]; exact pickH_len ps, hnd, fun b k hb => .inr ?_⟩ (fun b hb => by rw [pref_of h1 b hb]; congr 1; omega) rfl (fun i u2 hu => ?_)
  · by_cases e : b = M
    · subst e
      have hlt : b < (pickH (s.H.set b .dead) ps ps).length := by
        have := (List.getElem?_eq_some_iff.1 hb).1
        simpa using this
      rw [List.getElem?_set_self hlt] at hb
      obtain rfl := Option.some.inj hb
      refine ⟨b, hMp, ?_⟩
      rw [hM]
      congr 1
      show _ = ABlk.lp q st pe (renL _ l)
      rw [ren_idL hid l hl]
    · rw [List.getElem?_set_ne (by omega)] at hb
      obtain ⟨p, hpp, hk⟩ := pickH_get (n := s.H.length) h4 b k hb
      refine ⟨p, hpp, ?_⟩
      have hlt := allLt_of h3 p (List.mem_of_getElem? hpp)
      have hne : M ≠ p := fun e2 => by
        subst e2
        obtain ⟨x1, y1⟩ := List.getElem?_eq_some_iff.1 hpp
        obtain ⟨x2, y2⟩ := List.getElem?_eq_some_iff.1 hMp
        have hpw := List.pairwise_iff_getElem.1 hnd
        rcases Nat.lt_trichotomy b M with hlt2 | he | hlt2
        · exact hpw b M x1 x2 hlt2 (y1.trans y2.symm)
        · exact e he
        · exact hpw M b x2 x1 hlt2 (y2.trans y1.symm)
      rw [set_getD_ne hne] at hk
      rw [← hk, List.getD_eq_getElem?_getD, List.getElem?_eq_getElem hlt]; rfl
  · obtain ⟨u, hu1, hu2⟩ := pickF_get (n := s.H.length) h5 i u2 hu
    exact ⟨u, hu1, .inr (.inl hu2)⟩
end Go.Proofs.YtinfbclgkghgaaaGreat.AL

/- Slices of bytes: are two equal; a copy; some behind each other. -/
namespace Go.Proofs.YtinfbclgkghgaaaGreat.AL
open Go Go.Proofs Go.Proofs.YtinfbclgkghgaaaGreat.AL.Crc

theorem slices_Equal (s t : Bytes) (hs : s.length ≤ 1000000) : AF Tryz.prog f_slices_Equal_byte [bA s, bA t] [] (Pure (bl (s == t)) []) := by
  refine af_body hT F_slices_Equal_byte rfl rfl N_slices_Equal_byte rfl ?_
  refine aw_seq (aw_region hT ?_)
  refine aw_seq (aw_seq (aw_region hT ?_))
  refine aw_cond (boolI (fun h => ?_) (fun h => ?_))
  · have hne : (s == t) = false := by
      have h : (((bx s).length : Int) != ((bx t).length : Int)) = true := h
      rw [bx_len, bx_len] at h
      rw [beq_eq_false_iff_ne]
      rintro rfl
      simp at h
    refine aw_seq (aw_region hT ?_)
    refine aw_ret ?_
    rw [hne]
    exact retPick [] ⟨rfl, rfl⟩ rfl
  have hlen : s.length = t.length := by
    have h : (((bx s).length : Int) != ((bx t).length : Int)) = false := h
    rw [bx_len, bx_len] at h
    have h : (s.length : Int) = t.length := by simpa using h
    omega
  refine aw_skip ?_
  refine aw_seq (aw_seq (aw_region hT ?_))
  refine aw_block ?_
  refine aw_loopW (fun n st => ∃ (i : Nat) (j : Int), n + i = s.length ∧ j = i ∧ s.take i = t.take i ∧ st = ⟨⟨26, [(0, bA s), (1, bA t), (12, i64 s.length), (13, i64 j)]⟩, []⟩) s.length ⟨⟨26, _⟩, []⟩ (wk_pick [] [0, 1, 12, 13] rfl) ⟨0, _, rfl, rfl, rfl, by rw [← bx_len s]; rfl⟩ ?_
  rintro n st ⟨i, j, hni, rfl, ht, rfl⟩
  refine aw_seq (aw_region hT ?_)
  refine aw_seq (aw_cond (boolI (fun h => ?_) (fun h => ?_)))
  · have hi : i < s.length := by
      have := of_decide_eq_true (show decide ((i : Int) < (s.length : Int)) = true from h)
      omega
    have hx : (bx s)[((i : Nat) : Int).toNat]? = some [u8 s[i]] := by
      rw [Int.toNat_natCast, bx, List.getElem?_map, List.getElem?_eq_getElem hi]; rfl
    have hy : (bx t)[((i : Nat) : Int).toNat]? = some [u8 (t[i]'(by omega))] := by
      rw [Int.toNat_natCast, bx, List.getElem?_map, List.getElem?_eq_getElem (by omega)]; rfl
    refine aw_skip ?_
    refine aw_seq (aw_block (aw_seq (aw_region hT ?_)))
    refine aw_seq ?_
    refine aw_draw [] [] hT follows_mixed (by rfl) ?_
    refine ⟨Int.natCast_nonneg _, optI hx ?_⟩
    refine ⟨Int.natCast_nonneg _, optI hy ?_⟩
    refine aw_cond (boolI (fun h2 => ?_) (fun h2 => ?_))
    · have hne : (s == t) = false := by
        rw [beq_eq_false_iff_ne]
        rintro rfl
        have h2 : (((s[i].toNat : Nat) : Int) != ((s[i].toNat : Nat) : Int)) = true := h2
        simp at h2
      refine aw_seq (aw_region hT ?_)
      refine aw_ret ?_
      rw [hne]
      exact retPick [] ⟨rfl, rfl⟩ rfl
    · have he : s[i] = t[i]'(by omega) := by
        have h2 : (((s[i].toNat : Nat) : Int) != (((t[i]'(by omega)).toNat : Nat) : Int)) = false := h2
        have h2 : (s[i].toNat : Int) = ((t[i]'(by omega)).toNat : Int) := by simpa using h2
        have h2 : s[i].toNat = (t[i]'(by omega)).toNat := by omega
        exact UInt8.toNat_inj.mp h2
      refine aw_skip ?_
      refine aw_region hT ?_
      refine ⟨n - 1, by omega, _, wk_pick [] [0, 1, 12, 13] rfl, i + 1, IntKind.i64.wrap ((i : Int) + 1), by omega, ?_, ?_, rfl⟩
      · rw [wrap64 _ (by omega) (by omega)]; rfl
      · rw [List.take_add_one, List.take_add_one, ht, List.getElem?_eq_getElem hi, List.getElem?_eq_getElem (show i < t.length by omega), he]
  · refine aw_exit ?_
    have hi : i = s.length := by
      have := of_decide_eq_false (show decide ((i : Int) < (s.length : Int)) = false from h)
      omega
    have he : (s == t) = true := by
      rw [beq_iff_eq]
      rw [hi, List.take_length, hlen, List.take_length] at ht
      exact ht
    refine aw_seq (aw_region hT ?_)
    refine aw_ret ?_
    rw [he]
    exact retPick [] ⟨rfl, rfl⟩ rfl
theorem bytes_Clone (l : Bytes) (hl : l.length ≤ 1000000) : AF Tryz.prog f_bytes_Clone [bA l] [] (Pure (bA l) []) := by
  have hb := bx_len l
  generalize hx : bx l = xs at hb
  show AF Tryz.prog f_bytes_Clone [.p (.sl 1 (bx l))] [] (Pure (.p (.sl 1 (bx l))) [])
  rw [hx]
  refine af_frz (t := t_u8) (n := xs.length) ?_ rfl
  refine af_body hT F_bytes_Clone rfl rfl N_bytes_Clone rfl ?_
  refine aw_seq (aw_region hT ?_)
  refine aw_seq (aw_seq (aw_region hT ?_))
  intro b hn
  refine aw_cond (boolI (fun h => ?_) (fun h => ?_))
  · refine aw_seq (aw_region hT ?_)
    refine aw_ret ?_
    rw [hn h]
    exact retNil t_u8 1 ⟨rfl, rfl⟩
  · refine aw_skip ?_
    refine aw_seq (aw_region hT ?_)
    refine ⟨rfl, ⟨?_, ?_⟩, ?_⟩
    · show (0 + xs.length) * 1 ≤ _; omega
    · show 0 + xs.length ≤ _; omega
    refine aw_ret ?_
    exact retPick [1] ⟨rfl, rfl⟩ rfl

theorem slices_Grow (n : Int) (h0 : 0 ≤ n) (hn : n ≤ 1000000) : AF Tryz.prog f_slices_Grow_byte [.p (.raw (.slice none 0 0)), i64 n] [] (Pure (.msl 0 1 0 0) [.row t_u8 1 []]) := by
  refine af_body hT F_slices_Grow_byte rfl rfl N_slices_Grow_byte rfl ?_
  refine aw_seq (aw_region hT ?_)
  refine aw_seq (aw_seq (aw_region hT ?_))
  refine aw_cond (boolI (fun h => ?_) (fun h => ?_))
  · have := of_decide_eq_true (show decide (n < 0) = true from h)
    omega
  refine aw_skip ?_
  have e : IntKind.i64.wrap (n - IntKind.i64.wrap (0 - 0)) = n := by rw [wrap64 (0 - 0) (by omega) (by omega), wrap64 _ (by omega) (by omega)]; omega
  refine aw_cut ⟨⟨27, [(0, .msl 0 1 0 0)]⟩, [.row t_u8 1 []]⟩ True (aw_seq (aw_region hT ?_)) (fun _ => ?_)
  · refine aw_seq (aw_region hT ?_)
    refine aw_cond (boolI (fun h => ?_) (fun h => ?_))
    · have h : decide (IntKind.i64.wrap (n - IntKind.i64.wrap (0 - 0)) > 0) = true := h
      refine aw_region hT ?_
      refine ⟨⟨rfl, rfl⟩, ?_⟩
      refine ⟨⟨?_, ?_, ?_⟩, ?_⟩
      · show 0 ≤ IntKind.i64.wrap (n - IntKind.i64.wrap (0 - 0))
        rw [e]; exact h0
      · show IntKind.i64.wrap (n - IntKind.i64.wrap (0 - 0)) * 1 ≤ 140737488355328
        rw [e]; omega
      · show IntKind.i64.wrap (n - IntKind.i64.wrap (0 - 0)) ≤ 140737488355328
        rw [e]; omega
      refine ⟨⟨Int.le_refl _, Int.le_refl _, Int.natCast_nonneg _⟩, ?_⟩
      refine ⟨Wk.trans (wk_pick [0] [0] rfl) (Wk.trans (wk_rowTake 0 0 rfl) ?_), trivial⟩
      exact wk_pick [0] [0] rfl
    · refine aw_skip ?_
      exact ⟨Wk.trans (wk_phantom t_u8 1) (Wk.trans (wk_nil 0 0 1 0 rfl) (wk_pick [0] [0] rfl)), trivial⟩
  · refine aw_seq (aw_region hT ?_)
    refine aw_ret ?_
    exact retPick [0] ⟨rfl, rfl⟩ rfl
end Go.Proofs.YtinfbclgkghgaaaGreat.AL

/- Slices of bytes behind each other; the seal; is it whole? -/
namespace Go.Proofs.YtinfbclgkghgaaaGreat.AL
open Go Go.Proofs Go.Proofs.YtinfbclgkghgaaaGreat.AL.Crc

def catX (Ls : List Bytes) : List (List PV) := Ls.map fun l => [bP l]
theorem catX_len (Ls : List Bytes) : (catX Ls).length = Ls.length := by simp [catX]
theorem catX_get {Ls : List Bytes} {i : Nat} {l : Bytes} (h : Ls[i]? = some l) : (catX Ls)[i]? = some [bP l] := by rw [catX, List.getElem?_map, h]; rfl

theorem slices_ConcatM (Ls : List Bytes) (h1 : Ls.length ≤ 1000) (h2 : Ls.flatten.length ≤ 1000000) : AF Tryz.prog f_slices_Concat_byte [.p (.sl 1 (catX Ls))] [] (Pure (.msl 0 1 0 (bx Ls.flatten).length) [.row t_u8 1 (bx Ls.flatten)]) := by
  have sub : ∀ i, (Ls.take i).flatten.length ≤ 1000000 := fun i => by
    refine Nat.le_trans ?_ h2
    conv => rhs; rw [← List.take_append_drop i Ls, List.flatten_append, List.length_append]
    omega
  refine af_body hT F_slices_Concat_byte rfl rfl N_slices_Concat_byte rfl ?_
  refine aw_seq (aw_region hT ?_)
  refine aw_seq (aw_region hT ?_)
  refine aw_cut2 (fun s1 => ∃ n : Int, 0 ≤ n ∧ n ≤ 1000000 ∧ s1 = ⟨⟨36, [(0, .p (.sl 1 (catX Ls))), (3, i64 n)]⟩, []⟩) (aw_seq (aw_region hT ?_)) ?_
  · refine aw_block ?_
    refine aw_loopW (fun m s => ∃ (i : Nat) (j v : Int), m + i = Ls.length ∧ j = i ∧ v = ((Ls.take i).flatten.length : Int) ∧ s = ⟨⟨36, [(0, .p (.sl 1 (catX Ls))), (3, i64 v), (9, .p (.sl 1 (catX Ls))), (10, i64 Ls.length), (11, i64 j)]⟩, []⟩) Ls.length ⟨⟨36, _⟩, []⟩ (wk_pick [] [0, 3, 9, 10, 11] rfl) ⟨0, 0, 0, rfl, rfl, rfl, by rw [← catX_len Ls]; rfl⟩ ?_
    rintro m s ⟨i, j, v, hmi, rfl, hv, rfl⟩
    have hs := sub i
    refine aw_seq (aw_region hT ?_)
    refine aw_seq (aw_cond (boolI (fun h => ?_) (fun h => ?_)))
    · have hi : i < Ls.length := by
        have := of_decide_eq_true (show decide ((i : Int) < (Ls.length : Int)) = true from h)
        omega
      have hx := List.getElem?_eq_getElem hi
      have htk : Ls.take (i + 1) = Ls.take i ++ [Ls[i]] := by rw [List.take_add_one, hx]; rfl
      generalize Ls[i] = l at hx htk
      have hxp : (catX Ls)[((i : Nat) : Int).toNat]? = some [bP l] := by rw [Int.toNat_natCast]; exact catX_get hx
      have hs2 := sub (i + 1)
      have hfl : (Ls.take (i + 1)).flatten.length = (Ls.take i).flatten.length + l.length := by rw [htk, List.flatten_append, List.length_append]; simp
      have hw : IntKind.i64.wrap (v + ((bx l).length : Int)) = ((Ls.take (i + 1)).flatten.length : Int) := by
        rw [hv, bx_len, wrap64 _ (by omega) (by omega)]; omega
      refine aw_skip ?_
      refine aw_cut ⟨⟨36, [(0, .p (.sl 1 (catX Ls))), (3, i64 ((Ls.take (i + 1)).flatten.length : Int)), (9, .p (.sl 1 (catX Ls))), (10, i64 Ls.length), (11, i64 i)]⟩, []⟩ True (aw_block (aw_seq (aw_region hT ?_))) (fun _ => ?_)
      · refine ⟨Int.natCast_nonneg _, optI hxp ?_⟩
        refine aw_seq (aw_region hT ?_)
        refine aw_seq (aw_region hT ?_)
        refine aw_cond (boolI (fun h3 => ?_) (fun h3 => ?_))
        · have h3 : decide (IntKind.i64.wrap (v + ((bx l).length : Int)) < 0) = true := h3
          have h3 := of_decide_eq_true h3
          rw [hw] at h3; omega
        · refine aw_skip ?_
          rw [← hw]
          exact ⟨wk_pick [] [0, 3, 9, 10, 11] rfl, trivial⟩
      · refine aw_region hT ?_
        refine ⟨m - 1, by omega, _, wk_pick [] [0, 3, 9, 10, 11] rfl, i + 1, IntKind.i64.wrap ((i : Int) + 1), _, by omega, ?_, rfl, rfl⟩
        rw [wrap64 _ (by omega) (by omega)]; rfl
    · refine aw_exit ?_
      exact ⟨_, wk_pick [] [0, 3] rfl, v, by omega, by omega, rfl⟩
  rintro _ ⟨n, n0, n1, rfl⟩
  refine aw_seq (aw_region hT ?_)
  refine callP (slices_Grow n n0 n1) ?_
  refine aw_seq (aw_seq (aw_region hT ?_))
  refine aw_block ?_
  refine aw_loopW (fun m s => ∃ (i : Nat) (j : Int) (L : Bytes), m + i = Ls.length ∧ j = i ∧ L = (Ls.take i).flatten ∧ s = ⟨⟨36, [(6, .msl 0 1 0 (bx L).length), (25, .p (.sl 1 (catX Ls))), (26, i64 Ls.length), (27, i64 j)]⟩, [.row t_u8 1 (bx L)]⟩) Ls.length ⟨⟨36, _⟩, [_]⟩ (wk_pick [0] [6, 25, 26, 27] rfl) ⟨0, 0, [], rfl, rfl, rfl, by rw [← catX_len Ls]; rfl⟩ ?_
  rintro m s ⟨i, j, L, hmi, rfl, hL, rfl⟩
  have hs := sub i
  rw [← hL] at hs
  have hbL := bx_len L
  refine aw_seq (aw_region hT ?_)
  refine aw_seq (aw_cond (boolI (fun h => ?_) (fun h => ?_)))
  · have hi : i < Ls.length := by
      have := of_decide_eq_true (show decide ((i : Int) < (Ls.length : Int)) = true from h)
      omega
    have hx := List.getElem?_eq_getElem hi
    have htk : Ls.take (i + 1) = Ls.take i ++ [Ls[i]] := by rw [List.take_add_one, hx]; rfl
    generalize Ls[i] = l at hx htk
    have hxp : (catX Ls)[((i : Nat) : Int).toNat]? = some [bP l] := by rw [Int.toNat_natCast]; exact catX_get hx
    have hs2 := sub (i + 1)
    have hfl : (Ls.take (i + 1)).flatten = L ++ l := by rw [htk, List.flatten_append, hL]; simp
    rw [hfl, List.length_append] at hs2
    have hbl := bx_len l
    refine aw_skip ?_
    refine aw_cut ⟨⟨36, [(6, .msl 0 1 0 (bx (L ++ l)).length), (25, .p (.sl 1 (catX Ls))), (26, i64 Ls.length), (27, i64 i)]⟩, [.row t_u8 1 (bx (L ++ l))]⟩ True (aw_block (aw_seq (aw_region hT ?_))) (fun _ => ?_)
    · refine ⟨Int.natCast_nonneg _, optI hxp ?_⟩
      refine aw_region hT ?_
      refine ⟨rfl, ⟨?_, ?_⟩, ?_⟩
      · show ((bx L).length + (bx l).length) * 1 ≤ 140737488355328
        omega
      · show (bx L).length + (bx l).length ≤ 140737488355328
        omega
      rw [bx_app]
      exact ⟨wk_pick [1] [6, 25, 26, 27] rfl, trivial⟩
    · refine aw_region hT ?_
      refine ⟨m - 1, by omega, _, wk_pick [0] [6, 25, 26, 27] rfl, i + 1, IntKind.i64.wrap ((i : Int) + 1), L ++ l, by omega, ?_, hfl.symm, rfl⟩
      rw [wrap64 _ (by omega) (by omega)]; rfl
  · have hi : ¬ (i : Int) < (Ls.length : Int) := of_decide_eq_false h
    have hil : i = Ls.length := by omega
    subst hil
    rw [List.take_length] at hL
    subst hL
    refine aw_exit ?_
    refine aw_seq (aw_region hT ?_)
    refine aw_ret ?_
    exact retPick [0] ⟨rfl, rfl⟩ rfl
theorem slices_Concat (Ls : List Bytes) (h1 : Ls.length ≤ 1000) (h2 : Ls.flatten.length ≤ 1000000) : AF Tryz.prog f_slices_Concat_byte [.p (.sl 1 (catX Ls))] [] (Pure (bA Ls.flatten) []) := af_frz (slices_ConcatM Ls h1 h2) rfl

theorem crc_Seal (l : Bytes) (hl : l.length ≤ 900000) : AF Tryz.prog f_crc_Seal [bA l] [] (Pure (bA (sealB l)) []) := by
  have w := slices_Concat [l, leB 4 (sum l).toNat] (by simp) (by simp [leB_len]; omega)
  have e : [l, leB 4 (sum l).toNat].flatten = sealB l := by simp [sealB]
  rw [e] at w
  refine af_body hT F_crc_Seal rfl rfl N_crc_Seal rfl ?_
  refine aw_seq (aw_region hT ?_)
  refine aw_seq (aw_regionF (fun k => Nat.beq 4 k) hT ?_)
  refine callP (crc_Sum l (by omega)) ?_
  refine callP (crc_four (sum l).toNat) ?_
  refine ⟨⟨rfl, rfl⟩, ?_⟩
  refine callP w ?_
  refine aw_ret ?_
  exact retPick [] ⟨rfl, rfl⟩ rfl

/-- Is the sum there? -/
def wholeB (l : Bytes) : Bool := match decide (4 ≤ l.length) with
  | true => l.drop (l.length - 4) == leB 4 (sum (l.take (l.length - 4))).toNat
  | false => false
theorem bx_drop (l : Bytes) (n : Nat) : bx (l.drop n) = (bx l).drop n := by rw [bx, bx, List.map_drop]
theorem bx_take (l : Bytes) (n : Nat) : bx (l.take n) = (bx l).take n := by rw [bx, bx, List.map_take]

theorem crc_Whole (l : Bytes) (hl : l.length ≤ 1000000) : AF Tryz.prog f_crc_Whole [bA l] [] (Pure (bl (wholeB l)) []) := by
  have hbl := bx_len l
  refine af_body hT F_crc_Whole rfl rfl N_crc_Whole rfl ?_
  refine aw_seq (aw_region hT ?_)
  have hw : IntKind.i64.wrap (((bx l).length : Int) - 4) = (l.length : Int) - 4 := by rw [hbl, wrap64 _ (by omega) (by omega)]
  refine aw_cut ⟨⟨20, [(0, bA l), (3, i64 ((l.length : Int) - 4))]⟩, []⟩ True (aw_region hT ?_) (fun _ => ?_)
  · rw [← hw]
    exact ⟨wk_pick [] [0, 3] rfl, trivial⟩
  refine aw_seq ?_
  refine aw_draw [] [] hT follows_mixed (by rfl) ?_
  refine boolI (fun h => ?_) (fun h => ?_)
  · have h := of_decide_eq_true (show decide ((l.length : Int) - 4 ≥ 0) = true from h)
    have e1 : ((bx l).take ((l.length : Int) - 4).toNat).drop (0 : Int).toNat = bx (l.take (l.length - 4)) := by
      rw [show ((l.length : Int) - 4).toNat = l.length - 4 by omega, bx_take]; rfl
    have e2 : ((bx l).take (((bx l).length : Int)).toNat).drop ((l.length : Int) - 4).toNat = bx (l.drop (l.length - 4)) := by
      rw [show ((l.length : Int) - 4).toNat = l.length - 4 by omega, Int.toNat_natCast, List.take_length, bx_drop]
    have w1 : AF Tryz.prog f_crc_Sum [.p (.sl 1 (((bx l).take ((l.length : Int) - 4).toNat).drop (0 : Int).toNat))] [] (Pure (i64 ((sum (l.take (l.length - 4))).toNat : Int)) []) := by
      rw [e1]; exact crc_Sum _ (by rw [List.length_take]; omega)
    have w3 : AF Tryz.prog f_slices_Equal_byte [.p (.sl 1 (((bx l).take (((bx l).length : Int)).toNat).drop ((l.length : Int) - 4).toNat)), bA (leB 4 (sum (l.take (l.length - 4))).toNat)] [] (Pure (bl (l.drop (l.length - 4) == leB 4 (sum (l.take (l.length - 4))).toNat)) []) := by
      rw [e2]; exact slices_Equal _ _ (by rw [List.length_drop]; omega)
    have ew : wholeB l = (l.drop (l.length - 4) == leB 4 (sum (l.take (l.length - 4))).toNat) := by unfold wholeB; rw [decide_eq_true (show 4 ≤ l.length by omega)]
    refine ⟨⟨h, by omega, Int.le_refl _⟩, ?_⟩
    refine ⟨⟨Int.le_refl _, h, by omega⟩, ?_⟩
    refine ⟨_, af_at w1 _ rfl rfl, ?_⟩
    refine ⟨_, af_at (crc_four _) _ rfl rfl, ?_⟩
    refine ⟨_, af_at w3 _ rfl rfl, ?_⟩
    refine aw_ret ?_
    rw [ew]
    exact retPick [] ⟨rfl, rfl⟩ rfl
  · have h := of_decide_eq_false (show decide ((l.length : Int) - 4 ≥ 0) = false from h)
    have ew : wholeB l = false := by unfold wholeB; rw [decide_eq_false (by omega)]
    refine aw_ret ?_
    rw [ew]
    exact retPick [] ⟨rfl, rfl⟩ rfl
end Go.Proofs.YtinfbclgkghgaaaGreat.AL

/- The layer 07 (block): numbers; what is laid into a sector. -/
namespace Go.Proofs.YtinfbclgkghgaaaGreat.AL
open Go Go.Proofs Go.Proofs.YtinfbclgkghgaaaGreat.AL.Crc

theorem ixg {l : List Int} {i : Nat} {c : Int} (h : l[i]? = some c) : (ix l)[i]? = some [.raw (.int .i64 c)] := by rw [ix, List.getElem?_map, h]; rfl
theorem ixl (l : List Int) : (ix l).length = l.length := by simp [ix]
def wordB (n : Int) : Bool := decide (0 ≤ n) && decide (n ≤ 4294967295)

theorem block_words (l : List Int) (hl : l.length ≤ 1000000) : AF Tryz.prog f_block_words [.p (.sl 1 (ix l))] [] (Pure (bl (l.all wordB)) []) := by
  refine af_body hT F_block_words rfl rfl N_block_words rfl ?_
  refine aw_seq (aw_region hT ?_)
  refine aw_cut ⟨⟨18, []⟩, []⟩ (l.all wordB = true) (aw_seq (aw_region hT ?_)) ?_
  · refine aw_block ?_
    refine aw_loopW (fun n s => ∃ (i : Nat) (j : Int), n + i = l.length ∧ j = i ∧ (l.take i).all wordB = true ∧ s = ⟨⟨18, [(5, .p (.sl 1 (ix l))), (6, i64 l.length), (7, i64 j)]⟩, []⟩) l.length ⟨⟨18, _⟩, []⟩ (wk_pick [] [5, 6, 7] rfl) ⟨0, 0, rfl, rfl, rfl, by rw [← ixl l]; rfl⟩ ?_
    rintro n s ⟨i, j, hni, rfl, ht, rfl⟩
    refine aw_seq (aw_region hT ?_)
    refine aw_seq (aw_cond (boolI (fun h => ?_) (fun h => ?_)))
    · have hi : i < l.length := by
        have := of_decide_eq_true (show decide ((i : Int) < (l.length : Int)) = true from h)
        omega
      have hx := List.getElem?_eq_getElem hi
      have hmem := List.getElem_mem hi
      have htk : l.take (i + 1) = l.take i ++ [l[i]] := by rw [List.take_add_one, hx]; rfl
      generalize l[i] = c at hx htk hmem
      have hxp : (ix l)[((i : Nat) : Int).toNat]? = some [.raw (.int .i64 c)] := by rw [Int.toNat_natCast]; exact ixg hx
      have bad : wordB c = false → l.all wordB = false := fun h => by
        rw [List.all_eq_false]; exact ⟨c, hmem, by rw [h]; simp⟩
      refine aw_skip ?_
      refine aw_cut ⟨⟨18, [(5, .p (.sl 1 (ix l))), (6, i64 l.length), (7, i64 i)]⟩, []⟩ (wordB c = true) (aw_block (aw_seq (aw_region hT ?_))) ?_
      · refine ⟨Int.natCast_nonneg _, optI hxp ?_⟩
        refine aw_seq (aw_region hT ?_)
        refine boolI (fun h2 => ?_) (fun h2 => ?_)
        · have h2 := of_decide_eq_true (show decide (c < 0) = true from h2)
          refine aw_cond ?_
          refine aw_seq (aw_region hT ?_)
          refine aw_ret ?_
          rw [bad (by unfold wordB; rw [decide_eq_false (by omega)]; rfl)]
          exact retPick [] ⟨rfl, rfl⟩ rfl
        · have h2 := of_decide_eq_false (show decide (c < 0) = false from h2)
          refine aw_cond (boolI (fun h3 => ?_) (fun h3 => ?_))
          · have h3 := of_decide_eq_true (show decide (c > 4294967295) = true from h3)
            refine aw_seq (aw_region hT ?_)
            refine aw_ret ?_
            rw [bad (by unfold wordB; rw [decide_eq_false (show ¬ c ≤ 4294967295 by omega), Bool.and_false])]
            exact retPick [] ⟨rfl, rfl⟩ rfl
          · have h3 := of_decide_eq_false (show decide (c > 4294967295) = false from h3)
            exact aw_skip ⟨wk_pick [] [5, 6, 7] rfl, by unfold wordB; rw [decide_eq_true (show 0 ≤ c by omega), decide_eq_true (show c ≤ 4294967295 by omega)]; rfl⟩
      · intro hc
        refine aw_region hT ?_
        refine ⟨n - 1, by omega, _, wk_pick [] [5, 6, 7] rfl, i + 1, IntKind.i64.wrap ((i : Int) + 1), by omega, ?_, ?_, rfl⟩
        · rw [wrap64 _ (by omega) (by omega)]; rfl
        · rw [htk, List.all_append, ht]; simp [hc]
    · have hi : ¬ (i : Int) < (l.length : Int) := of_decide_eq_false h
      have hil : i = l.length := by omega
      subst hil
      rw [List.take_length] at ht
      refine aw_exit ?_
      exact ⟨wk_pick [] [] rfl, ht⟩
  · intro h
    rw [h]
    refine aw_seq (aw_region hT ?_)
    refine aw_ret ?_
    exact retPick [] ⟨rfl, rfl⟩ rfl

structure Blk where
  kind : Int
  vol : Int
  addr : Int
  epoch : Int
  seq : Int
  body : Bytes
  deriving DecidableEq
abbrev Blk.pv (b : Blk) : List PV := [.raw (.int .i64 b.kind), .raw (.int .i64 b.vol), .raw (.int .i64 b.addr), .raw (.int .i64 b.epoch), .raw (.int .i64 b.seq), bP b.body]
abbrev Blk.av (b : Blk) : AV := .agg [i64 b.kind, i64 b.vol, i64 b.addr, i64 b.epoch, i64 b.seq, bA b.body]
def Blk.nums (b : Blk) : Bool := decide (b.kind ≥ 1) && decide (b.kind ≤ 4) && [b.vol, b.addr, b.epoch, b.seq].all wordB

theorem block_numbers (b : Blk) : AF Tryz.prog f_block_numbers [b.av] [] (Pure (bl b.nums) []) := by
  refine af_body hT F_block_numbers rfl rfl N_block_numbers rfl ?_
  refine aw_seq (aw_region hT ?_)
  refine aw_wk (wk_boxL 0 b.pv rfl rfl) ?_
  unfold Blk.nums
  refine aw_seq (aw_regionF (fun k => Nat.beq 17 k) hT ?_)
  refine boolI (fun h1 => ?_) (fun h1 => ?_)
  · rw [show decide (b.kind ≥ 1) = true from h1]
    refine boolI (fun h2 => ?_) (fun h2 => ?_)
    · rw [show decide (b.kind ≤ 4) = true from h2]
      refine ⟨⟨rfl, rfl⟩, ?_⟩
      refine callP (af_at (block_words [b.vol, b.addr, b.epoch, b.seq] (by simp)) _ rfl rfl) ?_
      refine aw_ret ?_
      exact retPick [] ⟨rfl, rfl⟩ rfl
    · rw [show decide (b.kind ≤ 4) = false from h2]
      refine aw_ret ?_
      exact retPick [] ⟨rfl, rfl⟩ rfl
  · rw [show decide (b.kind ≥ 1) = false from h1]
    refine aw_ret ?_
    exact retPick [] ⟨rfl, rfl⟩ rfl

def layB (w : Nat) (l : List Nat) : Bytes := l.flatMap (leB w)
theorem layB_len (w : Nat) (l : List Nat) : (layB w l).length = w * l.length := by
  unfold layB
  induction l with
  | nil => simp
  | cons n r ih => rw [List.flatMap_cons, List.length_append, leB_len, ih, List.length_cons, Nat.mul_succ]; omega
theorem layB_snoc (w : Nat) (l : List Nat) (n : Nat) : layB w (l ++ [n]) = layB w l ++ leB w n := by unfold layB; simp
def nx (l : List Nat) : List (List PV) := l.map fun n : Nat => [.raw (.int .i64 (n : Int))]
theorem nx_len (l : List Nat) : (nx l).length = l.length := by simp [nx]
theorem nx_get {l : List Nat} {i : Nat} {c : Nat} (h : l[i]? = some c) : (nx l)[i]? = some [.raw (.int .i64 (c : Int))] := by rw [nx, List.getElem?_map, h]; rfl

theorem block_lay (xs : List (List PV)) (w : Nat) (l : List Nat) (hx : xs.length ≤ 1000) (hw : w ≤ 8) (hl : l.length ≤ 100) :
    AFm Tryz.prog 0 f_block_lay [.msl 0 1 0 xs.length, i64 w, .p (.sl 1 (nx l))] [.row t_u8 1 xs] (Pure (.msl 0 1 0 (xs ++ bx (layB w l)).length) [.row t_u8 1 (xs ++ bx (layB w l))]) := by
  refine af_bodyM 0 hT F_block_lay rfl rfl N_block_lay rfl rfl ?_
  refine aw_seq (aw_region hT ?_)
  refine aw_seq (aw_seq (aw_region hT ?_))
  refine aw_block ?_
  refine aw_loopW (fun m s => ∃ (i : Nat) (j : Int) (L : List (List PV)), m + i = l.length ∧ j = i ∧ L = xs ++ bx (layB w (l.take i)) ∧ s = ⟨⟨28, [(0, .msl 0 1 0 L.length), (1, i64 w), (9, .p (.sl 1 (nx l))), (10, i64 l.length), (11, i64 j)]⟩, [.row t_u8 1 L]⟩) l.length ⟨⟨28, _⟩, [_]⟩ (wk_pick [0] [0, 1, 9, 10, 11] rfl) ⟨0, 0, xs, rfl, rfl, by simp [layB, bx], by rw [← nx_len l]; rfl⟩ ?_
  rintro m s ⟨i, j, L, hmi, rfl, hL, rfl⟩
  have hLl : L.length ≤ 2000 := by
    have h8 : w * (l.take i).length ≤ 8 * 100 := Nat.mul_le_mul hw (by rw [List.length_take]; omega)
    rw [hL, List.length_append, bx_len, layB_len]; omega
  refine aw_seq (aw_region hT ?_)
  refine aw_seq (aw_cond (boolI (fun h => ?_) (fun h => ?_)))
  · have hi : i < l.length := by
      have := of_decide_eq_true (show decide ((i : Int) < (l.length : Int)) = true from h)
      omega
    have hx := List.getElem?_eq_getElem hi
    have htk : l.take (i + 1) = l.take i ++ [l[i]] := by rw [List.take_add_one, hx]; rfl
    generalize l[i] = n at hx htk
    have hxp : (nx l)[((i : Nat) : Int).toNat]? = some [.raw (.int .i64 (n : Int))] := by rw [Int.toNat_natCast]; exact nx_get hx
    refine aw_skip ?_
    refine aw_cut ⟨⟨28, [(0, .msl 0 1 0 (L ++ bx (leB w n)).length), (1, i64 w), (9, .p (.sl 1 (nx l))), (10, i64 l.length), (11, i64 i)]⟩, [.row t_u8 1 (L ++ bx (leB w n))]⟩ True (aw_block (aw_seq (aw_region hT ?_))) (fun _ => ?_)
    · refine ⟨Int.natCast_nonneg _, optI hxp ?_⟩
      refine aw_seq (aw_region hT ?_)
      refine aw_block ?_
      refine aw_loopW (fun m s => ∃ (k : Nat) (j v : Int) (M : List (List PV)), m + k = w ∧ j = k ∧ v = ((n / 256 ^ k : Nat) : Int) ∧ M = L ++ bx (leB k n) ∧ s = ⟨⟨28, [(0, .msl 0 1 0 M.length), (1, i64 w), (8, i64 v), (9, .p (.sl 1 (nx l))), (10, i64 l.length), (11, i64 i), (15, i64 w), (16, i64 j)]⟩, [.row t_u8 1 M]⟩) w ⟨⟨28, _⟩, [_]⟩ (wk_pick [0] [0, 1, 8, 9, 10, 11, 15, 16] rfl) ⟨0, 0, _, L, rfl, rfl, by rw [Nat.pow_zero, Nat.div_one], by simp [leB, bx], rfl⟩ ?_
      rintro q s ⟨k, j, v, M, hmk, rfl, rfl, hM, rfl⟩
      have hMl : M.length ≤ 2010 := by rw [hM, List.length_append, bx_len, leB_len]; omega
      refine aw_seq (aw_region hT ?_)
      refine aw_seq (aw_cond (boolI (fun h => ?_) (fun h => ?_)))
      · have hk : k < w := by
          have := of_decide_eq_true (show decide ((k : Int) < (w : Int)) = true from h)
          omega
        refine aw_skip ?_
        refine aw_cut ⟨⟨28, [(0, .msl 0 1 0 (M ++ [[u8 (UInt8.ofNat (n / 256 ^ k))]]).length), (1, i64 w), (8, i64 ((n / 256 ^ (k + 1) : Nat) : Int)), (9, .p (.sl 1 (nx l))), (10, i64 l.length), (11, i64 i), (15, i64 w), (16, i64 k)]⟩, [.row t_u8 1 (M ++ [[u8 (UInt8.ofNat (n / 256 ^ k))]])]⟩ True (aw_block (aw_seq (aw_regionF (fun k => Nat.beq 3 k) hT ?_))) (fun _ => ?_)
        · refine ⟨⟨rfl, rfl⟩, ?_⟩
          refine ⟨rfl, ⟨?_, ?_⟩, ?_⟩
          · show (M.length + 1) * 1 ≤ 140737488355328
            omega
          · show M.length + 1 ≤ 140737488355328
            omega
          refine aw_region hT ?_
          rw [show u8 (UInt8.ofNat (n / 256 ^ k)) = PV.raw (.int .u8 (IntKind.u8.wrap ((n / 256 ^ k : Nat) : Int))) by rw [u8_wrapN], pow_div, ← shr8]
          exact ⟨wk_pick [1] [0, 1, 8, 9, 10, 11, 15, 16] rfl, trivial⟩
        · refine aw_region hT ?_
          refine ⟨q - 1, by omega, _, wk_pick [0] [0, 1, 8, 9, 10, 11, 15, 16] rfl, k + 1, IntKind.i64.wrap ((k : Int) + 1), _, _, by omega, ?_, rfl, by rw [hM, leB_snoc, bx_snoc, List.append_assoc], rfl⟩
          rw [wrap64 _ (by omega) (by omega)]; rfl
      · have hk : ¬ (k : Int) < (w : Int) := of_decide_eq_false h
        have hkw : k = w := by omega
        subst hkw
        refine aw_exit ?_
        rw [← hM]
        exact ⟨wk_pick [0] [0, 1, 9, 10, 11] rfl, trivial⟩
    · refine aw_region hT ?_
      refine ⟨m - 1, by omega, _, wk_pick [0] [0, 1, 9, 10, 11] rfl, i + 1, IntKind.i64.wrap ((i : Int) + 1), _, by omega, ?_, by rw [hL, htk, layB_snoc, bx_app, List.append_assoc], rfl⟩
      rw [wrap64 _ (by omega) (by omega)]; rfl
  · have hi : ¬ (i : Int) < (l.length : Int) := of_decide_eq_false h
    have hil : i = l.length := by omega
    subst hil
    rw [List.take_length] at hL
    refine aw_exit ?_
    refine aw_seq (aw_region hT ?_)
    refine aw_ret ?_
    rw [← hL]
    exact retPick [0] ⟨rfl, rfl⟩ rfl
end Go.Proofs.YtinfbclgkghgaaaGreat.AL

/- The layer 07 (block): a sector is made. -/
namespace Go.Proofs.YtinfbclgkghgaaaGreat.AL
open Go Go.Proofs Go.Proofs.YtinfbclgkghgaaaGreat.AL.Crc

def Blk.head (b : Blk) : Bytes := [81, 77, UInt8.ofNat b.kind.toNat, 0] ++ layB 4 [b.vol.toNat, b.addr.toNat, b.epoch.toNat, b.seq.toNat] ++ layB 2 [b.body.length, 0]
def Blk.all (b : Blk) : Bytes := b.head ++ b.body ++ List.replicate (228 - b.body.length) 0
def Blk.sld (b : Blk) : Bytes × Int := match b.nums with
  | false => ([], 1)
  | true => match decide (b.body.length > 228) with
    | true => ([], 2)
    | false => (sealB b.all, 0)
theorem head_len (b : Blk) : b.head.length = 24 := by unfold Blk.head; rw [List.length_append, List.length_append, layB_len, layB_len]; rfl
theorem all_len (b : Blk) (h : b.body.length ≤ 228) : b.all.length = 252 := by unfold Blk.all; rw [List.length_append, List.length_append, head_len, List.length_replicate]; omega

/-- A frozen row, by its own name. -/
theorem wk_frzE {m : Nat} {s : St} (i b n : Nat) {t : TypeId} {xs ys : List (List PV)} (e : xs = ys) (hn : n = xs.length) (hb : s.H[b]? = some (.row t 1 xs)) (hi : look s.fr.l i = some (.msl b 1 0 n)) :
    Wk m s ⟨⟨s.fr.n, (i, .p (.sl 1 ys)) :: s.fr.l⟩, s.H.set b .dead⟩ := by
  subst hn
  have := wk_frz1 (m := m) (s := s) i b hb hi (by omega)
  rw [List.drop_zero, List.take_length] at this
  subst e
  exact this

set_option maxRecDepth 20000 in
theorem block_Seal_ok (k v a e q : Nat) (body : Bytes) (hn : (Blk.mk k v a e q body).nums = true) (hb : body.length ≤ 228) :
    AF Tryz.prog f_block_Seal [(Blk.mk k v a e q body).av] [] (Pure (.tup [bA (sealB (Blk.mk k v a e q body).all), i64 0]) []) := by
  have hbl := bx_len body
  have hall := all_len (Blk.mk k v a e q body) hb
  refine af_body hT F_block_Seal rfl rfl N_block_Seal rfl ?_
  refine aw_seq (aw_region hT ?_)
  refine aw_wk (wk_boxL 0 (Blk.mk k v a e q body).pv rfl rfl) ?_
  have wn := block_numbers (Blk.mk k v a e q body)
  rw [hn] at wn
  refine aw_cut ⟨⟨46, [(1, .p (.box (Blk.mk k v a e q body).pv))]⟩, []⟩ True (aw_block (aw_seq (aw_region hT ?_))) (fun _ => ?_)
  · refine callP (af_at wn _ rfl rfl) ?_
    refine aw_cond ?_
    refine aw_seq (aw_region hT ?_)
    refine aw_cond (boolI (fun h => ?_) (fun h => ?_))
    · have h := of_decide_eq_true (show decide (((bx body).length : Int) > 228) = true from h)
      omega
    · exact aw_skip ⟨wk_pick [] [1] rfl, trivial⟩
  have l1 := block_lay [[u8 81], [u8 77], [.raw (.int .u8 (IntKind.u8.wrap (k : Int)))], [u8 0]] 4 [v, a, e, q] (by simp) (by omega) (by simp)
  generalize hM : [[u8 81], [u8 77], [PV.raw (.int .u8 (IntKind.u8.wrap (k : Int)))], [u8 0]] ++ bx (layB 4 [v, a, e, q]) = M at l1
  have hMl : M.length = 20 := by rw [← hM, List.length_append, bx_len, layB_len]; rfl
  have l2 := block_lay M 2 [(bx body).length, 0] (by omega) (by omega) (by simp)
  have hH : M ++ bx (layB 2 [(bx body).length, 0]) = bx (Blk.mk k v a e q body).head := by
    unfold Blk.head
    rw [hbl, bx_app, bx_app, ← hM, u8_wrapN]
    rfl
  have hhl := head_len (Blk.mk k v a e q body)
  refine aw_cut ⟨⟨46, [(1, .p (.box (Blk.mk k v a e q body).pv)), (4, .msl 0 1 0 M.length)]⟩, [.row t_u8 1 M]⟩ True (aw_regionF (fun k => Nat.beq 12 k) hT ?_) (fun _ => ?_)
  · refine ⟨⟨rfl, rfl⟩, ?_⟩
    refine callP (af_in [0] l1 rfl rfl rfl) ?_
    exact ⟨wk_pick [1] [1, 4] rfl, trivial⟩
  refine aw_cut ⟨⟨46, [(1, .p (.box (Blk.mk k v a e q body).pv)), (4, .p (.sl 1 (bx (Blk.mk k v a e q body).head)))]⟩, []⟩ True (aw_regionF (fun k => Nat.beq 4 k) hT ?_) (fun _ => ?_)
  · refine ⟨⟨rfl, rfl⟩, ?_⟩
    refine callP (af_in [0] l2 rfl rfl rfl) ?_
    refine ⟨Wk.trans (wk_pick [1] [1, 4] rfl) (Wk.trans (wk_frzE 4 0 _ hH rfl rfl rfl) (wk_pick [] [1, 4] rfl)), trivial⟩
  generalize hA : (Blk.mk k v a e q body).all = A at hall
  have hcopy : setL (setL (List.replicate 252 [u8 0]) 0 (bx (Blk.mk k v a e q body).head)) 24 (bx body) = bx A := by
    rw [← hA]
    unfold Blk.all
    rw [bx_app, bx_app]
    have h1 : (bx (Blk.mk k v a e q body).head).length = 24 := by rw [bx_len, hhl]
    have e1 : setL (List.replicate 252 [u8 0]) 0 (bx (Blk.mk k v a e q body).head) = bx (Blk.mk k v a e q body).head ++ List.replicate 228 [u8 0] := by
      unfold setL; rw [h1, List.take_zero, List.drop_replicate, List.nil_append]
    rw [e1]
    unfold setL
    rw [List.take_append_of_le_length (by omega), List.take_of_length_le (by omega), List.drop_append, List.drop_replicate, h1, hbl]
    rw [List.drop_eq_nil_of_le (by omega), List.nil_append]
    rw [show (228 : Nat) - (24 + body.length - 24) = 228 - body.length by omega]
    congr 1
    unfold bx; rw [List.map_replicate]
  refine aw_seq (aw_region hT ?_)
  refine ⟨⟨rfl, by omega, by decide, by omega⟩, ?_⟩
  refine aw_cut ⟨⟨46, [(1, .p (.box (Blk.mk k v a e q body).pv)), (5, .msl 0 1 0 252)]⟩, [.row t_u8 1 (setL (List.replicate 252 [u8 0]) 0 (bx (Blk.mk k v a e q body).head))]⟩ True (aw_region hT ?_) (fun _ => ?_)
  · have h1 : (bx (Blk.mk k v a e q body).head).length = 24 := by rw [bx_len, hhl]
    refine ⟨⟨?_, ?_⟩, ?_⟩
    · show 0 + 252 ≤ (List.replicate 252 _).length
      rw [List.length_replicate]; omega
    · show (bx (Blk.mk k v a e q body).head).length ≤ 252
      omega
    exact ⟨wk_pick [0] [1, 5] rfl, trivial⟩
  have hl0 : (setL (List.replicate 252 [u8 0]) 0 (bx (Blk.mk k v a e q body).head)).length = 252 := by
    rw [setL_length (by rw [List.length_replicate, bx_len, hhl]; omega), List.length_replicate]
  generalize hS : setL (List.replicate 252 [u8 0]) 0 (bx (Blk.mk k v a e q body).head) = S at hcopy hl0
  refine aw_cut ⟨⟨46, [(5, .p (.sl 1 (bx A)))]⟩, []⟩ True ?_ (fun _ => ?_)
  · refine aw_draw [4] [] hT follows_mixed (by rfl) ?_
    refine ⟨⟨by omega, by decide, Int.le_refl _⟩, ?_⟩
    refine ⟨⟨?_, ?_⟩, ?_⟩
    · show 0 + 24 + (252 - 24) ≤ S.length
      omega
    · show (bx body).length ≤ 252 - 24
      omega
    have hSl : (setL S 24 (bx body)).length = 252 := by rw [setL_length (by omega), hl0]
    exact ⟨Wk.trans (wk_frzE 5 0 252 hcopy hSl.symm rfl rfl) (wk_pick [] [5] rfl), trivial⟩
  · refine aw_seq (aw_region hT ?_)
    refine callP (af_at (crc_Seal A (by omega)) _ rfl rfl) ?_
    refine aw_ret ?_
    exact retPick [] ⟨rfl, rfl⟩ rfl
end Go.Proofs.YtinfbclgkghgaaaGreat.AL

/- The layer 07 (block): a sector is made, or not; numbers of bytes. -/
namespace Go.Proofs.YtinfbclgkghgaaaGreat.AL
open Go Go.Proofs Go.Proofs.YtinfbclgkghgaaaGreat.AL.Crc

theorem nums_nat {b : Blk} (h : b.nums = true) : ∃ k v a e q : Nat, b = ⟨k, v, a, e, q, b.body⟩ ∧ 1 ≤ k ∧ k ≤ 4 ∧ v ≤ 4294967295 ∧ a ≤ 4294967295 ∧ e ≤ 4294967295 ∧ q ≤ 4294967295 := by
  obtain ⟨k, v, a, e, q, body⟩ := b
  unfold Blk.nums wordB at h
  simp only [List.all_cons, List.all_nil, Bool.and_true, Bool.and_eq_true, decide_eq_true_eq] at h
  obtain ⟨⟨k1, k4⟩, ⟨v0, v1⟩, ⟨a0, a1⟩, ⟨e0, e1⟩, q0, q1⟩ := h
  refine ⟨k.toNat, v.toNat, a.toNat, e.toNat, q.toNat, ?_, by omega, by omega, by omega, by omega, by omega, by omega⟩
  rw [Int.toNat_of_nonneg (by omega), Int.toNat_of_nonneg v0, Int.toNat_of_nonneg a0, Int.toNat_of_nonneg e0, Int.toNat_of_nonneg q0]

theorem block_Seal (b : Blk) : AF Tryz.prog f_block_Seal [b.av] [] (Pure (.tup [bA b.sld.1, i64 b.sld.2]) []) := by
  cases hn : b.nums with
  | true =>
    cases hl : decide (b.body.length > 228) with
    | false =>
      have hl := of_decide_eq_false hl
      have e : b.sld = (sealB b.all, 0) := by unfold Blk.sld; rw [hn, decide_eq_false hl]
      obtain ⟨k, v, a, e', q, hb, _⟩ := nums_nat hn
      rw [e]
      rw [hb] at hn ⊢
      exact block_Seal_ok k v a e' q b.body hn (by omega)
    | true =>
      have e : b.sld = ([], 2) := by unfold Blk.sld; rw [hn, hl]
      have hbl := bx_len b.body
      have hl := of_decide_eq_true hl
      have wn := block_numbers b
      rw [hn] at wn
      rw [e]
      refine af_body hT F_block_Seal rfl rfl N_block_Seal rfl ?_
      refine aw_seq (aw_region hT ?_)
      refine aw_wk (wk_boxL 0 b.pv rfl rfl) ?_
      refine aw_seq (aw_block (aw_seq (aw_region hT ?_)))
      refine callP (af_at wn _ rfl rfl) ?_
      refine aw_cond ?_
      refine aw_seq (aw_region hT ?_)
      refine aw_cond (boolI (fun h => ?_) (fun h => ?_))
      · refine aw_seq (aw_region hT ?_)
        refine aw_wk (wk_nilP 2 1 rfl) ?_
        refine aw_ret ?_
        exact retPick [] ⟨rfl, rfl⟩ rfl
      · have h := of_decide_eq_false (show decide (((bx b.body).length : Int) > 228) = false from h)
        omega
  | false =>
    have e : b.sld = ([], 1) := by unfold Blk.sld; rw [hn]
    have wn := block_numbers b
    rw [hn] at wn
    rw [e]
    refine af_body hT F_block_Seal rfl rfl N_block_Seal rfl ?_
    refine aw_seq (aw_region hT ?_)
    refine aw_wk (wk_boxL 0 b.pv rfl rfl) ?_
    refine aw_seq (aw_block (aw_seq (aw_region hT ?_)))
    refine callP (af_at wn _ rfl rfl) ?_
    refine aw_cond ?_
    refine aw_seq (aw_region hT ?_)
    refine aw_wk (wk_nilP 2 1 rfl) ?_
    refine aw_ret ?_
    exact retPick [] ⟨rfl, rfl⟩ rfl

/-- The number that bytes are, the lowest one first. -/
def lenum : Bytes → Nat
  | [] => 0
  | c :: r => lenum r * 256 + c.toNat
theorem lenum_lt : ∀ l : Bytes, lenum l < 256 ^ l.length
  | [] => by simp [lenum]
  | c :: r => by
    have ih := lenum_lt r
    have hc := c.toNat_lt
    rw [lenum, List.length_cons, Nat.pow_succ]
    omega
theorem or_byte (n c : Nat) (hn : n < 4294967296) (hc : c < 256) : IntKind.i64.wrap ((BitVec.ofInt 64 (IntKind.i64.wrap ((n : Int) * 2 ^ (min ((8 : Nat) : Int).toNat 64))) ||| BitVec.ofInt 64 (IntKind.i64.wrap (c : Int))).toNat : Int) = ((n * 256 + c : Nat) : Int) := by
  have e1 : IntKind.i64.wrap ((n : Int) * 2 ^ (min ((8 : Nat) : Int).toNat 64)) = ((n * 256 : Nat) : Int) := by
    show IntKind.i64.wrap ((n : Int) * 256) = _
    rw [wrap64 _ (by omega) (by omega)]; omega
  rw [e1, wrap64 (c : Int) (by omega) (by omega)]
  have e2 : (BitVec.ofInt 64 ((n * 256 : Nat) : Int) ||| BitVec.ofInt 64 (c : Int)).toNat = n * 256 + c := by
    rw [BitVec.toNat_or, BitVec.toNat_ofInt, BitVec.toNat_ofInt]
    rw [show (((n * 256 : Nat) : Int) % ((2 ^ 64 : Nat) : Int)).toNat = n * 256 by omega, show ((c : Int) % ((2 ^ 64 : Nat) : Int)).toNat = c by omega]
    have := Nat.shiftLeft_add_eq_or_of_lt (show c < 2 ^ 8 from hc) n
    rw [Nat.shiftLeft_eq] at this
    exact this.symm
  rw [e2, wrap64 _ (by omega) (by omega)]

def numB (s : Bytes) (at_ w : Nat) : Nat := lenum ((s.drop at_).take w)
theorem block_number (s : Bytes) (at_ w : Nat) (hw : w ≤ 4) (hs : at_ + w ≤ s.length) (hl : s.length ≤ 1000000) : AF Tryz.prog f_block_number [bA s, i64 at_, i64 w] [] (Pure (i64 (numB s at_ w : Nat)) []) := by
  refine af_body hT F_block_number rfl rfl N_block_number rfl ?_
  refine aw_seq (aw_region hT ?_)
  refine aw_seq (aw_region hT ?_)
  refine aw_seq (aw_seq (aw_region hT ?_))
  refine aw_block ?_
  refine aw_loopW (fun m st => ∃ (j v : Int), j = (m : Int) - 1 ∧ m ≤ w ∧ v = (lenum ((s.drop (at_ + m)).take (w - m)) : Nat) ∧ st = ⟨⟨26, [(0, bA s), (1, i64 at_), (7, i64 v), (8, i64 j)]⟩, []⟩) w ⟨⟨26, _⟩, []⟩ (wk_pick [] [0, 1, 7, 8] rfl) ⟨_, 0, ?_, Nat.le_refl _, by rw [Nat.sub_self, List.take_zero]; rfl, rfl⟩ ?_
  · exact wrap64 _ (by omega) (by omega)
  rintro m st ⟨j, v, hj, hm, hv, rfl⟩
  refine aw_seq (aw_seq (aw_region hT ?_))
  refine aw_cond (boolI (fun h => ?_) (fun h => ?_))
  · have h := of_decide_eq_true (show decide (j ≥ 0) = true from h)
    obtain ⟨m, rfl⟩ : ∃ k, m = k + 1 := ⟨m - 1, by omega⟩
    have hj : j = (m : Int) := by omega
    subst hj
    have hi : at_ + m < s.length := by omega
    have hx := List.getElem?_eq_getElem hi
    have hdr : s.drop (at_ + m) = s[at_ + m] :: s.drop (at_ + (m + 1)) := List.drop_eq_getElem_cons hi
    generalize s[at_ + m] = c at hx hdr
    have hc := c.toNat_lt
    have e1 : IntKind.i64.wrap ((at_ : Int) + (m : Int)) = ((at_ + m : Nat) : Int) := by rw [wrap64 _ (by omega) (by omega)]; omega
    have hxp : (bx s)[(IntKind.i64.wrap ((at_ : Int) + (m : Int))).toNat]? = some [u8 c] := by rw [e1, Int.toNat_natCast]; exact bx_get hx
    have hL : lenum ((s.drop (at_ + m)).take (w - m)) = lenum ((s.drop (at_ + (m + 1))).take (w - (m + 1))) * 256 + c.toNat := by
      rw [hdr, show w - m = (w - (m + 1)) + 1 by omega, List.take_succ_cons]; rfl
    have hlt := lenum_lt ((s.drop (at_ + (m + 1))).take (w - (m + 1)))
    have hpw : 256 ^ ((s.drop (at_ + (m + 1))).take (w - (m + 1))).length ≤ 256 ^ 3 := Nat.pow_le_pow_right (by omega) (by rw [List.length_take]; omega)
    subst hv
    generalize lenum ((s.drop (at_ + (m + 1))).take (w - (m + 1))) = n at hL hlt
    have ho := or_byte n c.toNat (by omega) hc
    refine aw_skip ?_
    refine aw_seq (aw_block (aw_region hT ?_))
    refine ⟨by rw [e1]; omega, optI hxp ?_⟩
    refine aw_region hT ?_
    refine ⟨m, by omega, _, wk_pick [] [0, 1, 7, 8] rfl, IntKind.i64.wrap ((m : Int) - 1), _, wrap64 _ (by omega) (by omega), by omega, ?_, rfl⟩
    rw [hL]; exact ho
  · have h := of_decide_eq_false (show decide (j ≥ 0) = false from h)
    have hm0 : m = 0 := by omega
    subst hm0
    refine aw_exit ?_
    refine aw_seq (aw_region hT ?_)
    refine aw_ret ?_
    rw [Nat.add_zero, Nat.sub_zero] at hv
    subst hv
    exact retPick [] ⟨rfl, rfl⟩ rfl
end Go.Proofs.YtinfbclgkghgaaaGreat.AL

/- The layer 09 (keep): what a hand has; a write that is read back. -/
namespace Go.Proofs.YtinfbclgkghgaaaGreat.AL
open Go Go.Proofs

theorem bytes_Equal (s t : Bytes) : AF Tryz.prog f_bytes_Equal [bA s, bA t] [] (Pure (bl (s == t)) []) := by
  refine af_body hT F_bytes_Equal rfl rfl N_bytes_Equal rfl ?_
  refine aw_seq (aw_region hT ?_)
  refine aw_seq (aw_region hT ?_)
  refine ⟨s, rfl, ?_⟩
  refine ⟨t, rfl, ?_⟩
  refine ⟨s == t, by rw [ByteArray.toList_eq, ByteArray.toList_eq], ?_⟩
  refine aw_ret ?_
  exact retPick [] ⟨rfl, rfl⟩ rfl

abbrev handC (m : Int) : ABlk := .cells t_keep_hand [.ref 1 0, i64 m]
abbrev hH (D : Dev) (m : Int) : List ABlk := [handC m, devC D 2 3, .row t_disk_cell 4 (cx D.cells), .row t_disk_write 2 (wx D.waits)]
abbrev putAV (a : Int) (s : Bytes) : AV := .agg [i64 a, bA s]

/-- Has a sector what it should? -/
def Dev.hhas (D : Dev) (a : Int) (s : Bytes) : (Bool × Int) × Dev := match (D.read a).1.2 == 20 with
  | true => ((false, 0), (D.read a).2)
  | false => (((D.read a).1.2 == 0 && (D.read a).1.1 == s, (D.read a).1.2), (D.read a).2)

theorem hhas_eq {D E : Dev} {a : Int} {s x1 : Bytes} {x2 : Int} (h : D.read a = ((x1, x2), E)) : D.hhas a s = (match x2 == 20 with | true => ((false, 0), E) | false => ((x2 == 0 && x1 == s, x2), E)) := by
  unfold Dev.hhas; rw [h]

theorem hand_has (D : Dev) (m a : Int) (s : Bytes) (b : Nat) (hD : D.Ok b) (hb : b ≤ 1000000) : AFm Tryz.prog 4 f_keep_hand_has [.ref 0 0, putAV a s] (hH D m) (Pure (.tup [bl (D.hhas a s).1.1, i64 (D.hhas a s).1.2]) (hH (D.hhas a s).2 m)) := by
  have big := hD.big hb
  have rd := disk_Read D a big.2.1 big.2.2.1 big.2.2.2
  rcases hr : D.read a with ⟨⟨x1, x2⟩, E⟩
  have he := hhas_eq (s := s) hr
  rw [hr] at rd
  generalize D.hhas a s = Z at he
  refine af_bodyM 4 hT F_keep_hand_has rfl rfl N_keep_hand_has rfl rfl ?_
  refine aw_seq (aw_region hT ?_)
  refine aw_wk (wk_boxL 4 [.raw (.int .i64 a), bP s] rfl rfl) ?_
  refine aw_cut ⟨⟨29, [(3, .p (.box [.raw (.int .i64 a), bP s])), (6, bA x1), (7, i64 x2)]⟩, hH E m⟩ True ?_ (fun _ => ?_)
  · refine aw_draw [6] [] hT follows_mixed (by rfl) ?_
    refine ⟨_, _, af_in [1, 2, 3] rd rfl rfl rfl, ?_⟩
    exact ⟨wk_pick [0, 1, 2, 3] [3, 6, 7] rfl, trivial⟩
  refine aw_seq (aw_seq (aw_region hT ?_))
  refine aw_cond (boolI (fun h => ?_) (fun h => ?_))
  · have h : (x2 == 20) = true := h
    rw [h] at he; subst he
    refine aw_seq (aw_region hT ?_)
    refine aw_ret ?_
    exact retPick [0, 1, 2, 3] ⟨rfl, rfl⟩ rfl
  · have h : (x2 == 20) = false := h
    rw [h] at he; subst he
    refine aw_skip ?_
    refine aw_seq (aw_region hT ?_)
    refine boolI (fun h2 => ?_) (fun h2 => ?_)
    · refine callP (af_at (bytes_Equal x1 s) _ rfl rfl) ?_
      refine aw_ret ?_
      have h2 : (x2 == 0) = true := h2
      rw [h2]
      exact retPick [0, 1, 2, 3] ⟨rfl, rfl⟩ rfl
    · refine aw_ret ?_
      have h2 : (x2 == 0) = false := h2
      rw [h2]
      exact retPick [0, 1, 2, 3] ⟨rfl, rfl⟩ rfl

/-- A write, a flush, and what is there then. -/
def Dev.once (D : Dev) (a : Int) (s : Bytes) : (Bool × Int) × Dev := match (D.write a s).1 != 0 with
  | true => ((false, (D.write a s).1), (D.write a s).2)
  | false => match (D.write a s).2.flush.1 != 0 with
    | true => ((false, (D.write a s).2.flush.1), (D.write a s).2.flush.2)
    | false => (D.write a s).2.flush.2.hhas a s

theorem hand_once (D : Dev) (m a : Int) (s : Bytes) (b : Nat) (hD : D.Ok b) (hb : b < 1000000) : AFm Tryz.prog 2 f_keep_hand_once [.ref 0 0, putAV a s] (hH D m) (Pure (.tup [bl (D.once a s).1.1, i64 (D.once a s).1.2]) (hH (D.once a s).2 m)) := by
  have big := hD.big (Nat.le_of_lt hb)
  have w1 := disk_Write D a s big.2.1
  have ok1 := hD.write a s
  have he : D.once a s = (match (D.write a s).1 != 0 with | true => ((false, (D.write a s).1), (D.write a s).2) | false => match (D.write a s).2.flush.1 != 0 with | true => ((false, (D.write a s).2.flush.1), (D.write a s).2.flush.2) | false => (D.write a s).2.flush.2.hhas a s) := rfl
  generalize D.write a s = W at he w1 ok1
  obtain ⟨e1, D1⟩ := W
  replace ok1 : D1.Ok (b + 1) := ok1
  have big1 := ok1.big (show b + 1 ≤ 1000000 by omega)
  have w2 := disk_Flush D1 big1.1 big1.2.1
  have ok2 := ok1.flush
  replace he : D.once a s = (match e1 != 0 with | true => ((false, e1), D1) | false => match D1.flush.1 != 0 with | true => ((false, D1.flush.1), D1.flush.2) | false => D1.flush.2.hhas a s) := he
  generalize D1.flush = W at he w2 ok2
  obtain ⟨e2, D2⟩ := W
  replace ok2 : D2.Ok (b + 1) := ok2
  have w3 := hand_has D2 m a s (b + 1) ok2 (by omega)
  replace he : D.once a s = (match e1 != 0 with | true => ((false, e1), D1) | false => match e2 != 0 with | true => ((false, e2), D2) | false => D2.hhas a s) := he
  generalize D2.hhas a s = Y at he w3
  obtain ⟨⟨y1, y2⟩, D3⟩ := Y
  generalize D.once a s = Z at he
  refine af_bodyM 2 hT F_keep_hand_once rfl rfl N_keep_hand_once rfl rfl ?_
  refine aw_seq (aw_region hT ?_)
  refine aw_wk (wk_boxL 4 [.raw (.int .i64 a), bP s] rfl rfl) ?_
  refine aw_cut ⟨⟨33, [(0, .ref 0 0), (3, .p (.box [.raw (.int .i64 a), bP s]))]⟩, hH D1 m⟩ (e1 = 0) (aw_seq ?_) ?_
  · refine aw_draw [8] [] hT follows_mixed (by rfl) ?_
    refine ⟨_, _, af_in [1, 2, 3] w1 rfl rfl rfl, ?_⟩
    refine aw_seq (aw_region hT ?_)
    refine aw_cond (boolI (fun h => ?_) (fun h => ?_))
    · have h : (e1 != 0) = true := h
      rw [h] at he; subst he
      refine aw_seq (aw_region hT ?_)
      refine aw_ret ?_
      exact retPick [0, 1, 5, 6] ⟨rfl, rfl⟩ rfl
    · have h : (e1 != 0) = false := h
      exact aw_skip ⟨wk_pick [0, 1, 5, 6] [0, 3] rfl, by simpa using h⟩
  rintro h1
  rw [show (e1 != 0) = false by simpa using h1] at he
  refine aw_cut ⟨⟨33, [(0, .ref 0 0), (3, .p (.box [.raw (.int .i64 a), bP s]))]⟩, hH D2 m⟩ (e2 = 0) (aw_seq (aw_region hT ?_)) ?_
  · refine callP (af_in [1, 2, 3] w2 rfl rfl rfl) ?_
    refine aw_seq (aw_region hT ?_)
    refine aw_cond (boolI (fun h => ?_) (fun h => ?_))
    · have h : (e2 != 0) = true := h
      rw [h] at he; subst he
      refine aw_seq (aw_region hT ?_)
      refine aw_ret ?_
      exact retPick [0, 1, 4, 5] ⟨rfl, rfl⟩ rfl
    · have h : (e2 != 0) = false := h
      exact aw_skip ⟨wk_pick [0, 1, 4, 5] [0, 3] rfl, by simpa using h⟩
  rintro h2
  rw [show (e2 != 0) = false by simpa using h2] at he
  subst he
  refine aw_seq (aw_region hT ?_)
  refine callP (af_in [0, 1, 2, 3] w3 rfl rfl rfl) ?_
  refine aw_ret ?_
  exact retPick [0, 1, 2, 3] ⟨rfl, rfl⟩ rfl
end Go.Proofs.YtinfbclgkghgaaaGreat.AL

/- The layer 07 (block): a sector is opened. -/
namespace Go.Proofs.YtinfbclgkghgaaaGreat.AL
open Go Go.Proofs Go.Proofs.YtinfbclgkghgaaaGreat.AL.Crc

def Blk.zero : Blk := ⟨0, 0, 0, 0, 0, []⟩
/-- The block that bytes would be. -/
def blkOf (s : Bytes) : Blk := ⟨((s.getD 2 0).toNat : Int), (numB s 4 4 : Nat), (numB s 8 4 : Nat), (numB s 12 4 : Nat), (numB s 16 4 : Nat), (s.drop 24).take (numB s 20 2)⟩
def openB (s : Bytes) : Blk × Int := match decide (s.length = 256) with
  | false => (Blk.zero, 1)
  | true => match !(wholeB s) || decide ((numB s 20 2 : Int) > 228) with
    | true => (Blk.zero, 7)
    | false => match (blkOf s).sld.2 != 0 || !(s == (blkOf s).sld.1) with
      | true => (Blk.zero, 7)
      | false => (blkOf s, 0)
abbrev zeroB : List AV := [i64 0, i64 0, i64 0, i64 0, i64 0, .p (.raw (.slice none 0 0))]
theorem less_zeroB : LessCL zeroB [i64 0, i64 0, i64 0, i64 0, i64 0, bA []] := ⟨.inl rfl, .inl rfl, .inl rfl, .inl rfl, .inl rfl, .inr (.inr (.inr ⟨1, rfl, rfl⟩)), trivial⟩

set_option maxRecDepth 20000 in
theorem block_Open (s : Bytes) (hl : s.length ≤ 1000000) : AF Tryz.prog f_block_Open [bA s] [] (Pure (.tup [(openB s).1.av, i64 (openB s).2]) []) := by
  have hbl := bx_len s
  refine af_body hT F_block_Open rfl rfl N_block_Open rfl ?_
  refine aw_seq (aw_region hT ?_)
  refine aw_cut ⟨⟨56, [(0, bA s), (2, .ref 0 0)]⟩, [.cells t_api_Block zeroB]⟩ (s.length = 256) (aw_seq (aw_region hT ?_)) ?_
  · refine aw_cond (boolI (fun h => ?_) (fun h => ?_))
    · have h : (((bx s).length : Int) != 256) = true := h
      have hne : s.length ≠ 256 := by rw [hbl] at h; intro e; rw [e] at h; simp at h
      have eo : openB s = (Blk.zero, 1) := by unfold openB; rw [decide_eq_false hne]
      refine aw_seq (aw_region hT ?_)
      refine aw_wk (wk_cells 0 [i64 0, i64 0, i64 0, i64 0, i64 0, bA []] rfl less_zeroB) ?_
      refine aw_ret ?_
      rw [eo]
      exact retPick [] ⟨rfl, rfl⟩ rfl
    · have h : (((bx s).length : Int) != 256) = false := h
      have he : s.length = 256 := by rw [hbl] at h; have : (s.length : Int) = 256 := by simpa using h; 
                                     omega
      exact aw_skip ⟨wk_pick [0] [0, 2] rfl, he⟩
  intro h256
  have hd : decide (s.length = 256) = true := decide_eq_true h256
  have w20 := block_number s 20 2 (by omega) (by omega) (by omega)
  have w4 := block_number s 4 4 (by omega) (by omega) (by omega)
  have w8 := block_number s 8 4 (by omega) (by omega) (by omega)
  have w12 := block_number s 12 4 (by omega) (by omega) (by omega)
  have w16 := block_number s 16 4 (by omega) (by omega) (by omega)
  refine aw_seq (aw_region hT ?_)
  refine callP (af_at w20 _ rfl rfl) ?_
  refine aw_cut ⟨⟨56, [(0, bA s), (2, .ref 0 0), (4, i64 (numB s 20 2 : Nat))]⟩, [.cells t_api_Block zeroB]⟩ ((!(wholeB s) || decide ((numB s 20 2 : Int) > 228)) = false) (aw_seq (aw_region hT ?_)) ?_
  · refine callP (af_at (crc_Whole s hl) _ rfl rfl) ?_
    have bad : (!(wholeB s) || decide ((numB s 20 2 : Int) > 228)) = true → openB s = (Blk.zero, 7) := fun h => by unfold openB; rw [hd, h]
    refine boolI (fun h => ?_) (fun h => ?_)
    · have h : (!(wholeB s)) = true := h
      refine aw_cond ?_
      refine aw_seq (aw_region hT ?_)
      refine aw_wk (wk_cells 0 [i64 0, i64 0, i64 0, i64 0, i64 0, bA []] rfl less_zeroB) ?_
      refine aw_ret ?_
      rw [bad (by rw [h]; rfl)]
      exact retPick [] ⟨rfl, rfl⟩ rfl
    · have h : (!(wholeB s)) = false := h
      refine aw_cond (boolI (fun h2 => ?_) (fun h2 => ?_))
      · have h2 : decide ((numB s 20 2 : Int) > 228) = true := h2
        refine aw_seq (aw_region hT ?_)
        refine aw_wk (wk_cells 0 [i64 0, i64 0, i64 0, i64 0, i64 0, bA []] rfl less_zeroB) ?_
        refine aw_ret ?_
        rw [bad (by rw [h2, Bool.or_true])]
        exact retPick [] ⟨rfl, rfl⟩ rfl
      · have h2 : decide ((numB s 20 2 : Int) > 228) = false := h2
        exact aw_skip ⟨wk_pick [0] [0, 2, 4] rfl, by rw [h, h2]; rfl⟩
  intro hgood
  obtain ⟨c2, hc2⟩ : ∃ c, s[2]? = some c := ⟨_, List.getElem?_eq_getElem (by omega)⟩
  have hg2 : (bx s)[(2 : Int).toNat]? = some [u8 c2] := bx_get hc2
  obtain ⟨K, hK⟩ : ∃ K : Int, K = IntKind.i64.wrap (c2.toNat : Int) := ⟨_, rfl⟩
  refine aw_cut ⟨⟨56, [(0, bA s), (2, .ref 0 0), (4, i64 (numB s 20 2 : Nat)), (5, .ref 1 0)]⟩, [.cells t_api_Block zeroB, .cells t_api_Block [i64 K, i64 (numB s 4 4 : Nat), i64 (numB s 8 4 : Nat), i64 (numB s 12 4 : Nat), i64 (numB s 16 4 : Nat), .p (.raw (.slice none 0 0))]]⟩ True ?_ (fun _ => ?_)
  · refine aw_draw [13, 14] [] hT follows_mixed (by rfl) ?_
    refine ⟨by omega, optI hg2 ?_⟩
    refine ⟨_, af_at w4 _ rfl rfl, ?_⟩
    refine ⟨_, af_at w8 _ rfl rfl, ?_⟩
    refine ⟨_, af_at w12 _ rfl rfl, ?_⟩
    refine ⟨_, af_at w16 _ rfl rfl, ?_⟩
    refine ⟨rfl, ?_⟩
    refine ⟨rfl, ?_⟩
    refine ⟨⟨_, af_at w4 _ rfl rfl, rfl⟩, ?_⟩
    refine ⟨⟨_, af_at w8 _ rfl rfl, rfl⟩, ?_⟩
    refine ⟨⟨_, af_at w12 _ rfl rfl, rfl⟩, ?_⟩
    refine ⟨⟨_, af_at w16 _ rfl rfl, rfl⟩, ?_⟩
    rw [hK]
    exact ⟨wk_pick [0, 1] [0, 2, 4, 5] rfl, trivial⟩
  have hc := c2.toNat_lt
  rw [wrap64 _ (by omega) (by omega)] at hK
  rw [Bool.or_eq_false_iff] at hgood
  have hlong := of_decide_eq_false hgood.2
  have hbo : blkOf s = ⟨K, (numB s 4 4 : Nat), (numB s 8 4 : Nat), (numB s 12 4 : Nat), (numB s 16 4 : Nat), (s.drop 24).take (numB s 20 2)⟩ := by
    unfold blkOf
    rw [List.getD_eq_getElem?_getD, hc2, hK]; rfl
  have eO : ∀ b t e, blkOf s = b → b.sld = (t, e) → openB s = match e != 0 || !(s == t) with | true => (Blk.zero, 7) | false => (b, 0) := fun b t e h1 h2 => by
    unfold openB
    rw [hd, hgood.1, hgood.2, h1, h2]; rfl
  generalize hL : numB s 20 2 = L at hbo hlong
  obtain ⟨Y, hY⟩ : ∃ Y : Bytes, Y = (s.drop 24).take L := ⟨_, rfl⟩
  have eW : IntKind.i64.wrap (24 + (L : Int)) = ((24 + L : Nat) : Int) := by rw [wrap64 _ (by omega) (by omega)]; omega
  have eY : ((bx s).take (IntKind.i64.wrap (24 + (L : Int))).toNat).drop (24 : Int).toNat = bx Y := by
    rw [eW, Int.toNat_natCast, hY, bx_take, bx_drop, show (24 : Int).toNat = 24 from rfl, List.drop_take, Nat.add_sub_cancel_left]
  have wC : AF Tryz.prog f_bytes_Clone [.p (.sl 1 (((bx s).take (IntKind.i64.wrap (24 + (L : Int))).toNat).drop (24 : Int).toNat))] [] (Pure (bA Y) []) := by
    rw [eY]; exact bytes_Clone Y (by rw [hY, List.length_take, List.length_drop]; omega)
  rw [← hY] at hbo
  generalize (numB s 4 4 : Int) = v at hbo
  generalize (numB s 8 4 : Int) = a at hbo
  generalize (numB s 12 4 : Int) = e' at hbo
  generalize (numB s 16 4 : Int) = q at hbo
  have hS := block_Seal ⟨K, v, a, e', q, Y⟩
  have eO := eO _ (Blk.sld ⟨K, v, a, e', q, Y⟩).1 (Blk.sld ⟨K, v, a, e', q, Y⟩).2 hbo rfl
  generalize Blk.sld ⟨K, v, a, e', q, Y⟩ = Z at hS eO
  obtain ⟨t, e⟩ := Z
  simp only at eO
  refine aw_cut ⟨⟨56, [(0, bA s), (2, .ref 0 0), (5, .ref 1 0)]⟩, [.cells t_api_Block zeroB, .cells t_api_Block [i64 K, i64 v, i64 a, i64 e', i64 q, bA Y]]⟩ True (aw_region hT ?_) (fun _ => ?_)
  · refine ⟨⟨by omega, ?_, ?_⟩, ?_⟩
    · show 24 ≤ IntKind.i64.wrap (24 + (L : Int))
      rw [eW]; omega
    · show IntKind.i64.wrap (24 + (L : Int)) ≤ ((bx s).length : Int)
      rw [eW, hbl]; omega
    refine callP (af_at wC _ rfl rfl) ?_
    exact ⟨wk_pick [0, 1] [0, 2, 5] rfl, trivial⟩
  refine aw_cut ⟨⟨56, [(2, .ref 0 0), (5, .ref 1 0)]⟩, [.cells t_api_Block zeroB, .cells t_api_Block [i64 K, i64 v, i64 a, i64 e', i64 q, bA Y]]⟩ ((e != 0 || !(s == t)) = false) (aw_seq (aw_region hT ?_)) ?_
  · refine callP (af_at hS _ rfl rfl) ?_
    refine aw_seq (aw_region hT ?_)
    refine boolI (fun h1 => ?_) (fun h1 => ?_)
    · have h1 : (e != 0) = true := h1
      rw [h1] at eO
      refine aw_cond ?_
      refine aw_seq (aw_region hT ?_)
      refine aw_wk (wk_cells 0 [i64 0, i64 0, i64 0, i64 0, i64 0, bA []] rfl less_zeroB) ?_
      refine aw_ret ?_
      rw [eO]
      exact retPick [] ⟨rfl, rfl⟩ rfl
    · have h1 : (e != 0) = false := h1
      rw [h1] at eO
      refine callP (af_at (bytes_Equal s t) _ rfl rfl) ?_
      refine aw_cond (boolI (fun h2 => ?_) (fun h2 => ?_))
      · have h2 : (!(s == t)) = true := h2
        rw [h2] at eO
        refine aw_seq (aw_region hT ?_)
        refine aw_wk (wk_cells 0 [i64 0, i64 0, i64 0, i64 0, i64 0, bA []] rfl less_zeroB) ?_
        refine aw_ret ?_
        rw [eO]
        exact retPick [] ⟨rfl, rfl⟩ rfl
      · have h2 : (!(s == t)) = false := h2
        exact aw_skip ⟨wk_pick [0, 1] [2, 5] rfl, by rw [h1, h2]; rfl⟩
  intro h
  rw [h] at eO
  refine aw_seq (aw_region hT ?_)
  refine aw_ret ?_
  rw [eO]
  exact retPick [] ⟨rfl, rfl⟩ rfl
end Go.Proofs.YtinfbclgkghgaaaGreat.AL

/- The document's layer 07: numbers, words, what bytes are. -/
namespace Go.Proofs.YtinfbclgkghgaaaGreat.AL
open Go Go.Proofs Go.Proofs.YtinfbclgkghgaaaGreat.AL.Crc

theorem ref07_wordM (n w : Nat) (hn : n < 9000000000000000000) (hw : w ≤ 8) : AF Tryz.prog f_ref07_word [i64 n, i64 w] [] (Pure (.msl 0 1 0 (bx (leB w n)).length) [.row t_u8 1 (bx (leB w n))]) := by
  refine af_body hT F_ref07_word rfl rfl N_ref07_word rfl ?_
  refine aw_seq (aw_region hT ?_)
  refine aw_seq (aw_region hT ?_)
  refine aw_wk (Wk.trans (wk_phantom t_u8 1) (wk_nil 5 0 1 0 rfl)) ?_
  refine aw_seq (aw_seq (aw_region hT ?_))
  refine aw_block ?_
  refine aw_loopW (fun m s => ∃ (i : Nat) (j v : Int) (L : Bytes), m + i = w ∧ j = i ∧ v = ((n / 256 ^ i : Nat) : Int) ∧ L = leB i n ∧ s = ⟨⟨21, [(0, i64 v), (1, i64 w), (5, .msl 0 1 0 (bx L).length), (6, i64 j)]⟩, [.row t_u8 1 (bx L)]⟩) w ⟨⟨21, _⟩, [_]⟩ (wk_pick [0] [0, 1, 5, 6] rfl) ⟨0, 0, _, [], rfl, rfl, by rw [Nat.pow_zero, Nat.div_one], rfl, rfl⟩ ?_
  rintro m s ⟨i, j, v, L, hmi, rfl, rfl, hL, rfl⟩
  have hLl : L.length = i := by rw [hL, leB_len]
  have hbl := bx_len L
  refine aw_seq (aw_seq (aw_region hT ?_))
  refine aw_cond (boolI (fun h => ?_) (fun h => ?_))
  · have hi : i < w := by
      have := of_decide_eq_true (show decide ((i : Int) < (w : Int)) = true from h)
      omega
    refine aw_skip ?_
    refine aw_cut ⟨⟨21, [(0, i64 ((n / 256 ^ (i + 1) : Nat) : Int)), (1, i64 w), (5, .msl 0 1 0 (bx (L ++ [UInt8.ofNat (n / 256 ^ i)])).length), (6, i64 i)]⟩, [.row t_u8 1 (bx (L ++ [UInt8.ofNat (n / 256 ^ i)]))]⟩ True (aw_block (aw_seq (aw_regionF (fun k => Nat.beq 4 k) hT ?_))) (fun _ => ?_)
    · refine ⟨⟨rfl, rfl⟩, ?_⟩
      refine ⟨rfl, ⟨?_, ?_⟩, ?_⟩
      · show ((bx L).length + 1) * 1 ≤ 140737488355328
        omega
      · show (bx L).length + 1 ≤ 140737488355328
        omega
      refine aw_region hT ?_
      have hq : n / 256 ^ i ≤ n := Nat.div_le_self _ _
      rw [bx_snoc, show u8 (UInt8.ofNat (n / 256 ^ i)) = PV.raw (.int .u8 (IntKind.u8.wrap (((n / 256 ^ i : Nat) : Int).tmod 256))) by rw [u8_rem], pow_div, ← nat_tdiv _ 256 (by omega)]
      exact ⟨wk_pick [1] [0, 1, 5, 6] rfl, trivial⟩
    · refine aw_region hT ?_
      refine ⟨m - 1, by omega, _, wk_pick [0] [0, 1, 5, 6] rfl, i + 1, IntKind.i64.wrap ((i : Int) + 1), _, _, by omega, ?_, rfl, by rw [hL, leB_snoc], rfl⟩
      rw [wrap64 _ (by omega) (by omega)]; rfl
  · have hi : ¬ (i : Int) < (w : Int) := of_decide_eq_false h
    have hi4 : i = w := by omega
    subst hi4
    refine aw_exit ?_
    refine aw_seq (aw_region hT ?_)
    refine aw_ret ?_
    subst hL
    exact retPick [0] ⟨rfl, rfl⟩ rfl
theorem ref07_word (n w : Nat) (hn : n < 9000000000000000000) (hw : w ≤ 8) : AF Tryz.prog f_ref07_word [i64 n, i64 w] [] (Pure (bA (leB w n)) []) := af_frz (ref07_wordM n w hn hw) rfl

theorem take_lenum (s : Bytes) (i : Nat) (c : UInt8) (h : s[i]? = some c) : lenum (s.take (i + 1)) = lenum (s.take i) + c.toNat * 256 ^ i := by
  induction s generalizing i with
  | nil => simp at h
  | cons d r ih =>
    cases i with
    | zero =>
      simp only [List.getElem?_cons_zero, Option.some.injEq] at h
      subst h
      simp [lenum]
    | succ i =>
      simp only [List.getElem?_cons_succ] at h
      rw [List.take_succ_cons, List.take_succ_cons, lenum, lenum, ih i h, Nat.pow_succ, Nat.add_mul, Nat.mul_assoc]; omega

theorem ref07_read (s : Bytes) (hs : s.length ≤ 7) : AF Tryz.prog f_ref07_read [bA s] [] (Pure (i64 (lenum s : Nat)) []) := by
  have hbl := bx_len s
  refine af_body hT F_ref07_read rfl rfl N_ref07_read rfl ?_
  refine aw_seq (aw_region hT ?_)
  refine aw_seq (aw_region hT ?_)
  refine aw_seq (aw_region hT ?_)
  refine aw_seq (aw_seq (aw_region hT ?_))
  refine aw_block ?_
  refine aw_loopW (fun m st => ∃ (i : Nat) (j v p : Int), m + i = s.length ∧ j = i ∧ v = (lenum (s.take i) : Nat) ∧ p = ((256 ^ i : Nat) : Int) ∧ st = ⟨⟨24, [(0, bA s), (3, i64 v), (4, i64 p), (5, i64 j)]⟩, []⟩) s.length ⟨⟨24, _⟩, []⟩ (wk_pick [] [0, 3, 4, 5] rfl) ⟨0, 0, 0, 1, rfl, rfl, rfl, rfl, rfl⟩ ?_
  rintro m st ⟨i, j, v, p, hmi, rfl, hv, hp, rfl⟩
  refine aw_seq (aw_seq (aw_region hT ?_))
  refine aw_cond (boolI (fun h => ?_) (fun h => ?_))
  · have hi : i < s.length := by
      have := of_decide_eq_true (show decide ((i : Int) < ((bx s).length : Int)) = true from h)
      omega
    have hx := List.getElem?_eq_getElem hi
    generalize s[i] = c at hx
    have hxp : (bx s)[((i : Nat) : Int).toNat]? = some [u8 c] := by rw [Int.toNat_natCast]; exact bx_get hx
    have hc := c.toNat_lt
    have hL := take_lenum s i c hx
    have h1 : lenum (s.take i) < 256 ^ 7 := Nat.lt_of_lt_of_le (lenum_lt _) (Nat.pow_le_pow_right (by omega) (by rw [List.length_take]; omega))
    have h2 : 256 ^ i ≤ 256 ^ 6 := Nat.pow_le_pow_right (by omega) (by omega)
    have h4 : c.toNat * 256 ^ i ≤ 255 * 256 ^ 6 := Nat.mul_le_mul (by omega) h2
    refine aw_skip ?_
    obtain ⟨V, hV⟩ : ∃ V : Int, V = IntKind.i64.wrap (v + IntKind.i64.wrap (IntKind.i64.wrap (c.toNat : Int) * p)) := ⟨_, rfl⟩
    obtain ⟨P, hP⟩ : ∃ P : Int, P = IntKind.i64.wrap (p * 256) := ⟨_, rfl⟩
    refine aw_cut ⟨⟨24, [(0, bA s), (3, i64 V), (4, i64 P), (5, i64 i)]⟩, []⟩ True (aw_block (aw_seq (aw_region hT ?_))) (fun _ => ?_)
    · refine ⟨Int.natCast_nonneg _, optI hxp ?_⟩
      refine aw_region hT ?_
      rw [hV, hP]
      exact ⟨wk_pick [] [0, 3, 4, 5] rfl, trivial⟩
    · refine aw_region hT ?_
      refine ⟨m - 1, by omega, _, wk_pick [] [0, 3, 4, 5] rfl, i + 1, IntKind.i64.wrap ((i : Int) + 1), V, P, by omega, ?_, ?_, ?_, rfl⟩
      · rw [wrap64 _ (by omega) (by omega)]; rfl
      · rw [hV, hv, hp, hL, wrap64 (c.toNat : Int) (by omega) (by omega), ← Int.natCast_mul, wrap64 ((c.toNat * 256 ^ i : Nat) : Int) (by omega) (by omega), wrap64 _ (by omega) (by omega)]
        omega
      · rw [hP, hp, Nat.pow_succ]
        generalize 256 ^ i = Q at h2
        rw [wrap64 _ (by omega) (by omega)]
        omega
  · have hi : ¬ (i : Int) < ((bx s).length : Int) := of_decide_eq_false h
    have his : i = s.length := by omega
    rw [his, List.take_length] at hv
    refine aw_exit ?_
    refine aw_seq (aw_region hT ?_)
    refine aw_ret ?_
    rw [hv]
    exact retPick [] ⟨rfl, rfl⟩ rfl

theorem ref07_numbers (b : Blk) : AF Tryz.prog f_ref07_numbers [b.av] [] (Pure (bl b.nums) []) := by
  refine af_body hT F_ref07_numbers rfl rfl N_ref07_numbers rfl ?_
  refine aw_seq (aw_region hT ?_)
  refine aw_wk (wk_boxL 0 b.pv rfl rfl) ?_
  have hk : ∀ n : Int, wordB n = (!(decide (n < 0)) && !(decide (n > 4294967295))) := fun n => by
    unfold wordB
    rw [← decide_not, ← decide_not]
    congr 1
    · exact decide_eq_decide.mpr (by omega)
    · exact decide_eq_decide.mpr (by omega)
  unfold Blk.nums
  refine aw_seq (aw_regionF (fun k => Nat.beq 8 k) hT ?_)
  refine ⟨⟨rfl, rfl⟩, ?_⟩
  generalize hl : [b.vol, b.addr, b.epoch, b.seq] = l
  refine aw_cut ⟨⟨38, [(1, .p (.box b.pv))]⟩, []⟩ (l.all wordB = true) ?_ ?_
  · refine aw_wk (s2 := ⟨⟨38, [(1, .p (.box b.pv)), (3, .p (.sl 1 (ix l)))]⟩, []⟩) (by rw [← hl]; exact wk_pick [] [1, 3] rfl) ?_
    have hll : l.length = 4 := by rw [← hl]; rfl
    refine aw_seq (aw_region hT ?_)
    refine aw_block ?_
    refine aw_loopW (fun n s => ∃ (i : Nat) (j : Int), n + i = 4 ∧ j = i ∧ (l.take i).all wordB = true ∧ s = ⟨⟨38, [(1, .p (.box b.pv)), (3, .p (.sl 1 (ix l))), (4, i64 j)]⟩, []⟩) 4 ⟨⟨38, _⟩, []⟩ (wk_pick [] [1, 3, 4] rfl) ⟨0, 0, rfl, rfl, rfl, rfl⟩ ?_
    rintro n s ⟨i, j, hni, rfl, ht, rfl⟩
    refine aw_seq (aw_seq (aw_region hT ?_))
    refine aw_cond (boolI (fun h => ?_) (fun h => ?_))
    · have hi : i < l.length := by
        have := of_decide_eq_true (show decide ((i : Int) < 4) = true from h)
        omega
      have hx := List.getElem?_eq_getElem hi
      have hmem := List.getElem_mem hi
      have htk : l.take (i + 1) = l.take i ++ [l[i]] := by rw [List.take_add_one, hx]; rfl
      generalize l[i] = c at hx htk hmem
      have hxp : (ix l)[((i : Nat) : Int).toNat]? = some [.raw (.int .i64 c)] := by rw [Int.toNat_natCast]; exact ixg hx
      have bad : wordB c = false → l.all wordB = false := fun h => by
        rw [List.all_eq_false]; exact ⟨c, hmem, by rw [h]; simp⟩
      refine aw_skip ?_
      refine aw_cut ⟨⟨38, [(1, .p (.box b.pv)), (3, .p (.sl 1 (ix l))), (4, i64 i)]⟩, []⟩ (wordB c = true) (aw_block (aw_seq (aw_region hT ?_))) ?_
      · refine ⟨Int.natCast_nonneg _, optI hxp ?_⟩
        refine boolI (fun h2 => ?_) (fun h2 => ?_)
        · have h2 : decide (c < 0) = true := h2
          refine aw_cond ?_
          refine aw_seq (aw_region hT ?_)
          refine aw_ret ?_
          rw [bad (by rw [hk, h2]; rfl), Bool.and_false]
          exact retPick [] ⟨rfl, rfl⟩ rfl
        · have h2 : decide (c < 0) = false := h2
          refine ⟨Int.natCast_nonneg _, optI hxp ?_⟩
          refine aw_cond (boolI (fun h3 => ?_) (fun h3 => ?_))
          · have h3 : decide (c > 4294967295) = true := h3
            refine aw_seq (aw_region hT ?_)
            refine aw_ret ?_
            rw [bad (by rw [hk, h2, h3]; rfl), Bool.and_false]
            exact retPick [] ⟨rfl, rfl⟩ rfl
          · have h3 : decide (c > 4294967295) = false := h3
            exact aw_skip ⟨wk_pick [] [1, 3, 4] rfl, by rw [hk, h2, h3]; rfl⟩
      · intro hc
        refine aw_region hT ?_
        refine ⟨n - 1, by omega, _, wk_pick [] [1, 3, 4] rfl, i + 1, IntKind.i64.wrap ((i : Int) + 1), by omega, ?_, ?_, rfl⟩
        · rw [wrap64 _ (by omega) (by omega)]; rfl
        · rw [htk, List.all_append, ht]; simp [hc]
    · have hi : ¬ (i : Int) < 4 := of_decide_eq_false h
      have hil : i = l.length := by omega
      subst hil
      rw [List.take_length] at ht
      refine aw_exit ?_
      exact ⟨wk_pick [] [1] rfl, ht⟩
  intro h
  rw [h, Bool.and_true]
  refine aw_seq (aw_region hT ?_)
  refine boolI (fun h1 => ?_) (fun h1 => ?_)
  · rw [show decide (b.kind ≥ 1) = true from h1]
    refine aw_ret ?_
    exact retPick [] ⟨rfl, rfl⟩ rfl
  · rw [show decide (b.kind ≥ 1) = false from h1]
    refine aw_ret ?_
    exact retPick [] ⟨rfl, rfl⟩ rfl
end Go.Proofs.YtinfbclgkghgaaaGreat.AL

/- The document's layer 07: a sector is made. -/
namespace Go.Proofs.YtinfbclgkghgaaaGreat.AL
open Go Go.Proofs Go.Proofs.YtinfbclgkghgaaaGreat.AL.Crc

theorem layB_cons (w n : Nat) (l : List Nat) : layB w (n :: l) = leB w n ++ layB w l := rfl
theorem layB_nil (w : Nat) : layB w [] = [] := rfl
set_option maxRecDepth 20000 in
theorem ref07_Seal_ok (k v a e q : Nat) (body : Bytes) (hn : (Blk.mk k v a e q body).nums = true) (hb : body.length ≤ 228) (hv : v ≤ 4294967295) (ha : a ≤ 4294967295) (he : e ≤ 4294967295) (hq : q ≤ 4294967295) :
    AF Tryz.prog f_ref07_Seal [(Blk.mk k v a e q body).av] [] (Pure (.tup [bA (sealB (Blk.mk k v a e q body).all), i64 0]) []) := by
  have hbl := bx_len body
  have hall := all_len (Blk.mk k v a e q body) hb
  refine af_body hT F_ref07_Seal rfl rfl N_ref07_Seal rfl ?_
  refine aw_seq (aw_region hT ?_)
  refine aw_wk (wk_boxL 0 (Blk.mk k v a e q body).pv rfl rfl) ?_
  have wn := ref07_numbers (Blk.mk k v a e q body)
  rw [hn] at wn
  refine aw_seq (aw_region hT ?_)
  refine callP (af_at wn _ rfl rfl) ?_
  refine aw_seq (aw_seq (aw_region hT ?_))
  refine aw_cond ?_
  refine aw_skip ?_
  refine aw_cut ⟨⟨59, [(1, .p (.box (Blk.mk k v a e q body).pv))]⟩, []⟩ True (aw_seq (aw_region hT ?_)) (fun _ => ?_)
  · refine aw_cond (boolI (fun h => ?_) (fun h => ?_))
    · have h := of_decide_eq_true (show decide (((bx body).length : Int) > 228) = true from h)
      omega
    · exact aw_skip ⟨wk_pick [] [1] rfl, trivial⟩
  have key : ∀ (L : Bytes) (r : Bytes), L.length ≤ 400 → r.length ≤ 400 → ((bx L).length + (bx r).length) * 1 ≤ 140737488355328 ∧ (bx L).length + (bx r).length ≤ 140737488355328 := fun L r h1 h2 => by
    rw [bx_len, bx_len]; omega
  generalize hL0 : ([81, 77, UInt8.ofNat k, 0] : Bytes) = L0
  have l0 : L0.length = 4 := by rw [← hL0]; rfl
  have b0 : [[u8 81], [u8 77], [PV.raw (.int .u8 (IntKind.u8.wrap (k : Int)))], [u8 0]] = bx L0 := by rw [← hL0, u8_wrapN]; rfl
  have w1 := ref07_word v 4 (by omega) (by omega)
  have w2 := ref07_word a 4 (by omega) (by omega)
  have w3 := ref07_word e 4 (by omega) (by omega)
  have w4 := ref07_word q 4 (by omega) (by omega)
  have w5 : AF Tryz.prog f_ref07_word [i64 (bx body).length, i64 2] [] (Pure (bA (leB 2 body.length)) []) := by rw [hbl]; exact ref07_word body.length 2 (by omega) (by omega)
  have hhead : (Blk.mk k v a e q body).head = L0 ++ leB 4 v ++ leB 4 a ++ leB 4 e ++ leB 4 q ++ leB 2 body.length ++ [0, 0] := by
    unfold Blk.head
    simp only [layB_cons, layB_nil, Int.toNat_natCast]
    rw [← hL0]
    simp only [List.append_assoc, List.append_nil]
    rfl
  have hA : (Blk.mk k v a e q body).all = L0 ++ leB 4 v ++ leB 4 a ++ leB 4 e ++ leB 4 q ++ leB 2 body.length ++ [0, 0] ++ body ++ List.replicate (228 - body.length) 0 := by
    unfold Blk.all
    rw [hhead]
  have n1 := leB_len 4 v
  have n2 := leB_len 4 a
  have n3 := leB_len 4 e
  have n4 := leB_len 4 q
  have n5 := leB_len 2 body.length
  generalize leB 4 v = c1 at w1 hA n1
  generalize leB 4 a = c2 at w2 hA n2
  generalize leB 4 e = c3 at w3 hA n3
  generalize leB 4 q = c4 at w4 hA n4
  generalize leB 2 body.length = c5 at w5 hA n5
  generalize hAA : (Blk.mk k v a e q body).all = A at hA hall
  clear hhead hn wn hL0
  refine aw_cut ⟨⟨59, [(1, .p (.box (Blk.mk k v a e q body).pv)), (5, .msl 0 1 0 (bx L0).length)]⟩, [.row t_u8 1 (bx L0)]⟩ True (aw_region hT ?_) (fun _ => ?_)
  · rw [← b0]
    exact ⟨wk_pick [0] [1, 5] rfl, trivial⟩
  refine aw_cut ⟨⟨59, [(1, .p (.box (Blk.mk k v a e q body).pv)), (5, .msl 0 1 0 (bx (L0 ++ c1)).length)]⟩, [.row t_u8 1 (bx (L0 ++ c1))]⟩ True (aw_region hT ?_) (fun _ => ?_)
  · refine callP (af_at w1 _ rfl rfl) ?_
    refine ⟨rfl, key L0 c1 (by omega) (by omega), ?_⟩
    rw [bx_app]
    exact ⟨wk_pick [1] [1, 5] rfl, trivial⟩
  generalize h1 : L0 ++ c1 = L1 at hA
  have l1 : L1.length = 8 := by rw [← h1, List.length_append]; omega
  refine aw_cut ⟨⟨59, [(1, .p (.box (Blk.mk k v a e q body).pv)), (5, .msl 0 1 0 (bx (L1 ++ c2)).length)]⟩, [.row t_u8 1 (bx (L1 ++ c2))]⟩ True (aw_region hT ?_) (fun _ => ?_)
  · refine callP (af_at w2 _ rfl rfl) ?_
    refine ⟨rfl, key L1 c2 (by omega) (by omega), ?_⟩
    rw [bx_app]
    exact ⟨wk_pick [1] [1, 5] rfl, trivial⟩
  generalize h2 : L1 ++ c2 = L2 at hA
  have l2 : L2.length = 12 := by rw [← h2, List.length_append]; omega
  refine aw_cut ⟨⟨59, [(1, .p (.box (Blk.mk k v a e q body).pv)), (5, .msl 0 1 0 (bx (L2 ++ c3)).length)]⟩, [.row t_u8 1 (bx (L2 ++ c3))]⟩ True (aw_region hT ?_) (fun _ => ?_)
  · refine callP (af_at w3 _ rfl rfl) ?_
    refine ⟨rfl, key L2 c3 (by omega) (by omega), ?_⟩
    rw [bx_app]
    exact ⟨wk_pick [1] [1, 5] rfl, trivial⟩
  generalize h3 : L2 ++ c3 = L3 at hA
  have l3 : L3.length = 16 := by rw [← h3, List.length_append]; omega
  refine aw_cut ⟨⟨59, [(1, .p (.box (Blk.mk k v a e q body).pv)), (5, .msl 0 1 0 (bx (L3 ++ c4)).length)]⟩, [.row t_u8 1 (bx (L3 ++ c4))]⟩ True (aw_region hT ?_) (fun _ => ?_)
  · refine callP (af_at w4 _ rfl rfl) ?_
    refine ⟨rfl, key L3 c4 (by omega) (by omega), ?_⟩
    rw [bx_app]
    exact ⟨wk_pick [1] [1, 5] rfl, trivial⟩
  generalize h4 : L3 ++ c4 = L4 at hA
  have l4 : L4.length = 20 := by rw [← h4, List.length_append]; omega
  refine aw_cut ⟨⟨59, [(1, .p (.box (Blk.mk k v a e q body).pv)), (5, .msl 0 1 0 (bx (L4 ++ c5)).length)]⟩, [.row t_u8 1 (bx (L4 ++ c5))]⟩ True (aw_region hT ?_) (fun _ => ?_)
  · refine callP (af_at w5 _ rfl rfl) ?_
    refine ⟨rfl, key L4 c5 (by omega) (by omega), ?_⟩
    rw [bx_app]
    exact ⟨wk_pick [1] [1, 5] rfl, trivial⟩
  generalize h5 : L4 ++ c5 = L5 at hA
  have l5 : L5.length = 22 := by rw [← h5, List.length_append]; omega
  refine aw_cut ⟨⟨59, [(1, .p (.box (Blk.mk k v a e q body).pv)), (5, .msl 0 1 0 (bx (L5 ++ [0, 0])).length)]⟩, [.row t_u8 1 (bx (L5 ++ [0, 0]))]⟩ True (aw_regionF (fun k => Nat.beq 1 k) hT ?_) (fun _ => ?_)
  · refine ⟨⟨rfl, rfl⟩, ?_⟩
    refine ⟨rfl, key L5 [0, 0] (by omega) (by decide), ?_⟩
    rw [bx_app]
    exact ⟨wk_pick [1] [1, 5] rfl, trivial⟩
  generalize h6 : L5 ++ [0, 0] = L6 at hA
  have l6 : L6.length = 24 := by rw [← h6, List.length_append]; simp; omega
  refine aw_cut ⟨⟨59, [(5, .msl 0 1 0 (bx (L6 ++ body)).length)]⟩, [.row t_u8 1 (bx (L6 ++ body))]⟩ True (aw_region hT ?_) (fun _ => ?_)
  · refine ⟨rfl, key L6 body (by omega) (by omega), ?_⟩
    rw [bx_app]
    exact ⟨wk_pick [1] [5] rfl, trivial⟩
  generalize h7 : L6 ++ body = L7 at hA
  have l7 : L7.length = 24 + body.length := by rw [← h7, List.length_append]; omega
  have l7' : L7.length ≤ 252 := by omega
  rw [show 228 - body.length = 252 - L7.length by omega] at hA
  clear h1 h2 h3 h4 h5 h6 h7
  refine aw_cut ⟨⟨59, [(5, .p (.sl 1 (bx A)))]⟩, []⟩ True (aw_block ?_) (fun _ => ?_)
  · refine aw_loopW (fun n s => ∃ L : Bytes, n + L.length = 252 ∧ A = L ++ List.replicate (252 - L.length) 0 ∧ s = ⟨⟨59, [(5, .msl 0 1 0 (bx L).length)]⟩, [.row t_u8 1 (bx L)]⟩) (252 - L7.length) ⟨⟨59, _⟩, [_]⟩ (wk_pick [0] [5] rfl) ⟨L7, by omega, hA, rfl⟩ ?_
    rintro n s ⟨L, hn, hAL, rfl⟩
    have hbL := bx_len L
    refine aw_seq (aw_seq (aw_region hT ?_))
    refine aw_cond (boolI (fun h => ?_) (fun h => ?_))
    · have h := of_decide_eq_true (show decide (((bx L).length : Int) < 252) = true from h)
      refine aw_skip ?_
      refine aw_block (aw_regionF (fun k => Nat.beq 1 k) hT ?_)
      refine ⟨⟨rfl, rfl⟩, ?_⟩
      refine ⟨rfl, key L [0] (by omega) (by decide), ?_⟩
      refine ⟨n - 1, by omega, _, wk_pick [1] [5] rfl, L ++ [0], by rw [List.length_append]; simp; omega, ?_, by rw [bx_app]; rfl⟩
      rw [hAL, List.append_assoc, List.length_append, show ([0] : Bytes).length = 1 from rfl, show 252 - L.length = 252 - (L.length + 1) + 1 by omega, List.replicate_succ]; rfl
    · have h := of_decide_eq_false (show decide (((bx L).length : Int) < 252) = false from h)
      have h252 : L.length = 252 := by omega
      rw [h252, Nat.sub_self, List.replicate_zero, List.append_nil] at hAL
      refine aw_exit ?_
      exact ⟨Wk.trans (wk_frzE 5 0 _ (by rw [hAL]) rfl rfl rfl) (wk_pick [] [5] rfl), trivial⟩
  refine aw_seq (aw_region hT ?_)
  refine callP (af_at (ref04_Seal A (by omega)) _ rfl rfl) ?_
  refine aw_ret ?_
  exact retPick [] ⟨rfl, rfl⟩ rfl

theorem ref07_Seal (b : Blk) : AF Tryz.prog f_ref07_Seal [b.av] [] (Pure (.tup [bA b.sld.1, i64 b.sld.2]) []) := by
  cases hn : b.nums with
  | true =>
    cases hl : decide (b.body.length > 228) with
    | false =>
      have hl := of_decide_eq_false hl
      have e : b.sld = (sealB b.all, 0) := by unfold Blk.sld; rw [hn, decide_eq_false hl]
      obtain ⟨k, v, a, e', q, hb, _, _, hv, ha, he, hq⟩ := nums_nat hn
      rw [e]
      rw [hb] at hn ⊢
      exact ref07_Seal_ok k v a e' q b.body hn (by omega) hv ha he hq
    | true =>
      have e : b.sld = ([], 2) := by unfold Blk.sld; rw [hn, hl]
      have hbl := bx_len b.body
      have hl := of_decide_eq_true hl
      have wn := ref07_numbers b
      rw [hn] at wn
      rw [e]
      refine af_body hT F_ref07_Seal rfl rfl N_ref07_Seal rfl ?_
      refine aw_seq (aw_region hT ?_)
      refine aw_wk (wk_boxL 0 b.pv rfl rfl) ?_
      refine aw_seq (aw_region hT ?_)
      refine callP (af_at wn _ rfl rfl) ?_
      refine aw_seq (aw_seq (aw_region hT ?_))
      refine aw_cond ?_
      refine aw_skip ?_
      refine aw_seq (aw_seq (aw_region hT ?_))
      refine aw_cond (boolI (fun h => ?_) (fun h => ?_))
      · refine aw_seq (aw_region hT ?_)
        refine aw_wk (wk_nilP 2 1 rfl) ?_
        refine aw_ret ?_
        exact retPick [] ⟨rfl, rfl⟩ rfl
      · have h := of_decide_eq_false (show decide (((bx b.body).length : Int) > 228) = false from h)
        omega
  | false =>
    have e : b.sld = ([], 1) := by unfold Blk.sld; rw [hn]
    have wn := ref07_numbers b
    rw [hn] at wn
    rw [e]
    refine af_body hT F_ref07_Seal rfl rfl N_ref07_Seal rfl ?_
    refine aw_seq (aw_region hT ?_)
    refine aw_wk (wk_boxL 0 b.pv rfl rfl) ?_
    refine aw_seq (aw_region hT ?_)
    refine callP (af_at wn _ rfl rfl) ?_
    refine aw_seq (aw_seq (aw_region hT ?_))
    refine aw_cond ?_
    refine aw_seq (aw_region hT ?_)
    refine aw_wk (wk_nilP 2 1 rfl) ?_
    refine aw_ret ?_
    exact retPick [] ⟨rfl, rfl⟩ rfl
end Go.Proofs.YtinfbclgkghgaaaGreat.AL
