/- A part of the proof. -/
import Derived.Test.YtinfbclgkghgaaaGreatHalfH
/- The document's layer 07: a sector is opened. -/
namespace Go.Proofs.YtinfbclgkghgaaaGreat.AL
open Go Go.Proofs Go.Proofs.YtinfbclgkghgaaaGreat.AL.Crc

theorem whole_seal (l : Bytes) : wholeB (sealB l) = true := by
  have h := sealB_len l
  unfold wholeB
  rw [decide_eq_true (show 4 ≤ (sealB l).length by omega)]
  rw [show (sealB l).length - 4 = l.length by omega]
  show ((sealB l).drop l.length == leB 4 (sum ((sealB l).take l.length)).toNat) = true
  unfold sealB
  rw [List.drop_left, List.take_left]
  simp
theorem seal_whole {s : Bytes} {b : Blk} (h : (b.sld.2 != 0 || !(s == b.sld.1)) = false) : wholeB s = true := by
  rw [Bool.or_eq_false_iff] at h
  have h2 : s = b.sld.1 := by simpa using h.2
  have h1 : b.sld.2 = 0 := by simpa using h.1
  unfold Blk.sld at h1 h2
  cases hn : b.nums with
  | false => rw [hn] at h1; simp at h1
  | true =>
    cases hl : decide (b.body.length > 228) with
    | true => rw [hn, hl] at h1; simp at h1
    | false =>
      rw [hn, hl] at h2
      rw [h2]
      exact whole_seal _
theorem openB_eq (s : Bytes) (h : s.length = 256) (hl : decide ((numB s 20 2 : Int) > 228) = false) : openB s = match (blkOf s).sld.2 != 0 || !(s == (blkOf s).sld.1) with
      | true => (Blk.zero, 7)
      | false => (blkOf s, 0) := by
  unfold openB
  rw [decide_eq_true h, hl, Bool.or_false]
  cases hw : wholeB s with
  | true => rfl
  | false =>
    cases hh : ((blkOf s).sld.2 != 0 || !(s == (blkOf s).sld.1)) with
    | true => rfl
    | false => rw [seal_whole hh] at hw; cases hw

set_option maxRecDepth 20000 in
theorem ref07_Open (s : Bytes) (hl : s.length ≤ 1000000) : AF Tryz.prog f_ref07_Open [bA s] [] (Pure (.tup [(openB s).1.av, i64 (openB s).2]) []) := by
  have hbl := bx_len s
  refine af_body hT F_ref07_Open rfl rfl N_ref07_Open rfl ?_
  refine aw_seq (aw_region hT ?_)
  refine aw_cut ⟨⟨58, [(0, bA s), (2, .ref 0 0)]⟩, [.cells t_api_Block zeroB]⟩ (s.length = 256) (aw_seq (aw_region hT ?_)) ?_
  · refine aw_cond (boolI (fun h => ?_) (fun h => ?_))
    · have h : (((bx s).length : Int) != 256) = true := h
      have hne : s.length ≠ 256 := by rw [hbl] at h; intro e; rw [e] at h; simp at h
      have eo : openB s = (Blk.zero, 1) := by unfold openB; rw [decide_eq_false hne]
      refine aw_seq (aw_region hT ?_)
      refine aw_wk (wk_cells 0 [i64 0, i64 0, i64 0, i64 0, i64 0, bA []] rfl less_zeroB) ?_
      refine aw_ret ?_
      rw [eo]
      exact retPick [] ⟨rfl, rfl⟩ rfl
    · have h : (((bx s).length : Int) != 256) = false := h
      have he : s.length = 256 := by rw [hbl] at h; have : (s.length : Int) = 256 := by simpa using h; 
                                     omega
      exact aw_skip ⟨wk_pick [0] [0, 2] rfl, he⟩
  intro h256
  have rd : ∀ (i j : Nat), i ≤ j → j ≤ 24 → j - i ≤ 7 → AF Tryz.prog f_ref07_read [.p (.sl 1 (((bx s).take j).drop i))] [] (Pure (i64 (numB s i (j - i) : Nat)) []) := fun i j h1 h2 h3 => by
    have w := ref07_read ((s.drop i).take (j - i)) (by rw [List.length_take]; omega)
    have e : ((bx s).take j).drop i = bx ((s.drop i).take (j - i)) := by
      rw [bx_take, bx_drop, List.drop_take]
    rw [e]
    exact w
  have w20 := rd 20 22 (by omega) (by omega) (by omega)
  have w4 := rd 4 8 (by omega) (by omega) (by omega)
  have w8 := rd 8 12 (by omega) (by omega) (by omega)
  have w12 := rd 12 16 (by omega) (by omega) (by omega)
  have w16 := rd 16 20 (by omega) (by omega) (by omega)
  have hin : ∀ i j : Int, 0 ≤ i → i ≤ j → j ≤ 24 → (0 ≤ i ∧ i ≤ j ∧ j ≤ ((bx s).length : Int)) := fun i j a b c => ⟨a, b, by omega⟩
  refine aw_seq (aw_region hT ?_)
  refine ⟨hin 20 22 (by omega) (by omega) (by omega), ?_⟩
  refine callP (af_at w20 _ rfl rfl) ?_
  refine aw_cut ⟨⟨58, [(0, bA s), (2, .ref 0 0), (4, i64 (numB s 20 2 : Nat))]⟩, [.cells t_api_Block zeroB]⟩ (decide ((numB s 20 2 : Int) > 228) = false) (aw_seq (aw_region hT ?_)) ?_
  · refine aw_cond (boolI (fun h => ?_) (fun h => ?_))
    · have h : decide ((numB s 20 2 : Int) > 228) = true := h
      have bad : openB s = (Blk.zero, 7) := by unfold openB; rw [decide_eq_true h256, h, Bool.or_true]
      refine aw_seq (aw_region hT ?_)
      refine aw_wk (wk_cells 0 [i64 0, i64 0, i64 0, i64 0, i64 0, bA []] rfl less_zeroB) ?_
      refine aw_ret ?_
      rw [bad]
      exact retPick [] ⟨rfl, rfl⟩ rfl
    · have h : decide ((numB s 20 2 : Int) > 228) = false := h
      exact aw_skip ⟨wk_pick [0] [0, 2, 4] rfl, h⟩
  intro hlong
  have eO := openB_eq s h256 hlong
  obtain ⟨c2, hc2⟩ : ∃ c, s[2]? = some c := ⟨_, List.getElem?_eq_getElem (by omega)⟩
  have hg2 : (bx s)[(2 : Int).toNat]? = some [u8 c2] := bx_get hc2
  obtain ⟨K, hK⟩ : ∃ K : Int, K = IntKind.i64.wrap (c2.toNat : Int) := ⟨_, rfl⟩
  refine aw_cut ⟨⟨58, [(0, bA s), (2, .ref 0 0), (4, i64 (numB s 20 2 : Nat)), (5, .ref 1 0)]⟩, [.cells t_api_Block zeroB, .cells t_api_Block [i64 K, i64 (numB s 4 4 : Nat), i64 (numB s 8 4 : Nat), i64 (numB s 12 4 : Nat), i64 (numB s 16 4 : Nat), .p (.raw (.slice none 0 0))]]⟩ True ?_ (fun _ => ?_)
  · refine aw_draw [17, 18] [] hT follows_mixed (by rfl) ?_
    refine ⟨by omega, optI hg2 ?_⟩
    refine ⟨hin 4 8 (by omega) (by omega) (by omega), ?_⟩
    refine ⟨_, af_at w4 _ rfl rfl, ?_⟩
    refine ⟨hin 8 12 (by omega) (by omega) (by omega), ?_⟩
    refine ⟨_, af_at w8 _ rfl rfl, ?_⟩
    refine ⟨hin 12 16 (by omega) (by omega) (by omega), ?_⟩
    refine ⟨_, af_at w12 _ rfl rfl, ?_⟩
    refine ⟨hin 16 20 (by omega) (by omega) (by omega), ?_⟩
    refine ⟨_, af_at w16 _ rfl rfl, ?_⟩
    refine ⟨rfl, ?_⟩
    refine ⟨rfl, ?_⟩
    refine ⟨⟨_, af_at w4 _ rfl rfl, rfl⟩, ?_⟩
    refine ⟨⟨_, af_at w8 _ rfl rfl, rfl⟩, ?_⟩
    refine ⟨⟨_, af_at w12 _ rfl rfl, rfl⟩, ?_⟩
    refine ⟨⟨_, af_at w16 _ rfl rfl, rfl⟩, ?_⟩
    rw [hK]
    exact ⟨wk_pick [0, 1] [0, 2, 4, 5] rfl, trivial⟩
  have hc := c2.toNat_lt
  rw [wrap64 _ (by omega) (by omega)] at hK
  have hlong' := of_decide_eq_false hlong
  have hbo : blkOf s = ⟨K, (numB s 4 4 : Nat), (numB s 8 4 : Nat), (numB s 12 4 : Nat), (numB s 16 4 : Nat), (s.drop 24).take (numB s 20 2)⟩ := by
    unfold blkOf
    rw [List.getD_eq_getElem?_getD, hc2, hK]; rfl
  have eO : ∀ b t e, blkOf s = b → b.sld = (t, e) → openB s = match e != 0 || !(s == t) with | true => (Blk.zero, 7) | false => (b, 0) := fun b t e h1 h2 => by
    rw [eO, h1, h2]
  clear w20 w4 w8 w12 w16
  generalize hL : numB s 20 2 = L at hbo hlong'
  obtain ⟨Y, hY⟩ : ∃ Y : Bytes, Y = (s.drop 24).take L := ⟨_, rfl⟩
  have eW : IntKind.i64.wrap (24 + (L : Int)) = ((24 + L : Nat) : Int) := by rw [wrap64 _ (by omega) (by omega)]; omega
  have eY : ((bx s).take (IntKind.i64.wrap (24 + (L : Int))).toNat).drop (24 : Int).toNat = bx Y := by
    rw [eW, Int.toNat_natCast, hY, bx_take, bx_drop, show (24 : Int).toNat = 24 from rfl, List.drop_take, Nat.add_sub_cancel_left]
  rw [← hY] at hbo
  have hYl : Y.length ≤ 300 := by rw [hY, List.length_take, List.length_drop]; omega
  have hYb := bx_len Y
  generalize (numB s 4 4 : Int) = v at hbo
  generalize (numB s 8 4 : Int) = a at hbo
  generalize (numB s 12 4 : Int) = e' at hbo
  generalize (numB s 16 4 : Int) = q at hbo
  have hS := ref07_Seal ⟨K, v, a, e', q, Y⟩
  have eO := eO _ (Blk.sld ⟨K, v, a, e', q, Y⟩).1 (Blk.sld ⟨K, v, a, e', q, Y⟩).2 hbo rfl
  generalize Blk.sld ⟨K, v, a, e', q, Y⟩ = Z at hS eO
  obtain ⟨t, e⟩ := Z
  simp only at eO
  refine aw_cut ⟨⟨58, [(0, bA s), (2, .ref 0 0), (5, .ref 1 0)]⟩, [.cells t_api_Block zeroB, .cells t_api_Block [i64 K, i64 v, i64 a, i64 e', i64 q, bA Y]]⟩ True (aw_regionF (fun k => Nat.beq 4 k) hT ?_) (fun _ => ?_)
  · refine ⟨⟨by omega, ?_, ?_⟩, ?_⟩
    · show 24 ≤ IntKind.i64.wrap (24 + (L : Int))
      rw [eW]; omega
    · show IntKind.i64.wrap (24 + (L : Int)) ≤ ((bx s).length : Int)
      rw [eW, hbl]; omega
    refine ⟨⟨?_, ?_⟩, ?_⟩
    · rw [eY, hYb]; show Y.length * 1 ≤ _; omega
    · rw [eY, hYb]; omega
    refine ⟨⟨rfl, rfl⟩, ?_⟩
    show _ ∧ True
    rw [show bA Y = .p (.sl 1 (((bx s).take (IntKind.i64.wrap (24 + (L : Int))).toNat).drop (24 : Int).toNat)) by rw [eY]]
    exact ⟨wk_pick [0, 1] [0, 2, 5] rfl, trivial⟩
  refine aw_cut ⟨⟨58, [(0, bA s), (2, .ref 0 0), (5, .ref 1 0), (6, bA t), (7, i64 e)]⟩, [.cells t_api_Block zeroB, .cells t_api_Block [i64 K, i64 v, i64 a, i64 e', i64 q, bA Y]]⟩ True (aw_region hT ?_) (fun _ => ?_)
  · refine callP (af_at hS _ rfl rfl) ?_
    exact ⟨wk_pick [0, 1] [0, 2, 5, 6, 7] rfl, trivial⟩
  refine aw_cut ⟨⟨58, [(2, .ref 0 0), (5, .ref 1 0), (7, i64 e), (8, bl (s == t))]⟩, [.cells t_api_Block zeroB, .cells t_api_Block [i64 K, i64 v, i64 a, i64 e', i64 q, bA Y]]⟩ True (aw_region hT ?_) (fun _ => ?_)
  · refine callP (af_at (ref04_Same s t hl) _ rfl rfl) ?_
    exact ⟨wk_pick [0, 1] [2, 5, 7, 8] rfl, trivial⟩
  refine aw_cut ⟨⟨58, [(2, .ref 0 0), (5, .ref 1 0)]⟩, [.cells t_api_Block zeroB, .cells t_api_Block [i64 K, i64 v, i64 a, i64 e', i64 q, bA Y]]⟩ ((e != 0 || !(s == t)) = false) (aw_seq (aw_region hT ?_)) ?_
  · skip
    refine boolI (fun h1 => ?_) (fun h1 => ?_)
    · have h1 : (e != 0) = true := h1
      rw [h1] at eO
      refine aw_cond ?_
      refine aw_seq (aw_region hT ?_)
      refine aw_wk (wk_cells 0 [i64 0, i64 0, i64 0, i64 0, i64 0, bA []] rfl less_zeroB) ?_
      refine aw_ret ?_
      rw [eO]
      exact retPick [] ⟨rfl, rfl⟩ rfl
    · have h1 : (e != 0) = false := h1
      rw [h1] at eO
      refine aw_cond (boolI (fun h2 => ?_) (fun h2 => ?_))
      · have h2 : (!(s == t)) = true := h2
        rw [h2] at eO
        refine aw_seq (aw_region hT ?_)
        refine aw_wk (wk_cells 0 [i64 0, i64 0, i64 0, i64 0, i64 0, bA []] rfl less_zeroB) ?_
        refine aw_ret ?_
        rw [eO]
        exact retPick [] ⟨rfl, rfl⟩ rfl
      · have h2 : (!(s == t)) = false := h2
        exact aw_skip ⟨wk_pick [0, 1] [2, 5] rfl, by rw [h1, h2]; rfl⟩
  intro h
  rw [h] at eO
  refine aw_seq (aw_region hT ?_)
  refine aw_ret ?_
  rw [eO]
  exact retPick [] ⟨rfl, rfl⟩ rfl
end Go.Proofs.YtinfbclgkghgaaaGreat.AL

/- The layer 05 (code): what stands next is told, and got. -/
namespace Go.Proofs.YtinfbclgkghgaaaGreat.AL
open Go Go.Proofs

abbrev w64 (n : Int) : AV := .p (.raw (.int .u64 n))
abbrev inC (b : Bytes) : ABlk := .cells t_code_In [bA b]
theorem wrapU (n : Int) (h0 : 0 ≤ n) (h : n < 18446744073709551616) : IntKind.u64.wrap n = n := by
  show n % 18446744073709551616 = n
  omega

theorem In_look (b : Bytes) (_hb : b.length ≤ 1000000) : AFm Tryz.prog 1 f_code_In_look [.ref 0 0] [inC b] (Pure (.tup [w64 (lookB b).1, i64 (lookB b).2.1, i64 (lookB b).2.2]) [inC b]) := by
  have hbl := bx_len b
  refine af_bodyM 1 hT F_code_In_look rfl rfl N_code_In_look rfl rfl ?_
  refine aw_seq (aw_region hT ?_)
  refine aw_seq (aw_seq (aw_region hT ?_))
  refine aw_cond ?_
  refine aw_skip ?_
  refine aw_seq (aw_region hT ?_)
  refine aw_seq (aw_seq (aw_region hT ?_))
  refine aw_block ?_
  refine aw_loopW (fun m s => ∃ (i : Nat) (j n p : Int) (N : Nat), m + i = b.length ∧ j = i ∧ i ≤ 10 ∧ n = (N : Nat) ∧ p = ((128 ^ i : Nat) : Int) ∧ N < 128 ^ i ∧ lookB b = lookF i N (128 ^ i) (b.drop i) ∧ s = ⟨⟨58, [(0, .ref 0 0), (5, w64 n), (6, w64 p), (14, bA b), (15, i64 (bx b).length), (16, i64 j)]⟩, [inC b]⟩) b.length ⟨⟨58, _⟩, [_]⟩ (wk_pick [0] [0, 5, 6, 14, 15, 16] rfl) ⟨0, 0, 0, 1, 0, rfl, rfl, by omega, rfl, rfl, by simp, rfl, rfl⟩ ?_
  rintro m s ⟨i, j, n, p, N, hmi, rfl, hi10, hn, hp, hN, hlk, rfl⟩
  refine aw_seq (aw_region hT ?_)
  refine aw_seq (aw_cond (boolI (fun h => ?_) (fun h => ?_)))
  · have hi : i < b.length := by
      have := of_decide_eq_true (show decide ((i : Int) < ((bx b).length : Int)) = true from h)
      omega
    have hx := List.getElem?_eq_getElem hi
    have hdr : b.drop i = b[i] :: b.drop (i + 1) := List.drop_eq_getElem_cons hi
    generalize b[i] = c at hx hdr
    have hxp : (bx b)[((i : Nat) : Int).toNat]? = some [u8 c] := by rw [Int.toNat_natCast]; exact bx_get hx
    have hc := c.toNat_lt
    refine aw_skip ?_
    rw [hdr] at hlk
    unfold lookF at hlk
    obtain ⟨G, hG⟩ : ∃ G, G = (decide (i = 10) || (decide (i = 9) && decide (c.toNat > 1))) := ⟨_, rfl⟩
    rw [← hG] at hlk
    have e10 : ((i : Int) == 10) = decide (i = 10) := by
      by_cases e : i = 10
      · rw [decide_eq_true e, e]; rfl
      · rw [decide_eq_false e]; exact beq_eq_false_iff_ne.mpr (by omega)
    have e9 : ((i : Int) == 9) = decide (i = 9) := by
      by_cases e : i = 9
      · rw [decide_eq_true e, e]; rfl
      · rw [decide_eq_false e]; exact beq_eq_false_iff_ne.mpr (by omega)
    have ec : decide ((c.toNat : Int) > 1) = decide (c.toNat > 1) := decide_eq_decide.mpr (by omega)
    have ez : ((c.toNat : Int) == 0) = decide (c.toNat = 0) := by
      by_cases e : c.toNat = 0
      · rw [decide_eq_true e, e]; rfl
      · rw [decide_eq_false e]; exact beq_eq_false_iff_ne.mpr (by omega)
    have e8 : decide ((c.toNat : Int) ≥ 128) = decide (c.toNat ≥ 128) := decide_eq_decide.mpr (by omega)
    have e0 : decide ((i : Int) > 0) = decide (i > 0) := decide_eq_decide.mpr (by omega)
    refine aw_seq (aw_block (aw_seq (aw_region hT ?_)))
    refine ⟨Int.natCast_nonneg _, optI hxp ?_⟩
    refine aw_cut ⟨⟨58, [(0, .ref 0 0), (5, w64 n), (6, w64 p), (7, i64 i), (8, .p (u8 c))]⟩, [inC b]⟩ (lookB b = (N + c.toNat * 128 ^ i, i + 1, 0) ∧ c.toNat < 128 ∧ (i = 9 → c.toNat ≤ 1) ∧ i ≤ 9) (aw_block ?_) ?_
    · refine aw_cut ⟨⟨58, [(0, .ref 0 0), (5, w64 n), (6, w64 p), (7, i64 i), (8, .p (u8 c)), (14, bA b), (15, i64 (bx b).length), (16, i64 i), (21, bl G)]⟩, [inC b]⟩ True (aw_seq (aw_region hT ?_)) (fun _ => ?_)
      · refine aw_cond (boolI (fun h1 => ?_) (fun h1 => ?_))
        · have h1 : ((i : Int) == 10) = true := h1
          refine aw_skip ?_
          rw [show G = ((i : Int) == 10) by rw [hG, ← e10, h1]; rfl]
          exact ⟨wk_pick [0] [0, 5, 6, 7, 8, 14, 15, 16, 21] rfl, trivial⟩
        · have h1 : ((i : Int) == 10) = false := h1
          refine aw_region hT ?_
          refine boolI (fun h2 => ?_) (fun h2 => ?_)
          · have h2 : ((i : Int) == 9) = true := h2
            rw [show G = decide ((c.toNat : Int) > 1) by rw [hG, ← e10, h1, ← e9, h2, ec]; rfl]
            exact ⟨wk_pick [0] [0, 5, 6, 7, 8, 14, 15, 16, 21] rfl, trivial⟩
          · have h2 : ((i : Int) == 9) = false := h2
            rw [show G = false by rw [hG, ← e10, h1, ← e9, h2]; rfl]
            exact ⟨wk_pick [0] [0, 5, 6, 7, 8, 14, 15, 16, 21] rfl, trivial⟩
      · refine aw_cond (boolI (fun h1 => ?_) (fun h1 => ?_))
        · have h1 : G = true := h1
          rw [h1] at hlk
          refine aw_seq (aw_region hT ?_)
          refine aw_ret ?_
          rw [hlk]
          exact retPick [0] ⟨rfl, rfl⟩ rfl
        · have h1 : G = false := h1
          rw [h1] at hlk hG
          have go : (i = 9 → c.toNat ≤ 1) ∧ i ≤ 9 := by
            have h := hG.symm
            rw [Bool.or_eq_false_iff, Bool.and_eq_false_iff] at h
            have a1 := of_decide_eq_false h.1
            refine ⟨fun e => ?_, by omega⟩
            rcases h.2 with h | h
            · exact absurd e (of_decide_eq_false h)
            · have := of_decide_eq_false h; omega
          refine aw_seq (aw_region hT ?_)
          refine aw_cond (boolI (fun h2 => ?_) (fun h2 => ?_))
          · have h2 : decide ((c.toNat : Int) ≥ 128) = true := h2
            rw [e8] at h2
            rw [h2] at hlk
            have h2 := of_decide_eq_true h2
            have i8 : i ≤ 8 := by
              rcases Nat.lt_or_ge i 9 with h | h
              · omega
              · have := go.1 (by omega); omega
            have hpw : 128 ^ i ≤ 128 ^ 8 := Nat.pow_le_pow_right (by omega) i8
            have hmul : (c.toNat - 128) * 128 ^ i ≤ 127 * 128 ^ i := Nat.mul_le_mul_right _ (by omega)
            have hsum : N + (c.toNat - 128) * 128 ^ i < 128 ^ (i + 1) := by rw [Nat.pow_succ]; omega
            have v1 : IntKind.u64.wrap (n + IntKind.u64.wrap (IntKind.u64.wrap (IntKind.u8.wrap ((c.toNat : Int) - 128)) * p)) = ((N + (c.toNat - 128) * 128 ^ i : Nat) : Int) := by
              rw [show IntKind.u8.wrap ((c.toNat : Int) - 128) = ((c.toNat - 128 : Nat) : Int) by show ((c.toNat : Int) - 128) % 256 = _; omega]
              rw [wrapU ((c.toNat - 128 : Nat) : Int) (by omega) (by omega), hp, ← Int.natCast_mul, wrapU (((c.toNat - 128) * 128 ^ i : Nat) : Int) (by omega) (by omega), hn, wrapU _ (by omega) (by omega)]
              omega
            have v2 : IntKind.u64.wrap (p * 128) = ((128 ^ (i + 1) : Nat) : Int) := by
              rw [hp, Nat.pow_succ]
              generalize 128 ^ i = Q at hpw
              rw [wrapU _ (by omega) (by omega)]
              omega
            refine aw_seq (aw_region hT ?_)
            refine aw_seq (aw_region hT ?_)
            refine aw_exit ?_
            refine aw_region hT ?_
            refine ⟨m - 1, by omega, _, wk_pick [0] [0, 5, 6, 14, 15, 16] rfl, i + 1, IntKind.i64.wrap ((i : Int) + 1), _, _, N + (c.toNat - 128) * 128 ^ i, by omega, ?_, by omega, v1, v2, hsum, ?_, rfl⟩
            · rw [wrap64 _ (by omega) (by omega)]; rfl
            · rw [hlk, Nat.pow_succ]
          · have h2 : decide ((c.toNat : Int) ≥ 128) = false := h2
            rw [e8] at h2
            rw [h2] at hlk
            have h2 := of_decide_eq_false h2
            refine aw_seq (aw_region hT ?_)
            refine boolI (fun h3 => ?_) (fun h3 => ?_)
            · have h3 : ((c.toNat : Int) == 0) = true := h3
              rw [ez] at h3
              rw [h3] at hlk
              refine aw_cond (boolI (fun h4 => ?_) (fun h4 => ?_))
              · have h4 : decide ((i : Int) > 0) = true := h4
                rw [e0] at h4
                rw [h4] at hlk
                refine aw_seq (aw_region hT ?_)
                refine aw_ret ?_
                rw [hlk]
                exact retPick [0] ⟨rfl, rfl⟩ rfl
              · have h4 : decide ((i : Int) > 0) = false := h4
                rw [e0] at h4
                rw [h4] at hlk
                exact aw_skip ⟨wk_pick [0] [0, 5, 6, 7, 8] rfl, hlk, by omega, go⟩
            · have h3 : ((c.toNat : Int) == 0) = false := h3
              rw [ez] at h3
              rw [h3] at hlk
              refine aw_cond ?_
              exact aw_skip ⟨wk_pick [0] [0, 5, 6, 7, 8] rfl, hlk, by omega, go⟩
    · rintro ⟨hlk, h128, h9, hi9⟩
      have hb2 : N + c.toNat * 128 ^ i < 18446744073709551616 ∧ c.toNat * 128 ^ i < 18446744073709551616 := by
        rcases Nat.lt_or_ge i 9 with h8 | h8
        · have h1 : 128 ^ i ≤ 128 ^ 8 := Nat.pow_le_pow_right (by omega) (by omega)
          have h2 : c.toNat * 128 ^ i ≤ 127 * 128 ^ 8 := Nat.mul_le_mul (by omega) h1
          omega
        · have hi : i = 9 := by omega
          have h1 := h9 hi
          subst hi
          have h2 : c.toNat * 128 ^ 9 ≤ 1 * 128 ^ 9 := Nat.mul_le_mul_right _ h1
          omega
      have v1 : IntKind.u64.wrap (n + IntKind.u64.wrap (IntKind.u64.wrap (c.toNat : Int) * p)) = ((N + c.toNat * 128 ^ i : Nat) : Int) := by
        rw [wrapU (c.toNat : Int) (by omega) (by omega), hp, ← Int.natCast_mul, wrapU ((c.toNat * 128 ^ i : Nat) : Int) (by omega) (by omega), hn, wrapU _ (by omega) (by omega)]
        omega
      have v2 : IntKind.i64.wrap ((i : Int) + 1) = ((i + 1 : Nat) : Int) := by rw [wrap64 _ (by omega) (by omega)]; rfl
      refine aw_seq (aw_region hT ?_)
      refine aw_ret ?_
      rw [hlk]
      show ∃ u2 H2, _ ∧ Pure (.tup [w64 ((N + c.toNat * 128 ^ i : Nat) : Int), i64 ((i + 1 : Nat) : Int), i64 0]) [inC b] u2 H2
      rw [← v1, ← v2]
      exact retPick [0] ⟨rfl, rfl⟩ rfl
  · have hi : ¬ (i : Int) < ((bx b).length : Int) := of_decide_eq_false h
    have hib : i = b.length := by omega
    rw [List.drop_eq_nil_of_le (by omega)] at hlk
    refine aw_exit ?_
    refine aw_seq (aw_region hT ?_)
    refine aw_ret ?_
    rw [hlk]
    exact retPick [0] ⟨rfl, rfl⟩ rfl

theorem numS_of (b : Bytes) : numS b = match decide ((lookB b).2.2 = 0) && decide ((lookB b).1 ≥ 2 ^ 63) with | true => (0, 0, 7) | false => ((lookB b).1, (lookB b).2.1, (lookB b).2.2) := by
  unfold numS; rfl
theorem In_num (b : Bytes) (hb : b.length ≤ 1000000) : AFm Tryz.prog 1 f_code_In_num [.ref 0 0] [inC b] (Pure (.tup [i64 (numS b).1, i64 (numS b).2.1, i64 (numS b).2.2]) [inC b]) := by
  have w := In_look b hb
  have hlt := lookB_ok (b := b)
  have hz : (lookB b).2.2 ≠ 0 → (lookB b).1 = 0 := fun h => (lookF_err b 0 0 1 h).1
  have hN := numS_of b
  generalize numS b = Z at hN
  generalize lookB b = Y at w hlt hz hN
  obtain ⟨n, k, e⟩ := Y
  have hN : Z = match decide (e = 0) && decide (n ≥ 2 ^ 63) with | true => (0, 0, 7) | false => (n, k, e) := hN
  have w : AFm Tryz.prog 1 f_code_In_look [.ref 0 0] [inC b] (Pure (.tup [w64 n, i64 k, i64 e]) [inC b]) := w
  have hlt : e = 0 → n < 2 ^ 64 := fun h => (hlt h).2.2.2.2
  have hz : e ≠ 0 → n = 0 := hz
  refine af_bodyM 1 hT F_code_In_num rfl rfl N_code_In_num rfl rfl ?_
  refine aw_seq (aw_region hT ?_)
  refine aw_seq (aw_region hT ?_)
  refine callP (af_in [0] w rfl rfl rfl) ?_
  refine aw_cut ⟨⟨24, [(5, w64 n), (6, i64 k), (7, i64 e)]⟩, [inC b]⟩ ((decide (e = 0) && decide (n ≥ 2 ^ 63)) = false) (aw_seq (aw_region hT ?_)) ?_
  · have ee : (e == 0) = decide (e = 0) := by
      by_cases h : e = 0
      · rw [decide_eq_true h, h]; rfl
      · rw [decide_eq_false h]; exact beq_eq_false_iff_ne.mpr h
    have en : decide ((n : Int) ≥ 9223372036854775808) = decide (n ≥ 2 ^ 63) := decide_eq_decide.mpr (by omega)
    refine boolI (fun h1 => ?_) (fun h1 => ?_)
    · have h1 : (e == 0) = true := h1
      rw [ee] at h1
      refine aw_cond (boolI (fun h2 => ?_) (fun h2 => ?_))
      · have h2 : decide ((n : Int) ≥ 9223372036854775808) = true := h2
        rw [en] at h2
        refine aw_seq (aw_region hT ?_)
        refine aw_ret ?_
        rw [h1, h2] at hN
        have hN : Z = (0, 0, 7) := hN
        subst hN
        exact retPick [0] ⟨rfl, rfl⟩ rfl
      · have h2 : decide ((n : Int) ≥ 9223372036854775808) = false := h2
        rw [en] at h2
        exact aw_skip ⟨wk_pick [0] [5, 6, 7] rfl, by rw [h1, h2]; rfl⟩
    · have h1 : (e == 0) = false := h1
      rw [ee] at h1
      refine aw_cond ?_
      exact aw_skip ⟨wk_pick [0] [5, 6, 7] rfl, by rw [h1]; rfl⟩
  · intro h
    rw [h] at hN
    have hN : Z = (n, k, e) := hN
    subst hN
    have hn : n < 2 ^ 63 := by
      by_cases he : e = 0
      · rw [decide_eq_true he, Bool.true_and] at h
        have := of_decide_eq_false h; omega
      · rw [hz he]; omega
    have v : IntKind.i64.wrap (n : Int) = n := wrap64 _ (by omega) (by omega)
    refine aw_seq (aw_region hT ?_)
    refine aw_ret ?_
    show ∃ u2 H2, _ ∧ Pure (.tup [i64 (n : Int), i64 k, i64 e]) [inC b] u2 H2
    rw [show i64 (n : Int) = i64 (IntKind.i64.wrap (n : Int)) by rw [v]]
    exact retPick [0] ⟨rfl, rfl⟩ rfl

theorem numS_k (b : Bytes) : (numS b).2.1 ≤ b.length ∧ ((numS b).2.2 ≠ 0 → (numS b).2.1 = 0) := by
  have hok := lookB_ok (b := b)
  have hz : (lookB b).2.2 ≠ 0 → (lookB b).2.1 = 0 := fun h => (lookF_err b 0 0 1 h).2
  unfold numS
  generalize lookB b = Y at hok hz
  obtain ⟨n, k, e⟩ := Y
  have hok : e = 0 → k ≤ b.length := fun h => (hok h).2.1
  have hz : e ≠ 0 → k = 0 := hz
  show (match decide (e = 0) && decide (n ≥ 2 ^ 63) with | true => (0, 0, 7) | false => (n, k, e) : Nat × Nat × Int).2.1 ≤ _ ∧ ((match decide (e = 0) && decide (n ≥ 2 ^ 63) with | true => (0, 0, 7) | false => (n, k, e) : Nat × Nat × Int).2.2 ≠ 0 → (match decide (e = 0) && decide (n ≥ 2 ^ 63) with | true => (0, 0, 7) | false => (n, k, e) : Nat × Nat × Int).2.1 = 0)
  cases decide (e = 0) && decide (n ≥ 2 ^ 63) with
  | true => exact ⟨Nat.zero_le _, fun _ => rfl⟩
  | false =>
    refine ⟨?_, hz⟩
    show k ≤ _
    by_cases he : e = 0
    · exact hok he
    · rw [hz he]; exact Nat.zero_le _

theorem In_Num (b : Bytes) (hb : b.length ≤ 1000000) : AFm Tryz.prog 1 f_code_In_Num [.ref 0 0] [inC b] (Pure (.tup [i64 (numS b).1, i64 (numS b).2.2]) [inC (b.drop (numS b).2.1)]) := by
  have w := In_num b hb
  have hk := numS_k b
  generalize numS b = Y at w hk
  obtain ⟨n, k, e⟩ := Y
  have w : AFm Tryz.prog 1 f_code_In_num [.ref 0 0] [inC b] (Pure (.tup [i64 n, i64 k, i64 e]) [inC b]) := w
  have hk1 : k ≤ b.length := hk.1
  have hk2 : e ≠ 0 → k = 0 := hk.2
  have hbl := bx_len b
  refine af_bodyM 1 hT F_code_In_Num rfl rfl N_code_In_Num rfl rfl ?_
  refine aw_seq (aw_region hT ?_)
  refine aw_seq (aw_region hT ?_)
  refine callP (af_in [0] w rfl rfl rfl) ?_
  refine aw_cut ⟨⟨26, [(4, i64 n), (6, i64 e)]⟩, [inC (b.drop k)]⟩ True (aw_seq (aw_region hT ?_)) (fun _ => ?_)
  · refine aw_cond (boolI (fun h => ?_) (fun h => ?_))
    · refine aw_region hT ?_
      refine ⟨⟨Int.natCast_nonneg _, by omega⟩, ?_⟩
      show _ ∧ True
      rw [show inC (b.drop k) = .cells t_code_In [.p (.sl 1 (((bx b).take ((bx b).length : Int).toNat).drop ((k : Nat) : Int).toNat))] by rw [Int.toNat_natCast, Int.toNat_natCast, List.take_length, ← bx_drop]]
      exact ⟨wk_pick [0] [4, 6] rfl, trivial⟩
    · have h : (e == 0) = false := h
      have he : e ≠ 0 := by intro e0; rw [e0] at h; exact absurd h (by decide)
      rw [hk2 he, List.drop_zero]
      exact aw_skip ⟨wk_pick [0] [4, 6] rfl, trivial⟩
  · refine aw_seq (aw_region hT ?_)
    refine aw_ret ?_
    exact retPick [0] ⟨rfl, rfl⟩ rfl
end Go.Proofs.YtinfbclgkghgaaaGreat.AL

/- The document's layer 05: digits; what stands next. -/
namespace Go.Proofs.YtinfbclgkghgaaaGreat.AL
open Go Go.Proofs

theorem numD_half (h o : Nat) (ho : o ≤ 1) (hh : ¬ h < 64) : numD (2 * h + o) = UInt8.ofNat (2 * (h % 64) + o + 128) :: numD (h / 64) := by
  rw [numD_ge (by omega)]
  rw [show (2 * h + o) % 128 = 2 * (h % 64) + o by omega, show (2 * h + o) / 128 = h / 64 by omega]

theorem numD_le (n : Nat) (h : n < 2 ^ 63) : (numD n).length ≤ 9 := numD_len 8 n (by rw [show (128 : Nat) ^ 9 = 2 ^ 63 by decide]; exact h)

theorem ref05_digits2 (h : Nat) : ∀ (o : Nat), o ≤ 1 → h < 2 ^ 62 → AF Tryz.prog f_ref05_digits [i64 h, i64 o] [] (Pure (bA (numD (2 * h + o))) []) ∧ AF Tryz.prog f_ref05_digits [i64 h, i64 o] [] (Pure (.msl 0 1 0 (bx (numD (2 * h + o))).length) [.row t_u8 1 (bx (numD (2 * h + o)))]) := by
  induction h using Nat.strongRecOn with
  | ind h ih =>
  intro o ho hh
  have hM : AF Tryz.prog f_ref05_digits [i64 h, i64 o] [] (Pure (.msl 0 1 0 (bx (numD (2 * h + o))).length) [.row t_u8 1 (bx (numD (2 * h + o)))]) := by
    refine af_body hT F_ref05_digits rfl rfl N_ref05_digits rfl ?_
    refine aw_seq (aw_region hT ?_)
    refine aw_seq (aw_seq (aw_region hT ?_))
    refine aw_cond (boolI (fun h1 => ?_) (fun h1 => ?_))
    · have h1 := of_decide_eq_true (show decide ((h : Int) < 64) = true from h1)
      refine aw_seq (aw_region hT ?_)
      refine aw_ret ?_
      have e : bx (numD (2 * h + o)) = [[.raw (.int .u8 (IntKind.u8.wrap (IntKind.i64.wrap (IntKind.i64.wrap (2 * (h : Int)) + (o : Int)))))]] := by
        rw [numD_lt (by omega), wrap64 (2 * (h : Int)) (by omega) (by omega), wrap64 _ (by omega) (by omega), show 2 * (h : Int) + (o : Int) = ((2 * h + o : Nat) : Int) by omega, u8_wrapN]
        rfl
      rw [e]
      exact retPick [0] ⟨rfl, rfl⟩ rfl
    · have h1 := of_decide_eq_false (show decide ((h : Int) < 64) = false from h1)
      refine aw_skip ?_
      have wN : AF Tryz.prog f_ref05_Num [i64 ((h / 64 : Nat) : Int)] [] (Pure (bA (numD (h / 64))) []) := by
        refine af_body hT F_ref05_Num rfl rfl N_ref05_Num rfl ?_
        refine aw_seq (aw_region hT ?_)
        refine aw_seq (aw_region hT ?_)
        have w := (ih (h / 64 / 2) (by omega) (h / 64 % 2) (by omega) (by omega)).1
        rw [show 2 * (h / 64 / 2) + h / 64 % 2 = h / 64 by omega, ← nat_tdiv _ 2 (by omega), ← nat_tmod _ 2] at w
        refine callP (af_at w _ rfl rfl) ?_
        refine aw_ret ?_
        exact retPick [] ⟨rfl, rfl⟩ rfl
      rw [← nat_tdiv h 64 (by omega)] at wN
      obtain ⟨C, hC⟩ : ∃ C, C = UInt8.ofNat (2 * (h % 64) + o + 128) := ⟨_, rfl⟩
      have e : bx (numD (2 * h + o)) = [[u8 C]] ++ bx (numD (h / 64)) := by rw [numD_half h o ho (by omega), ← hC]; rfl
      have hlen := numD_le (h / 64) (by omega)
      have v : [[PV.raw (.int .u8 (IntKind.u8.wrap (IntKind.i64.wrap (IntKind.i64.wrap (IntKind.i64.wrap (2 * ((h : Int).tmod ((64 : Nat) : Int))) + (o : Int)) + 128))))]] = [[u8 C]] := by
        rw [nat_tmod, wrap64 (2 * ((h % 64 : Nat) : Int)) (by omega) (by omega), wrap64 (2 * ((h % 64 : Nat) : Int) + (o : Int)) (by omega) (by omega), wrap64 _ (by omega) (by omega), show 2 * ((h % 64 : Nat) : Int) + (o : Int) + 128 = ((2 * (h % 64) + o + 128 : Nat) : Int) by omega, u8_wrapN, hC]
      rw [e]
      have hbn := bx_len (numD (h / 64))
      refine aw_seq (aw_region hT ?_)
      refine callP (af_at wN _ rfl rfl) ?_
      refine ⟨rfl, ⟨?_, ?_⟩, ?_⟩
      · show (1 + (bx (numD (h / 64))).length) * 1 ≤ 140737488355328
        omega
      · show 1 + (bx (numD (h / 64))).length ≤ 140737488355328
        omega
      refine aw_ret ?_
      rw [← v]
      exact retPick [1] ⟨rfl, rfl⟩ rfl
  exact ⟨af_frz hM rfl, hM⟩
theorem ref05_digits (h o : Nat) (ho : o ≤ 1) (hh : h < 2 ^ 62) : AF Tryz.prog f_ref05_digits [i64 h, i64 o] [] (Pure (bA (numD (2 * h + o))) []) := (ref05_digits2 h o ho hh).1
theorem ref05_NumM (n : Nat) (hn : n < 2 ^ 63) : AF Tryz.prog f_ref05_Num [i64 n] [] (Pure (.msl 0 1 0 (bx (numD n)).length) [.row t_u8 1 (bx (numD n))]) := by
  refine af_body hT F_ref05_Num rfl rfl N_ref05_Num rfl ?_
  refine aw_seq (aw_region hT ?_)
  refine aw_seq (aw_region hT ?_)
  have w := (ref05_digits2 (n / 2) (n % 2) (by omega) (by omega)).2
  rw [show 2 * (n / 2) + n % 2 = n by omega, ← nat_tdiv _ 2 (by omega), ← nat_tmod _ 2] at w
  refine callP w ?_
  refine aw_ret ?_
  exact retPick [0] ⟨rfl, rfl⟩ rfl
theorem ref05_Num (n : Nat) (hn : n < 2 ^ 63) : AF Tryz.prog f_ref05_Num [i64 n] [] (Pure (bA (numD n)) []) := by
  refine af_body hT F_ref05_Num rfl rfl N_ref05_Num rfl ?_
  refine aw_seq (aw_region hT ?_)
  refine aw_seq (aw_region hT ?_)
  have w := ref05_digits (n / 2) (n % 2) (by omega) (by omega)
  rw [show 2 * (n / 2) + n % 2 = n by omega, ← nat_tdiv _ 2 (by omega), ← nat_tmod _ 2] at w
  refine callP (af_at w _ rfl rfl) ?_
  refine aw_ret ?_
  exact retPick [] ⟨rfl, rfl⟩ rfl
end Go.Proofs.YtinfbclgkghgaaaGreat.AL

/- The document's layer 05: how many digits stand next. -/
namespace Go.Proofs.YtinfbclgkghgaaaGreat.AL
open Go Go.Proofs

theorem ibeq (i k : Nat) : ((i : Int) == (k : Int)) = decide (i = k) := by
  by_cases e : i = k
  · rw [decide_eq_true e, e]; exact beq_self_eq_true _
  · rw [decide_eq_false e]; exact beq_eq_false_iff_ne.mpr (by omega)

set_option maxRecDepth 20000 in
theorem ref05_run (b : Bytes) (_hb : b.length ≤ 1000000) : AF Tryz.prog f_ref05_run [bA b] [] (Pure (.tup [i64 (lookB b).2.1, i64 (lookB b).2.2]) []) := by
  have hbl := bx_len b
  refine af_body hT F_ref05_run rfl rfl N_ref05_run rfl ?_
  refine aw_seq (aw_region hT ?_)
  refine aw_seq (aw_seq (aw_region hT ?_))
  refine aw_block ?_
  refine aw_loopW (fun m s => ∃ (i : Nat) (j : Int), m + i = b.length ∧ j = i ∧ i ≤ 10 ∧ (lookB b).2 = (lookF i 0 1 (b.drop i)).2 ∧ s = ⟨⟨40, [(0, bA b), (4, i64 j)]⟩, []⟩) b.length ⟨⟨40, _⟩, []⟩ (wk_pick [] [0, 4] rfl) ⟨0, 0, rfl, rfl, by omega, rfl, rfl⟩ ?_
  rintro m s ⟨i, j, hmi, rfl, hi10, hlk, rfl⟩
  refine aw_seq (aw_seq (aw_region hT ?_))
  refine aw_cond (boolI (fun h => ?_) (fun h => ?_))
  · have hi : i < b.length := by
      have := of_decide_eq_true (show decide ((i : Int) < ((bx b).length : Int)) = true from h)
      omega
    have hx := List.getElem?_eq_getElem hi
    have hdr : b.drop i = b[i] :: b.drop (i + 1) := List.drop_eq_getElem_cons hi
    generalize b[i] = c at hx hdr
    have hxp : (bx b)[((i : Nat) : Int).toNat]? = some [u8 c] := by rw [Int.toNat_natCast]; exact bx_get hx
    have hc := c.toNat_lt
    refine aw_skip ?_
    rw [hdr] at hlk
    unfold lookF at hlk
    have e10 : ((i : Int) == 10) = decide (i = 10) := ibeq i 10
    have e9 : ((i : Int) == 9) = decide (i = 9) := ibeq i 9
    have ec : decide ((c.toNat : Int) > 1) = decide (c.toNat > 1) := decide_eq_decide.mpr (by omega)
    have ez : ((c.toNat : Int) == 0) = decide (c.toNat = 0) := ibeq c.toNat 0
    have e8 : decide ((c.toNat : Int) < 128) = !decide (c.toNat ≥ 128) := by rw [← decide_not]; exact decide_eq_decide.mpr (by omega)
    have e0 : decide ((i : Int) > 0) = decide (i > 0) := decide_eq_decide.mpr (by omega)
    refine aw_cut ⟨⟨40, [(0, bA b), (4, i64 i)]⟩, []⟩ ((decide (i = 10) || (decide (i = 9) && decide (c.toNat > 1))) = false ∧ decide (c.toNat ≥ 128) = true) (aw_block ?_) ?_
    · refine aw_cut ⟨⟨40, [(0, bA b), (4, i64 i)]⟩, []⟩ ((decide (i = 10) || (decide (i = 9) && decide (c.toNat > 1))) = false) (aw_seq (aw_region hT ?_)) ?_
      · refine boolI (fun h1 => ?_) (fun h1 => ?_)
        · have h1 : ((i : Int) == 10) = true := h1
          rw [e10] at h1
          rw [h1] at hlk
          refine aw_cond ?_
          refine aw_seq (aw_region hT ?_)
          refine aw_ret ?_
          rw [hlk]
          exact retPick [] ⟨rfl, rfl⟩ rfl
        · have h1 : ((i : Int) == 10) = false := h1
          rw [e10] at h1
          refine boolI (fun h2 => ?_) (fun h2 => ?_)
          · have h2 : ((i : Int) == 9) = true := h2
            rw [e9] at h2
            refine ⟨Int.natCast_nonneg _, optI hxp ?_⟩
            refine aw_cond (boolI (fun h3 => ?_) (fun h3 => ?_))
            · have h3 : decide ((c.toNat : Int) > 1) = true := h3
              rw [ec] at h3
              rw [h1, h2, h3] at hlk
              refine aw_seq (aw_region hT ?_)
              refine aw_ret ?_
              rw [hlk]
              exact retPick [] ⟨rfl, rfl⟩ rfl
            · have h3 : decide ((c.toNat : Int) > 1) = false := h3
              rw [ec] at h3
              exact aw_skip ⟨wk_pick [] [0, 4] rfl, by rw [h1, h2, h3]; rfl⟩
          · have h2 : ((i : Int) == 9) = false := h2
            rw [e9] at h2
            refine aw_cond ?_
            exact aw_skip ⟨wk_pick [] [0, 4] rfl, by rw [h1, h2]; rfl⟩
      · intro hG
        rw [hG] at hlk
        refine aw_seq (aw_region hT ?_)
        refine ⟨Int.natCast_nonneg _, optI hxp ?_⟩
        refine aw_cond (boolI (fun h2 => ?_) (fun h2 => ?_))
        · have h2 : decide ((c.toNat : Int) < 128) = true := h2
          rw [e8, Bool.not_eq_true'] at h2
          rw [h2] at hlk
          have vi : IntKind.i64.wrap ((i : Int) + 1) = ((i + 1 : Nat) : Int) := by rw [wrap64 _ (by omega) (by omega)]; rfl
          refine aw_cut ⟨⟨40, [(4, i64 i)]⟩, []⟩ ((lookB b).2 = (i + 1, 0)) (aw_seq (aw_region hT ?_)) ?_
          · refine ⟨Int.natCast_nonneg _, optI hxp ?_⟩
            refine boolI (fun h3 => ?_) (fun h3 => ?_)
            · have h3 : ((c.toNat : Int) == 0) = true := h3
              rw [ez] at h3
              rw [h3] at hlk
              refine aw_cond (boolI (fun h4 => ?_) (fun h4 => ?_))
              · have h4 : decide ((i : Int) > 0) = true := h4
                rw [e0] at h4
                rw [h4] at hlk
                refine aw_seq (aw_region hT ?_)
                refine aw_ret ?_
                rw [hlk]
                exact retPick [] ⟨rfl, rfl⟩ rfl
              · have h4 : decide ((i : Int) > 0) = false := h4
                rw [e0] at h4
                rw [h4] at hlk
                exact aw_skip ⟨wk_pick [] [4] rfl, hlk⟩
            · have h3 : ((c.toNat : Int) == 0) = false := h3
              rw [ez] at h3
              rw [h3] at hlk
              refine aw_cond ?_
              exact aw_skip ⟨wk_pick [] [4] rfl, hlk⟩
          · intro hlk
            refine aw_seq (aw_region hT ?_)
            refine aw_ret ?_
            rw [hlk]
            show ∃ u2 H2, _ ∧ Pure (.tup [i64 ((i + 1 : Nat) : Int), i64 0]) [] u2 H2
            rw [← vi]
            exact retPick [] ⟨rfl, rfl⟩ rfl
        · have h2 : decide ((c.toNat : Int) < 128) = false := h2
          rw [e8, Bool.not_eq_false'] at h2
          exact aw_skip ⟨wk_pick [] [0, 4] rfl, hG, h2⟩
    · rintro ⟨hG, h2⟩
      have hi8 : i ≤ 8 := by
        rw [Bool.or_eq_false_iff, Bool.and_eq_false_iff] at hG
        have a1 := of_decide_eq_false hG.1
        have a2 := of_decide_eq_true h2
        rcases hG.2 with h | h
        · have := of_decide_eq_false h; omega
        · have := of_decide_eq_false h; omega
      rw [hG, h2] at hlk
      refine aw_region hT ?_
      refine ⟨m - 1, by omega, _, wk_pick [] [0, 4] rfl, i + 1, IntKind.i64.wrap ((i : Int) + 1), by omega, ?_, by omega, hlk.trans (lookF_any _ _ _ _ _ _), rfl⟩
      rw [wrap64 _ (by omega) (by omega)]; rfl
  · have hi : ¬ (i : Int) < ((bx b).length : Int) := of_decide_eq_false h
    rw [List.drop_eq_nil_of_le (by omega)] at hlk
    refine aw_exit ?_
    refine aw_seq (aw_region hT ?_)
    refine aw_ret ?_
    rw [hlk]
    exact retPick [] ⟨rfl, rfl⟩ rfl

theorem val_take {d : Bytes} {i : Nat} {c : UInt8} (h : d[i]? = some c) : val (d.take (i + 1)) = val (d.take i) + (c.toNat % 128) * 128 ^ i := by
  have hi := (List.getElem?_eq_some_iff.1 h).1
  rw [List.take_add_one, h]
  show val (d.take i ++ [c]) = _
  rw [val_snoc, List.length_take, Nat.min_eq_left (by omega)]
theorem val_mono : ∀ (d : Bytes) (i : Nat), val (d.take i) ≤ val d
  | [], i => by simp
  | c :: r, 0 => by simp [val]
  | c :: r, i + 1 => by
    rw [List.take_succ_cons, val, val]
    have := val_mono r i
    omega

set_option maxRecDepth 20000 in
theorem ref05_halves (d : Bytes) (hd0 : 0 < d.length) (hd : d.length ≤ 10) (hv : val d < 2 ^ 64) : AF Tryz.prog f_ref05_halves [bA d] [] (Pure (.tup [i64 ((val d / 2 : Nat) : Int), i64 ((val d % 2 : Nat) : Int)]) []) := by
  have hbl := bx_len d
  obtain ⟨c0, h0⟩ : ∃ c, d[0]? = some c := ⟨_, List.getElem?_eq_getElem hd0⟩
  have hx0 : (bx d)[(0 : Int).toNat]? = some [u8 c0] := bx_get h0
  have hc0 := c0.toNat_lt
  have hv1 : val (d.take 1) = c0.toNat % 128 := by rw [show (1 : Nat) = 0 + 1 from rfl, val_take h0]; simp [val]
  have hodd : val d % 2 = c0.toNat % 2 := by
    cases d with
    | nil => simp at hd0
    | cons x r =>
      simp only [List.getElem?_cons_zero, Option.some.injEq] at h0
      subst h0
      rw [val]; omega
  refine af_body hT F_ref05_halves rfl rfl N_ref05_halves rfl ?_
  refine aw_seq (aw_region hT ?_)
  refine aw_seq (aw_region hT ?_)
  refine ⟨Int.le_refl _, optI hx0 ?_⟩
  refine aw_seq (aw_region hT ?_)
  refine ⟨Int.le_refl _, optI hx0 ?_⟩
  refine aw_seq (aw_region hT ?_)
  refine aw_seq (aw_seq (aw_region hT ?_))
  refine aw_block ?_
  refine aw_loopW (fun m s => ∃ (i : Nat) (j a p o : Int), m + i = d.length ∧ 1 ≤ i ∧ j = i ∧ a = ((val (d.take i) / 2 : Nat) : Int) ∧ p = ((64 * 128 ^ (min (i - 1) 8) : Nat) : Int) ∧ o = ((val d % 2 : Nat) : Int) ∧ s = ⟨⟨41, [(0, bA d), (4, i64 a), (5, i64 o), (6, i64 p), (7, i64 j)]⟩, []⟩) (d.length - 1) ⟨⟨41, _⟩, []⟩ (wk_pick [] [0, 4, 5, 6, 7] rfl) ⟨1, 1, _, 64, _, by omega, by omega, rfl, ?_, rfl, ?_, rfl⟩ ?_
  · rw [hv1]
    show IntKind.i64.wrap ((IntKind.i64.wrap ((c0.toNat : Int).tmod ((128 : Nat) : Int))).tdiv ((2 : Nat) : Int)) = _
    rw [nat_tmod, wrap64 ((c0.toNat % 128 : Nat) : Int) (by omega) (by omega), nat_tdiv _ 2 (by omega)]
  · show (IntKind.i64.wrap (c0.toNat : Int)).tmod ((2 : Nat) : Int) = _
    rw [wrap64 (c0.toNat : Int) (by omega) (by omega), nat_tmod, hodd]
  rintro m s ⟨i, j, a, p, o, hmi, hi1, rfl, ha, hp, ho, rfl⟩
  refine aw_seq (aw_seq (aw_region hT ?_))
  refine aw_cond (boolI (fun h => ?_) (fun h => ?_))
  · have hi : i < d.length := by
      have := of_decide_eq_true (show decide ((i : Int) < ((bx d).length : Int)) = true from h)
      omega
    have hx := List.getElem?_eq_getElem hi
    generalize d[i] = c at hx
    have hxp : (bx d)[((i : Nat) : Int).toNat]? = some [u8 c] := by rw [Int.toNat_natCast]; exact bx_get hx
    have hc := c.toNat_lt
    have hvt := val_take hx
    have hvm := val_mono d (i + 1)
    obtain ⟨k, rfl⟩ : ∃ k, i = k + 1 := ⟨i - 1, by omega⟩
    have hpk : min (k + 1 - 1) 8 = k := by omega
    rw [hpk] at hp
    have hpow : 128 ^ (k + 1) = 128 * 128 ^ k := by rw [Nat.pow_succ, Nat.mul_comm]
    have hm2 : (c.toNat % 128) * 128 ^ (k + 1) = 2 * ((c.toNat % 128) * (64 * 128 ^ k)) := by
      rw [hpow]
      rw [show (128 : Nat) * 128 ^ k = 2 * (64 * 128 ^ k) by omega]
      rw [Nat.mul_left_comm]
    have hk8 : 128 ^ k ≤ 128 ^ 8 := Nat.pow_le_pow_right (by omega) (by omega)
    have v1 : IntKind.i64.wrap (a + IntKind.i64.wrap (IntKind.i64.wrap ((c.toNat : Int).tmod ((128 : Nat) : Int)) * p)) = ((val (d.take (k + 1 + 1)) / 2 : Nat) : Int) := by
      rw [nat_tmod, wrap64 ((c.toNat % 128 : Nat) : Int) (by omega) (by omega), hp, ← Int.natCast_mul]
      generalize (c.toNat % 128) * (64 * 128 ^ k) = Q at hm2
      rw [wrap64 (Q : Int) (by omega) (by omega), ha, wrap64 _ (by omega) (by omega)]
      omega
    refine aw_skip ?_
    refine aw_cut ⟨⟨41, [(0, bA d), (4, i64 ((val (d.take (k + 1 + 1)) / 2 : Nat) : Int)), (5, i64 o), (6, i64 ((64 * 128 ^ (min (k + 1) 8) : Nat) : Int)), (7, i64 ((k + 1 : Nat) : Int))]⟩, []⟩ True (aw_block (aw_seq (aw_region hT ?_))) (fun _ => ?_)
    · refine ⟨Int.natCast_nonneg _, optI hxp ?_⟩
      refine aw_seq (aw_region hT ?_)
      refine aw_cond (boolI (fun h1 => ?_) (fun h1 => ?_))
      · have h1 := of_decide_eq_true (show decide (((k + 1 : Nat) : Int) < 9) = true from h1)
        refine aw_region hT ?_
        rw [← v1, show ((64 * 128 ^ (min (k + 1) 8) : Nat) : Int) = IntKind.i64.wrap (p * 128) by
          have h7 : 128 ^ k ≤ 128 ^ 7 := Nat.pow_le_pow_right (by omega) (by omega)
          rw [hp, show min (k + 1) 8 = k + 1 by omega, hpow]
          generalize 128 ^ k = Q at h7
          rw [wrap64 _ (by omega) (by omega)]
          omega]
        exact ⟨wk_pick [] [0, 4, 5, 6, 7] rfl, trivial⟩
      · have h1 := of_decide_eq_false (show decide (((k + 1 : Nat) : Int) < 9) = false from h1)
        rw [← v1, show ((64 * 128 ^ (min (k + 1) 8) : Nat) : Int) = p by
          rw [hp, show min (k + 1) 8 = k by omega]]
        exact aw_skip ⟨wk_pick [] [0, 4, 5, 6, 7] rfl, trivial⟩
    · refine aw_region hT ?_
      refine ⟨m - 1, by omega, _, wk_pick [] [0, 4, 5, 6, 7] rfl, k + 1 + 1, IntKind.i64.wrap (((k + 1 : Nat) : Int) + 1), _, _, o, by omega, by omega, ?_, rfl, rfl, ho, rfl⟩
      rw [wrap64 _ (by omega) (by omega)]; rfl
  · have hi : ¬ (i : Int) < ((bx d).length : Int) := of_decide_eq_false h
    have hid : i = d.length := by omega
    rw [hid, List.take_length] at ha
    refine aw_exit ?_
    refine aw_seq (aw_region hT ?_)
    refine aw_ret ?_
    rw [← ha, ← ho]
    exact retPick [] ⟨rfl, rfl⟩ rfl
end Go.Proofs.YtinfbclgkghgaaaGreat.AL

/- The document's layer 05: what stands next is got. -/
namespace Go.Proofs.YtinfbclgkghgaaaGreat.AL
open Go Go.Proofs

set_option maxRecDepth 20000 in
theorem ref05_GetNum (b : Bytes) (hb : b.length ≤ 1000000) : AF Tryz.prog f_ref05_GetNum [bA b] [] (Pure (.tup [i64 (numS b).1, bA (b.drop (numS b).2.1), i64 (numS b).2.2]) []) := by
  have w := ref05_run b hb
  have hok := lookB_ok (b := b)
  have hz : (lookB b).2.2 ≠ 0 → (lookB b).1 = 0 ∧ (lookB b).2.1 = 0 := fun h => lookF_err b 0 0 1 h
  have hN := numS_of b
  generalize numS b = Z at hN
  generalize lookB b = Y at w hok hz hN
  obtain ⟨n, k, e⟩ := Y
  have hN : Z = match decide (e = 0) && decide (n ≥ 2 ^ 63) with | true => (0, 0, 7) | false => (n, k, e) := hN
  have w : AF Tryz.prog f_ref05_run [bA b] [] (Pure (.tup [i64 k, i64 e]) []) := w
  have hok : e = 0 → 0 < k ∧ k ≤ b.length ∧ k ≤ 10 ∧ n = val (b.take k) ∧ n < 2 ^ 64 := hok
  have hz : e ≠ 0 → n = 0 ∧ k = 0 := hz
  have hbl := bx_len b
  refine af_body hT F_ref05_GetNum rfl rfl N_ref05_GetNum rfl ?_
  refine aw_seq (aw_region hT ?_)
  refine aw_cut ⟨⟨35, [(0, bA b), (5, i64 k), (6, i64 e)]⟩, []⟩ True (aw_region hT ?_) (fun _ => ?_)
  · refine callP (af_at w _ rfl rfl) ?_
    exact ⟨wk_pick [] [0, 5, 6] rfl, trivial⟩
  refine aw_cut ⟨⟨35, [(0, bA b), (5, i64 k)]⟩, []⟩ (e = 0) (aw_seq (aw_region hT ?_)) ?_
  · refine aw_cond (boolI (fun h => ?_) (fun h => ?_))
    · have h : (e != 0) = true := h
      have he : e ≠ 0 := by simpa using h
      obtain ⟨rfl, rfl⟩ := hz he
      rw [decide_eq_false he] at hN
      have hN : Z = (0, 0, e) := hN
      subst hN
      refine aw_seq (aw_region hT ?_)
      refine aw_ret ?_
      show ∃ u2 H2, _ ∧ Pure (.tup [i64 ((0 : Nat) : Int), bA (b.drop 0), i64 e]) [] u2 H2
      rw [List.drop_zero]
      exact retPick [] ⟨rfl, rfl⟩ rfl
    · have h : (e != 0) = false := h
      have he : e = 0 := by simpa using h
      exact aw_skip ⟨wk_pick [] [0, 5] rfl, he⟩
  intro he
  obtain ⟨k0, kl, k10, hv, h64⟩ := hok he
  rw [decide_eq_true he, Bool.true_and] at hN
  have htl : (b.take k).length = k := by rw [List.length_take]; omega
  have wh := ref05_halves (b.take k) (by omega) (by omega) (by rw [← hv]; exact h64)
  rw [← hv] at wh
  have wh : AF Tryz.prog f_ref05_halves [.p (.sl 1 (((bx b).take ((k : Nat) : Int).toNat).drop (0 : Int).toNat))] [] (Pure (.tup [i64 ((n / 2 : Nat) : Int), i64 ((n % 2 : Nat) : Int)]) []) := by
    rw [Int.toNat_natCast, ← bx_take]; exact wh
  obtain ⟨half, hh⟩ : ∃ x, x = n / 2 := ⟨_, rfl⟩
  obtain ⟨odd, ho⟩ : ∃ x, x = n % 2 := ⟨_, rfl⟩
  rw [← hh, ← ho] at wh
  refine aw_cut ⟨⟨35, [(0, bA b), (5, i64 k), (7, i64 half), (8, i64 odd)]⟩, []⟩ True (aw_region hT ?_) (fun _ => ?_)
  · refine ⟨⟨Int.le_refl _, Int.natCast_nonneg _, ?_⟩, ?_⟩
    · show (k : Int) ≤ ((bx b).length : Int)
      omega
    refine callP (af_at wh _ rfl rfl) ?_
    exact ⟨wk_pick [] [0, 5, 7, 8] rfl, trivial⟩
  refine aw_cut ⟨⟨35, [(0, bA b), (5, i64 k), (7, i64 half), (8, i64 odd)]⟩, []⟩ (n < 2 ^ 63) (aw_seq (aw_region hT ?_)) ?_
  · refine aw_cond (boolI (fun h => ?_) (fun h => ?_))
    · have h := of_decide_eq_true (show decide ((half : Int) > 4611686018427387903) = true from h)
      rw [decide_eq_true (show n ≥ 2 ^ 63 by omega)] at hN
      have hN : Z = (0, 0, 7) := hN
      subst hN
      refine aw_seq (aw_region hT ?_)
      refine aw_ret ?_
      show ∃ u2 H2, _ ∧ Pure (.tup [i64 ((0 : Nat) : Int), bA (b.drop 0), i64 7]) [] u2 H2
      rw [List.drop_zero]
      exact retPick [] ⟨rfl, rfl⟩ rfl
    · have h := of_decide_eq_false (show decide ((half : Int) > 4611686018427387903) = false from h)
      exact aw_skip ⟨wk_pick [] [0, 5, 7, 8] rfl, by omega⟩
  intro hn63
  rw [decide_eq_false (show ¬ n ≥ 2 ^ 63 by omega)] at hN
  have hN : Z = (n, k, e) := hN
  subst hN
  refine aw_seq ?_
  refine aw_draw [] [] hT follows_mixed (by rfl) ?_
  refine ⟨⟨Int.natCast_nonneg _, ?_, Int.le_refl _⟩, ?_⟩
  · show (k : Int) ≤ ((bx b).length : Int)
    omega
  refine aw_ret ?_
  show ∃ u2 H2, _ ∧ Pure (.tup [i64 (n : Int), bA (b.drop k), i64 e]) [] u2 H2
  rw [show i64 (n : Int) = i64 (IntKind.i64.wrap (IntKind.i64.wrap (2 * (half : Int)) + (odd : Int))) by
    rw [wrap64 (2 * (half : Int)) (by omega) (by omega), wrap64 _ (by omega) (by omega)]; exact congrArg (fun z : Int => i64 z) (by omega)]
  rw [show bA (b.drop k) = .p (.sl 1 (((bx b).take ((bx b).length : Int).toNat).drop ((k : Nat) : Int).toNat)) by rw [Int.toNat_natCast, Int.toNat_natCast, List.take_length, ← bx_drop]]
  rw [he]
  exact retPick [] ⟨rfl, rfl⟩ rfl
end Go.Proofs.YtinfbclgkghgaaaGreat.AL

/- The layer 05 (code): a number is put. -/
namespace Go.Proofs.YtinfbclgkghgaaaGreat.AL
open Go Go.Proofs

abbrev outC (at_ : Nat) (b : Bytes) : ABlk := .cells t_code_Out [.msl at_ 1 0 (bx b).length]
abbrev outH (b : Bytes) : List ABlk := [outC 1 b, .row t_u8 1 (bx b)]

theorem code_digits (n : Int) : AF Tryz.prog f_code_digits [w64 n] [] (Pure (.clo (.func f_code_digits_1) [.ref 0 0]) [.cells t_uint64 [w64 n]]) := by
  refine af_body hT F_code_digits rfl rfl N_code_digits rfl ?_
  refine aw_seq (aw_region hT ?_)
  refine aw_seq (aw_region hT ?_)
  refine aw_ret ?_
  exact retPick [0] ⟨rfl, rfl⟩ rfl

abbrev putJ (L : ABlk) (x : Bytes × Int) : List ABlk := [outC 4 x.1, .cells t_p_code_Out [.ref 0 0], .cells t_uint64 [w64 x.2], L, .row t_u8 1 (bx x.1)]

abbrev putK (L : ABlk) (x : Bytes × Int) : List ABlk := [outC 5 x.1, .cells t_p_code_Out [.ref 0 0], .cells t_uint64 [w64 x.2], L, .dead, .row t_u8 1 (bx x.1)]
theorem put_pad {args : List AV} {q : RecK} {l : List AV} {b b' : Bytes} {m : Int} (hl : belowL 4 l = true) (ha : belowL 0 args = true) (h : AYm Tryz.prog 4 3 args (putJ (.lp q .ready none l) (b, m)) (fun r H' => r = bl true ∧ H' = putJ (.lp q .ready none l) (b', m))) :
    AY Tryz.prog 3 args (putJ (.lp q .ready none l) (b, m)) (fun r H' => r = bl true ∧ H' = putK (.lp q .ready none l) (b', m)) := by
  have hid : ∀ c, c < 4 → rho 5 [0, 1, 2, 3, 4] c = c := fun c hc => by
    rcases c with _ | _ | _ | _ | c
    · rfl
    · rfl
    · rfl
    · rfl
    · omega
  have hid2 : ∀ c, c < 4 → rho2 5 [0, 1, 2, 3] c = c := fun c hc => by
    rcases c with _ | _ | _ | _ | c
    · rfl
    · rfl
    · rfl
    · rfl
    · omega
  refine ay_pad [0, 1, 2, 3, 4] h ⟨rfl, by decide, ?_⟩ (show ∀ p ∈ [0, 1, 2, 3, 4], p < 5 by decide) (by decide) rfl (ren_idL (fun c hc => absurd hc (by omega)) args ha).symm ?_
  · intro c k hk
    right
    rcases c with _ | _ | _ | _ | _ | c
    · obtain rfl := Option.some.inj hk; exact ⟨0, rfl, rfl⟩
    · obtain rfl := Option.some.inj hk; exact ⟨1, rfl, rfl⟩
    · obtain rfl := Option.some.inj hk; exact ⟨2, rfl, rfl⟩
    · obtain rfl := Option.some.inj hk
      refine ⟨3, rfl, ?_⟩
      show some (ABlk.lp q .ready none l) = some (ABlk.lp q .ready none (renL (rho 5 [0, 1, 2, 3, 4]) l))
      rw [ren_idL hid l hl]
    · obtain rfl := Option.some.inj hk; exact ⟨4, rfl, rfl⟩
    · simp at hk
  · rintro r1 H1' ⟨rfl, rfl⟩
    refine ⟨show 4 ≤ 5 by decide, rfl, ?_⟩
    show [_, _, _, ABlk.lp q .ready none (renL (rho2 5 [0, 1, 2, 3]) l), _, _] = _
    rw [ren_idL hid2 l hl]
    rfl

theorem digits_seq (q : RecK) (l : List AV) (b0 : Bytes) (n : Nat) (hn : n < 2 ^ 64) (hl : belowL 4 l = true)
    (hy : ∀ (b : Bytes) (m : Int) (c : UInt8), b.length ≤ b0.length + 9 → AYm Tryz.prog 4 3 [.p (u8 c)] (putJ (.lp q .ready none l) (b, m)) (fun r H' => r = bl true ∧ H' = putJ (.lp q .ready none l) (b ++ [c], m))) :
    AFm Tryz.prog 4 f_code_digits_1 [.yld 3, .ref 2 0] (putJ (.lp q .ready none l) (b0, n)) (fun _ H' => ∃ m, H' = putJ (.lp q .ready none l) (b0 ++ numD n, m)) := by
  refine af_bodyM 4 hT F_code_digits_1 rfl rfl N_code_digits_1 rfl rfl ?_
  refine aw_cut2 (fun s => ∃ (b : Bytes) (m : Nat) (v : Int), v = m ∧ m < 128 ∧ b.length ≤ b0.length + 9 ∧ b ++ [UInt8.ofNat m] = b0 ++ numD n ∧ s = ⟨⟨18, [(0, .yld 3), (1, .ref 2 0)]⟩, putJ (.lp q .ready none l) (b, v)⟩) (aw_block ?_) ?_
  · refine aw_loopW (fun k s => ∃ (b : Bytes) (m : Nat) (v : Int), v = m ∧ k = m ∧ m < 2 ^ 64 ∧ (∃ j, b.length + j ≤ b0.length + 9 ∧ m < 128 ^ (j + 1)) ∧ b ++ numD m = b0 ++ numD n ∧ s = ⟨⟨18, [(0, .yld 3), (1, .ref 2 0)]⟩, putJ (.lp q .ready none l) (b, v)⟩) n ⟨⟨18, _⟩, _⟩ (wk_keep [0, 1]) ⟨b0, n, _, rfl, rfl, hn, ⟨9, by omega, by omega⟩, rfl, rfl⟩ ?_
    rintro k s ⟨b, m, v, hv, rfl, hm, ⟨j, hj, hmj⟩, hbn, rfl⟩
    refine aw_seq (aw_seq (aw_region hT ?_))
    refine aw_cond (boolI (fun h => ?_) (fun h => ?_))
    · have h := of_decide_eq_true (show decide (v ≥ 128) = true from h)
      have hm128 : ¬ k < 128 := by omega
      rw [numD_ge hm128] at hbn
      refine aw_skip ?_
      have hj0 : 0 < j := by
        rcases Nat.eq_zero_or_pos j with rfl | h0
        · omega
        · exact h0
      obtain ⟨j, rfl⟩ : ∃ i, j = i + 1 := ⟨j - 1, by omega⟩
      have y : AYm Tryz.prog 4 3 [.p (.raw (.int .u8 (IntKind.u8.wrap (IntKind.u8.wrap (v.tmod ((128 : Nat) : Int)) + 128))))] (putJ (.lp q .ready none l) (b, v)) (fun r H' => r = bl true ∧ H' = putJ (.lp q .ready none l) (b ++ [UInt8.ofNat (k % 128 + 128)], v)) := by
        have e : IntKind.u8.wrap (IntKind.u8.wrap (v.tmod ((128 : Nat) : Int)) + 128) = ((UInt8.ofNat (k % 128 + 128)).toNat : Int) := by
          rw [hv, nat_tmod, ← u8_wrapN]
          show (((k % 128 : Nat) : Int) % 256 + 128) % 256 = ((k % 128 + 128 : Nat) : Int) % 256
          omega
        rw [e]
        exact hy b v _ (by omega)
      refine aw_block (aw_seq (aw_seq (aw_region hT ?_)))
      refine ⟨_, put_pad hl rfl y, ?_⟩
      rintro r H' ⟨rfl, rfl⟩
      refine aw_cond ?_
      refine aw_skip ?_
      refine aw_region hT ?_
      have hdiv : k / 128 < 128 ^ (j + 1) := by rw [Nat.pow_succ] at hmj; exact Nat.div_lt_of_lt_mul (by rw [Nat.mul_comm]; exact hmj)
      refine ⟨k / 128, by omega, _, wk_pickL 3 [0, 1, 2, 3, 5] [0, 1] _ rfl hl rfl rfl rfl, b ++ [UInt8.ofNat (k % 128 + 128)], k / 128, IntKind.u64.wrap (v.tdiv 128), ?_, rfl, by omega, ⟨j, by rw [List.length_append]; simp; omega, hdiv⟩, by rw [List.append_assoc]; exact hbn, rfl⟩
      rw [hv, Int.tdiv_eq_ediv_of_nonneg (Int.natCast_nonneg _), wrapU _ (by omega) (by omega)]
      omega
    · have h := of_decide_eq_false (show decide (v ≥ 128) = false from h)
      have hm128 : k < 128 := by omega
      rw [numD_lt hm128] at hbn
      refine aw_exit ?_
      refine ⟨_, wk_keep [0, 1], b, k, v, hv, hm128, by omega, hbn, rfl⟩
  · rintro s ⟨b, m, v, hv, hm, hb, hbn, rfl⟩
    have y : AYm Tryz.prog 4 3 [.p (.raw (.int .u8 (IntKind.u8.wrap v)))] (putJ (.lp q .ready none l) (b, v)) (fun r H' => r = bl true ∧ H' = putJ (.lp q .ready none l) (b ++ [UInt8.ofNat m], v)) := by
      rw [hv, u8_wrapN]
      exact hy b _ _ hb
    refine aw_region hT ?_
    refine ⟨_, put_pad hl rfl y, ?_⟩
    rintro r H' ⟨rfl, rfl⟩
    exact ⟨_, _, wk_pickL 3 [0, 1, 2, 3, 5] [0] _ rfl hl rfl rfl rfl, v, by rw [← hbn]; rfl⟩

theorem Out_put (b0 : Bytes) (n : Nat) (hn : n < 2 ^ 64) (hb : b0.length ≤ 1000000) : AFm Tryz.prog 1 f_code_Out_put [.ref 0 0, w64 n] (outH b0) (Pure (.tup []) (outH (b0 ++ numD n))) := by
  refine af_bodyM 1 hT F_code_Out_put rfl rfl N_code_Out_put rfl rfl ?_
  refine aw_seq (aw_region hT ?_)
  refine aw_seq (aw_region hT ?_)
  refine callP (af_lift (code_digits n) _ rfl) ?_
  refine aw_block ?_
  have hlen : (numD n).length ≤ 10 := numD_len 9 n (by omega)
  refine aw_rangeFunc 3 18 [0, 2, 3, 4, 1] [2, 6] putJ (fun L (_ : Unit) => putJ L (b0, 0)) (b0, (n : Int)) (fun x => x.1 = b0 ++ numD n) (fun _ _ => False) rfl rfl (fun L _ => ⟨rfl, fun _ => rfl⟩) (fun L _ => ⟨rfl, fun _ => rfl⟩) rfl ?_ ?_ ?_
  · refine AFm.mono (digits_seq _ _ b0 n hn (belowL_dense (by rfl)) ?_) ?_
    · intro b m c hbl
      refine AYm.mono (ay_roundL (J := putJ) (Z := fun L (_ : Unit) => putJ L (b0, 0)) (a := (b, m)) (Rnd := fun x => x = (b ++ [c], m)) (Stp := fun _ _ => False) (fun L _ => ⟨rfl, fun _ => rfl⟩) (fun L _ => ⟨rfl, fun _ => rfl⟩) ?_ ?_ rfl rfl ?_) ?_
      · exact fun t u ht => pickF_lt (ks := [2, 6]) rfl ht
      · show ∀ p ∈ [7], p < 18
        decide
      · intro B l hl
        refine aw_region hT ?_
        refine ⟨rfl, ?_⟩
        refine aw_block ?_
        refine aw_draw [6, 7, 10] [] hT follows_mixed (by rfl) ?_
        have hb2 := bx_len b
        refine ⟨rfl, ⟨?_, ?_⟩, ?_⟩
        · show ((bx b).length + 1) * 1 ≤ 140737488355328
          omega
        · show (bx b).length + 1 ≤ 140737488355328
          omega
        refine ⟨rfl, ?_⟩
        refine ⟨rfl, ?_⟩
        refine ⟨rfl, ?_⟩
        refine ⟨rfl, ?_⟩
        refine ⟨(b ++ [c], m), ⟨18, []⟩, rfl, ?_⟩
        show Wk _ _ ⟨_, [.cells t_code_Out [.msl 4 1 0 (bx (b ++ [c])).length], .cells t_p_code_Out [.ref 0 0], .cells t_uint64 [w64 m], _, .row t_u8 1 (bx (b ++ [c]))]⟩
        rw [bx_snoc]
        exact wk_pickL 3 [0, 1, 2, 3, 6] [] _ rfl hl rfl rfl rfl
      · rintro r H' (⟨hr, a', rfl, hH⟩ | ⟨hr, c, z, h3, hH⟩)
        · exact ⟨hr, hH⟩
        · exact h3.elim
    · rintro r H' ⟨m, rfl⟩
      exact .inl ⟨(b0 ++ numD n, m), rfl, rfl⟩
  · rintro ⟨b, m⟩ hb'
    have hb' : b = b0 ++ numD n := hb'
    subst hb'
    exact retPick [0, 4] ⟨rfl, rfl⟩ rfl
  · intro _ _ h; exact h.elim

theorem Out_Num (b : Bytes) (n : Nat) (hn : n < 2 ^ 63) (hb : b.length ≤ 1000000) : AFm Tryz.prog 1 f_code_Out_Num [.ref 0 0, i64 n] (outH b) (Pure (i64 0) (outH (b ++ numD n))) := by
  have w := Out_put b n (by omega) hb
  obtain ⟨v, hv⟩ : ∃ v : Int, v = n := ⟨_, rfl⟩
  rw [← hv] at w ⊢
  rw [← wrapU v (by omega) (by omega)] at w
  refine af_bodyM 1 hT F_code_Out_Num rfl rfl N_code_Out_Num rfl rfl ?_
  refine aw_seq (aw_region hT ?_)
  refine aw_seq (aw_seq (aw_region hT ?_))
  refine aw_cond (boolI (fun h => ?_) (fun h => ?_))
  · have h := of_decide_eq_true (show decide (v < 0) = true from h)
    omega
  refine aw_skip ?_
  refine aw_seq (aw_region hT ?_)
  refine callP (af_in [0, 1] w rfl rfl rfl) ?_
  refine aw_seq (aw_region hT ?_)
  refine aw_ret ?_
  exact retPick [0, 2] ⟨rfl, rfl⟩ rfl

theorem Out_All (b : Bytes) (hb : b.length ≤ 1000000) : AFm Tryz.prog 2 f_code_Out_All [.ref 0 0] (outH b) (Pure (bA b) (outH b)) := by
  refine af_bodyM 2 hT F_code_Out_All rfl rfl N_code_Out_All rfl rfl ?_
  refine aw_seq (aw_region hT ?_)
  refine aw_seq (aw_seq (aw_region hT ?_))
  refine aw_cond ?_
  refine aw_skip ?_
  refine aw_seq (aw_region hT ?_)
  have flat : flatH [ABlk.row t_u8 1 (bx b)] := by
    intro k hk
    simp only [List.mem_singleton] at hk
    subst hk
    intro e he u hu
    simp only [bx, List.mem_map] at he
    obtain ⟨c, _, rfl⟩ := he
    simp only [List.mem_singleton] at hu
    subst hu
    trivial
  refine callP (af_lent (clone_u8M b hb) 1 rfl ⟨.inr (.inl ⟨rfl, rfl⟩), trivial⟩ rfl flat) ?_
  refine aw_wk (wk_frzE 2 2 _ rfl (bx_len b).symm rfl rfl) ?_
  refine aw_ret ?_
  exact retPick [0, 1] ⟨rfl, rfl⟩ rfl

theorem code_NewIn (b : Bytes) (hb : b.length ≤ 1000000) : AF Tryz.prog f_code_NewIn [bA b] [] (Pure (.ref 0 0) [inC b]) := by
  refine af_body hT F_code_NewIn rfl rfl N_code_NewIn rfl ?_
  refine aw_seq (aw_region hT ?_)
  refine aw_seq (aw_region hT ?_)
  refine callP (af_at (clone_u8 b hb) _ rfl rfl) ?_
  refine aw_ret ?_
  exact retPick [0] ⟨rfl, rfl⟩ rfl
end Go.Proofs.YtinfbclgkghgaaaGreat.AL

/- The layer 05 (code): bytes. -/
namespace Go.Proofs.YtinfbclgkghgaaaGreat.AL
open Go Go.Proofs

def numsD (l : List Int) : Bytes := l.flatMap fun n => numD n.toNat
theorem numsD_snoc (l : List Int) (n : Int) : numsD (l ++ [n]) = numsD l ++ numD n.toNat := by unfold numsD; simp

/-- The bytes that stand first, what is left, and what is wrong. -/
def bytesS (b : Bytes) : Bytes × Bytes × Int := match (numS b).2.2 != 0 with
  | true => ([], b, (numS b).2.2)
  | false => match decide ((numS b).1 > 4096) with
    | true => ([], b, 2)
    | false => match decide ((numS b).2.1 + (numS b).1 > b.length) with
      | true => ([], b, 6)
      | false => ((b.drop (numS b).2.1).take (numS b).1, (b.drop (numS b).2.1).drop (numS b).1, 0)
def bytesD (s : Bytes) : Bytes := numD s.length ++ s
theorem bytesS_bytesD (s r : Bytes) (hs : s.length ≤ 4096) : bytesS (bytesD s ++ r) = (s, r, 0) := by
  unfold bytesS bytesD
  rw [List.append_assoc, numS_numD _ _ (by omega)]
  show (match decide (s.length > 4096) with
    | true => ([], numD s.length ++ (s ++ r), 2)
    | false => match decide ((numD s.length).length + s.length > (numD s.length ++ (s ++ r)).length) with
      | true => ([], numD s.length ++ (s ++ r), 6)
      | false => (((numD s.length ++ (s ++ r)).drop (numD s.length).length).take s.length, ((numD s.length ++ (s ++ r)).drop (numD s.length).length).drop s.length, 0) : Bytes × Bytes × Int) = _
  rw [decide_eq_false (show ¬ s.length > 4096 by omega), decide_eq_false (show ¬ (numD s.length).length + s.length > (numD s.length ++ (s ++ r)).length by simp only [List.length_append]; omega)]
  simp
theorem sl_eq (b : Bytes) (i j : Nat) : ((bx b).take j).drop i = bx ((b.take j).drop i) := by rw [bx_drop, bx_take]
theorem td_eq (b : Bytes) (k n : Nat) : (b.take (k + n)).drop k = (b.drop k).take n := by rw [List.drop_take, Nat.add_sub_cancel_left]

set_option maxRecDepth 20000 in
theorem In_Bytes (b : Bytes) (hb : b.length ≤ 1000000) : AFm Tryz.prog 1 f_code_In_Bytes [.ref 0 0] [inC b] (Pure (.tup [bA (bytesS b).1, i64 (bytesS b).2.2]) [inC (bytesS b).2.1]) := by
  refine AFm.mono (R := fun r H' => ∃ z, z = bytesS b ∧ r = .tup [bA z.1, i64 z.2.2] ∧ H' = [inC z.2.1]) ?_ (by rintro r H' ⟨b, rfl, rfl, rfl⟩; exact ⟨rfl, rfl⟩)
  have w := In_num b hb
  have hk := (numS_k b).1
  have hn := numS_lt b
  have hz : bytesS b = match (numS b).2.2 != 0 with
    | true => ([], b, (numS b).2.2)
    | false => match decide ((numS b).1 > 4096) with
      | true => ([], b, 2)
      | false => match decide ((numS b).2.1 + (numS b).1 > b.length) with
        | true => ([], b, 6)
        | false => ((b.drop (numS b).2.1).take (numS b).1, (b.drop (numS b).2.1).drop (numS b).1, 0) := rfl
  generalize bytesS b = Z at hz
  generalize numS b = Y at w hk hn hz
  obtain ⟨n, k, e⟩ := Y
  have w : AFm Tryz.prog 1 f_code_In_num [.ref 0 0] [inC b] (Pure (.tup [i64 n, i64 k, i64 e]) [inC b]) := w
  have hz : Z = match e != 0 with
    | true => ([], b, e)
    | false => match decide (n > 4096) with
      | true => ([], b, 2)
      | false => match decide (k + n > b.length) with
        | true => ([], b, 6)
        | false => ((b.drop k).take n, (b.drop k).drop n, 0) := hz
  have hk : k ≤ b.length := hk
  have hn : n < 2 ^ 63 := hn
  have hbl := bx_len b
  refine af_bodyM 1 hT F_code_In_Bytes rfl rfl N_code_In_Bytes rfl rfl ?_
  refine aw_seq (aw_region hT ?_)
  refine aw_cut ⟨⟨53, [(0, .ref 0 0), (4, i64 n), (5, i64 k), (6, i64 e)]⟩, [inC b]⟩ True (aw_region hT ?_) (fun _ => ?_)
  · refine callP (af_in [0] w rfl rfl rfl) ?_
    exact ⟨wk_pick [0] [0, 4, 5, 6] rfl, trivial⟩
  refine aw_cut ⟨⟨53, [(0, .ref 0 0), (4, i64 n), (5, i64 k)]⟩, [inC b]⟩ (k + n ≤ b.length ∧ Z = ((b.drop k).take n, (b.drop k).drop n, 0)) (aw_block (aw_seq (aw_region hT ?_))) ?_
  · refine aw_cond (boolI (fun h => ?_) (fun h => ?_))
    · have h : (e != 0) = true := h
      rw [h] at hz
      refine aw_seq (aw_region hT ?_)
      refine aw_wk (wk_nilP 2 1 rfl) ?_
      refine aw_ret ?_
      exact retPick [0] ⟨_, hz.symm, rfl, rfl⟩ rfl
    have h : (e != 0) = false := h
    rw [h] at hz
    refine aw_seq (aw_region hT ?_)
    refine aw_cond (boolI (fun h1 => ?_) (fun h1 => ?_))
    · have h1 := of_decide_eq_true (show decide ((n : Int) > 4096) = true from h1)
      rw [decide_eq_true (show n > 4096 by omega)] at hz
      refine aw_seq (aw_region hT ?_)
      refine aw_wk (wk_nilP 2 1 rfl) ?_
      refine aw_ret ?_
      exact retPick [0] ⟨_, hz.symm, rfl, rfl⟩ rfl
    have h1 := of_decide_eq_false (show decide ((n : Int) > 4096) = false from h1)
    rw [decide_eq_false (show ¬ n > 4096 by omega)] at hz
    have hw : IntKind.i64.wrap (((bx b).length : Int) - k) = ((b.length - k : Nat) : Int) := by rw [hbl, wrap64 _ (by omega) (by omega)]; omega
    refine aw_seq (aw_region hT ?_)
    refine aw_cond (boolI (fun h2 => ?_) (fun h2 => ?_))
    · have h2 := of_decide_eq_true (show decide ((n : Int) > IntKind.i64.wrap (((bx b).length : Int) - k)) = true from h2)
      rw [hw] at h2
      rw [decide_eq_true (show k + n > b.length by omega)] at hz
      refine aw_seq (aw_region hT ?_)
      refine aw_wk (wk_nilP 2 1 rfl) ?_
      refine aw_ret ?_
      exact retPick [0] ⟨_, hz.symm, rfl, rfl⟩ rfl
    have h2 := of_decide_eq_false (show decide ((n : Int) > IntKind.i64.wrap (((bx b).length : Int) - k)) = false from h2)
    rw [hw] at h2
    rw [decide_eq_false (show ¬ k + n > b.length by omega)] at hz
    exact aw_skip ⟨wk_pick [0] [0, 4, 5] rfl, by omega, hz⟩
  rintro ⟨hkn, hz⟩
  have hw : IntKind.i64.wrap ((k : Int) + n) = ((k + n : Nat) : Int) := by rw [wrap64 _ (by omega) (by omega)]; omega
  have w2 : AF Tryz.prog f_slices_Clone_byte [.p (.sl 1 (((bx b).take (IntKind.i64.wrap ((k : Int) + n)).toNat).drop ((k : Nat) : Int).toNat))] [] (Pure (bA ((b.drop k).take n)) []) := by
    rw [hw, Int.toNat_natCast, Int.toNat_natCast, sl_eq, td_eq]
    exact clone_u8 _ (by rw [List.length_take, List.length_drop]; omega)
  refine aw_cut ⟨⟨53, [(0, .ref 0 0), (4, i64 n), (5, i64 k), (7, bA ((b.drop k).take n))]⟩, [inC b]⟩ True (aw_region hT ?_) (fun _ => ?_)
  · refine ⟨⟨Int.natCast_nonneg _, by rw [hw]; omega, by rw [hw]; omega⟩, ?_⟩
    refine callP (af_at w2 _ rfl rfl) ?_
    exact ⟨wk_pick [0] [0, 4, 5, 7] rfl, trivial⟩
  refine aw_cut2 (fun s => ∃ X, X = bx ((b.drop k).drop n) ∧ s = ⟨⟨53, [(7, bA ((b.drop k).take n))]⟩, [.cells t_code_In [.p (.sl 1 X)]]⟩) (aw_region hT ?_) ?_
  · refine ⟨⟨by rw [hw]; exact Int.natCast_nonneg _, by rw [hw]; omega⟩, ?_⟩
    refine ⟨_, wk_pick [0] [7] rfl, _, ?_, rfl⟩
    rw [hw, Int.toNat_natCast, Int.toNat_natCast, List.take_length, ← bx_drop, List.drop_drop]
  · rintro _ ⟨X, rfl, rfl⟩
    refine aw_seq (aw_region hT ?_)
    refine aw_ret ?_
    exact retPick [0] ⟨_, hz.symm, rfl, rfl⟩ rfl

set_option maxRecDepth 20000 in
theorem ref05_GetBytes (b : Bytes) (hb : b.length ≤ 1000000) : AF Tryz.prog f_ref05_GetBytes [bA b] [] (Pure (.tup [bA (bytesS b).1, bA (bytesS b).2.1, i64 (bytesS b).2.2]) []) := by
  refine AF.mono (R := fun r H' => ∃ z, z = bytesS b ∧ r = .tup [bA z.1, bA z.2.1, i64 z.2.2] ∧ H' = []) ?_ (by rintro r H' ⟨b, rfl, rfl, rfl⟩; exact ⟨rfl, rfl⟩)
  have w := ref05_GetNum b hb
  have hk := (numS_k b).1
  have hn := numS_lt b
  have hz : bytesS b = match (numS b).2.2 != 0 with
    | true => ([], b, (numS b).2.2)
    | false => match decide ((numS b).1 > 4096) with
      | true => ([], b, 2)
      | false => match decide ((numS b).2.1 + (numS b).1 > b.length) with
        | true => ([], b, 6)
        | false => ((b.drop (numS b).2.1).take (numS b).1, (b.drop (numS b).2.1).drop (numS b).1, 0) := rfl
  generalize bytesS b = Z at hz
  generalize numS b = Y at w hk hn hz
  obtain ⟨n, k, e⟩ := Y
  have w : AF Tryz.prog f_ref05_GetNum [bA b] [] (Pure (.tup [i64 n, bA (b.drop k), i64 e]) []) := w
  have hz : Z = match e != 0 with
    | true => ([], b, e)
    | false => match decide (n > 4096) with
      | true => ([], b, 2)
      | false => match decide (k + n > b.length) with
        | true => ([], b, 6)
        | false => ((b.drop k).take n, (b.drop k).drop n, 0) := hz
  have hk : k ≤ b.length := hk
  have hn : n < 2 ^ 63 := hn
  have hdl : (bx (b.drop k)).length = b.length - k := by rw [bx_len, List.length_drop]
  generalize hd : b.drop k = d at w hz hdl
  refine af_body hT F_ref05_GetBytes rfl rfl N_ref05_GetBytes rfl ?_
  refine aw_seq (aw_region hT ?_)
  refine aw_cut ⟨⟨33, [(0, bA b), (5, i64 n), (6, bA d), (7, i64 e)]⟩, []⟩ True (aw_region hT ?_) (fun _ => ?_)
  · refine callP (af_at w _ rfl rfl) ?_
    exact ⟨wk_pick [] [0, 5, 6, 7] rfl, trivial⟩
  refine aw_seq (aw_seq (aw_region hT ?_))
  refine aw_cond (boolI (fun h => ?_) (fun h => ?_))
  · have h : (e != 0) = true := h
    rw [h] at hz
    refine aw_seq (aw_region hT ?_)
    refine aw_wk (wk_nilP 2 1 rfl) ?_
    refine aw_ret ?_
    exact retPick [] ⟨_, hz.symm, rfl, rfl⟩ rfl
  have h : (e != 0) = false := h
  rw [h] at hz
  refine aw_skip ?_
  refine aw_seq (aw_seq (aw_region hT ?_))
  refine aw_cond (boolI (fun h1 => ?_) (fun h1 => ?_))
  · have h1 := of_decide_eq_true (show decide ((n : Int) > 4096) = true from h1)
    rw [decide_eq_true (show n > 4096 by omega)] at hz
    refine aw_seq (aw_region hT ?_)
    refine aw_wk (wk_nilP 2 1 rfl) ?_
    refine aw_ret ?_
    exact retPick [] ⟨_, hz.symm, rfl, rfl⟩ rfl
  have h1 := of_decide_eq_false (show decide ((n : Int) > 4096) = false from h1)
  rw [decide_eq_false (show ¬ n > 4096 by omega)] at hz
  refine aw_skip ?_
  refine aw_seq (aw_seq (aw_region hT ?_))
  refine aw_cond (boolI (fun h2 => ?_) (fun h2 => ?_))
  · have h2 := of_decide_eq_true (show decide ((n : Int) > ((bx d).length : Int)) = true from h2)
    rw [decide_eq_true (show k + n > b.length by omega)] at hz
    refine aw_seq (aw_region hT ?_)
    refine aw_wk (wk_nilP 2 1 rfl) ?_
    refine aw_ret ?_
    exact retPick [] ⟨_, hz.symm, rfl, rfl⟩ rfl
  have h2 := of_decide_eq_false (show decide ((n : Int) > ((bx d).length : Int)) = false from h2)
  rw [decide_eq_false (show ¬ k + n > b.length by omega)] at hz
  refine aw_skip ?_
  refine aw_seq ?_
  refine aw_draw [3] [] hT follows_mixed (by rfl) ?_
  refine ⟨⟨Int.le_refl _, Int.natCast_nonneg _, by omega⟩, ?_⟩
  have htl : (((bx d).take ((n : Nat) : Int).toNat).drop (0 : Int).toNat) = bx (d.take n) := by rw [Int.toNat_natCast, bx_take]; rfl
  have hdd : (((bx d).take (((bx d).length : Nat) : Int).toNat).drop ((n : Nat) : Int).toNat) = bx (d.drop n) := by rw [Int.toNat_natCast, Int.toNat_natCast, List.take_length, ← bx_drop]
  have hln : (bx (d.take n)).length = n := by rw [bx_len, List.length_take]; rw [bx_len] at hdl h2; omega
  refine ⟨⟨?_, ?_⟩, ?_⟩
  · show (((bx d).take ((n : Nat) : Int).toNat).drop (0 : Int).toNat).length * 1 ≤ _
    rw [htl, hln]; omega
  · show (((bx d).take ((n : Nat) : Int).toNat).drop (0 : Int).toNat).length ≤ _
    rw [htl, hln]; omega
  refine ⟨⟨Int.natCast_nonneg _, by omega, Int.le_refl _⟩, ?_⟩
  refine aw_wk (wk_frzE 2 0 _ htl rfl rfl rfl) ?_
  refine aw_ret ?_
  exact retPick [] ⟨_, hz.symm, congrArg (fun X => AV.tup [bA (d.take n), .p (.sl 1 X), i64 0]) hdd, rfl⟩ rfl

set_option maxRecDepth 20000 in
theorem ref05_BytesM (s : Bytes) (hs : s.length ≤ 4096) : AF Tryz.prog f_ref05_Bytes [bA s] [] (Pure (.tup [.msl 0 1 0 (bx (bytesD s)).length, i64 0]) [.row t_u8 1 (bx (bytesD s))]) := by
  have w := ref05_NumM s.length (by omega)
  have hbl := bx_len s
  refine af_body hT F_ref05_Bytes rfl rfl N_ref05_Bytes rfl ?_
  refine aw_seq (aw_region hT ?_)
  refine aw_seq (aw_seq (aw_region hT ?_))
  refine aw_cond (boolI (fun h => ?_) (fun h => ?_))
  · have h := of_decide_eq_true (show decide (((bx s).length : Int) > 4096) = true from h)
    omega
  refine aw_skip ?_
  rw [← hbl] at w
  have hnl := bx_len (numD (bx s).length)
  have hnn := numD_le (bx s).length (by omega)
  refine aw_seq (aw_region hT ?_)
  refine callP w ?_
  refine ⟨rfl, ⟨?_, ?_⟩, ?_⟩
  · show ((bx (numD (bx s).length)).length + (bx s).length) * 1 ≤ _
    omega
  · show (bx (numD (bx s).length)).length + (bx s).length ≤ _
    omega
  refine aw_ret ?_
  rw [bytesD, ← hbl, bx_app]
  exact retPick [1] ⟨rfl, rfl⟩ rfl

set_option maxRecDepth 20000 in
theorem Out_Bytes (b s : Bytes) (hb : b.length ≤ 900000) (hs : s.length ≤ 4096) : AFm Tryz.prog 1 f_code_Out_Bytes [.ref 0 0, bA s] (outH b) (Pure (i64 0) (outH (b ++ bytesD s))) := by
  have w := Out_put b s.length (by omega) (by omega)
  have hbl := bx_len s
  have hl : (numD s.length).length ≤ 9 := numD_le _ (by omega)
  refine af_bodyM 1 hT F_code_Out_Bytes rfl rfl N_code_Out_Bytes rfl rfl ?_
  refine aw_seq (aw_region hT ?_)
  refine aw_seq (aw_block (aw_seq (aw_region hT ?_)))
  refine aw_cond ?_
  refine aw_seq (aw_region hT ?_)
  refine aw_cond (boolI (fun h => ?_) (fun h => ?_))
  · have h := of_decide_eq_true (show decide (((bx s).length : Int) > 4096) = true from h)
    omega
  refine aw_skip ?_
  rw [← hbl] at w
  obtain ⟨v, hv⟩ : ∃ v : Int, v = ((bx s).length : Int) := ⟨_, rfl⟩
  rw [← hv] at w
  rw [← wrapU v (by omega) (by omega)] at w
  refine aw_cut ⟨⟨26, [(0, .ref 0 0), (1, bA s)]⟩, outH (b ++ numD (bx s).length)⟩ True (aw_region hT ?_) (fun _ => ?_)
  · rw [hv] at w
    refine callP (af_in [0, 1] w rfl rfl rfl) ?_
    exact ⟨wk_pick [0, 2] [0, 1] rfl, trivial⟩
  generalize hB : b ++ numD (bx s).length = B
  have hBl := bx_len B
  have hBn : B.length ≤ 900009 := by rw [← hB, List.length_append, hbl]; omega
  refine aw_seq (aw_region hT ?_)
  refine ⟨rfl, ⟨?_, ?_⟩, ?_⟩
  · show ((bx B).length + (bx s).length) * 1 ≤ _
    omega
  · show (bx B).length + (bx s).length ≤ _
    omega
  refine aw_seq (aw_region hT ?_)
  refine aw_ret ?_
  rw [bytesD, ← hbl, ← List.append_assoc, hB]
  show ∃ u2 H2, _ ∧ Pure (i64 0) [.cells t_code_Out [.msl 1 1 0 (bx (B ++ s)).length], .row t_u8 1 (bx (B ++ s))] u2 H2
  rw [bx_app]
  exact retPick [0, 2] ⟨rfl, rfl⟩ rfl
end Go.Proofs.YtinfbclgkghgaaaGreat.AL

/- The layer 07, plain: what was sealed is opened. -/
namespace Go.Proofs.YtinfbclgkghgaaaGreat.AL
open Go Go.Proofs Go.Proofs.YtinfbclgkghgaaaGreat.AL.Crc

theorem leB_cons (k n : Nat) : leB (k + 1) n = UInt8.ofNat n :: leB k (n / 256) := by
  unfold leB
  rw [List.range_succ_eq_map, List.map_cons, List.map_map]
  congr 1
  · rw [Nat.pow_zero, Nat.div_one]
  · apply List.map_congr_left
    intro j _
    show UInt8.ofNat (n / 256 ^ (j + 1)) = UInt8.ofNat (n / 256 / 256 ^ j)
    rw [Nat.pow_succ, Nat.mul_comm, Nat.div_div_eq_div_mul]
theorem lenum_leB : ∀ k n, lenum (leB k n) = n % 256 ^ k
  | 0, n => by show 0 = n % 1; omega
  | k + 1, n => by
    rw [leB_cons, lenum, lenum_leB k, UInt8.toNat_ofNat', show (256 : Nat) ^ (k + 1) = 256 * 256 ^ k by rw [Nat.pow_succ, Nat.mul_comm], Nat.mod_mul, Nat.mul_comm]
    omega
theorem numB_of {s p c r : Bytes} {a w n : Nat} (hs : s = p ++ (c ++ r)) (hp : p.length = a) (hc : c.length = w) (hl : lenum c = n) : numB s a w = n := by
  subst hs; subst hp; subst hc
  unfold numB
  rw [List.drop_left, List.take_left]; exact hl

theorem open_seal {b : Blk} (hn : b.nums = true) (hb : b.body.length ≤ 228) : openB (sealB b.all) = (b, 0) := by
  obtain ⟨k, v, a, e, q, hbk, k1, k4, hv, ha, he, hq⟩ := nums_nat hn
  generalize hbody : b.body = body at hbk hb
  have hall := all_len b (by rw [hbody]; exact hb)
  have hs : sealB b.all = [81, 77, UInt8.ofNat k, 0] ++ (leB 4 v ++ (leB 4 a ++ (leB 4 e ++ (leB 4 q ++ (leB 2 body.length ++ (leB 2 0 ++ (body ++ (List.replicate (228 - body.length) 0 ++ leB 4 (sum b.all).toNat)))))))) := by
    show b.all ++ leB 4 (sum b.all).toNat = _
    have : b.all = [81, 77, UInt8.ofNat k, 0] ++ (leB 4 v ++ (leB 4 a ++ (leB 4 e ++ (leB 4 q ++ (leB 2 body.length ++ (leB 2 0 ++ (body ++ List.replicate (228 - body.length) 0))))))) := by
      unfold Blk.all Blk.head
      rw [hbk]
      simp only [layB_cons, layB_nil, Int.toNat_natCast, List.append_assoc, List.append_nil]
    generalize leB 4 (sum b.all).toNat = z
    rw [this]
    simp only [List.append_assoc]
  have hlen := sealB_len b.all
  have hw := whole_seal b.all
  have hseal : b.sld = (sealB b.all, 0) := by unfold Blk.sld; rw [hn, decide_eq_false (by rw [hbody]; omega)]
  generalize sealB b.all = s at hs hlen hw hseal
  have l4 := fun n => leB_len 4 n
  have n20 : numB s 20 2 = body.length := numB_of (p := [81, 77, UInt8.ofNat k, 0] ++ (leB 4 v ++ (leB 4 a ++ (leB 4 e ++ leB 4 q)))) (c := leB 2 body.length) (by rw [hs]; simp only [List.append_assoc]; rfl) (by simp only [List.length_append, l4]; rfl) (leB_len _ _) (by rw [lenum_leB]; omega)
  have n4 : numB s 4 4 = v := numB_of (p := [81, 77, UInt8.ofNat k, 0]) (c := leB 4 v) hs rfl (leB_len _ _) (by rw [lenum_leB]; omega)
  have n8 : numB s 8 4 = a := numB_of (p := [81, 77, UInt8.ofNat k, 0] ++ leB 4 v) (c := leB 4 a) (by rw [hs]; simp only [List.append_assoc]; rfl) (by simp only [List.length_append, l4]; rfl) (leB_len _ _) (by rw [lenum_leB]; omega)
  have n12 : numB s 12 4 = e := numB_of (p := [81, 77, UInt8.ofNat k, 0] ++ (leB 4 v ++ leB 4 a)) (c := leB 4 e) (by rw [hs]; simp only [List.append_assoc]; rfl) (by simp only [List.length_append, l4]; rfl) (leB_len _ _) (by rw [lenum_leB]; omega)
  have n16 : numB s 16 4 = q := numB_of (p := [81, 77, UInt8.ofNat k, 0] ++ (leB 4 v ++ (leB 4 a ++ leB 4 e))) (c := leB 4 q) (by rw [hs]; simp only [List.append_assoc]; rfl) (by simp only [List.length_append, l4]; rfl) (leB_len _ _) (by rw [lenum_leB]; omega)
  have hd : (s.drop 24).take body.length = body := by
    have e1 : s = ([81, 77, UInt8.ofNat k, 0] ++ (leB 4 v ++ (leB 4 a ++ (leB 4 e ++ (leB 4 q ++ (leB 2 body.length ++ leB 2 0)))))) ++ (body ++ (List.replicate (228 - body.length) 0 ++ leB 4 (sum b.all).toNat)) := by rw [hs]; simp only [List.append_assoc]
    have e2 : ([81, 77, UInt8.ofNat k, 0] ++ (leB 4 v ++ (leB 4 a ++ (leB 4 e ++ (leB 4 q ++ (leB 2 body.length ++ leB 2 0)))))).length = 24 := by simp only [List.length_append, l4, leB_len]; rfl
    rw [e1, ← e2, List.drop_left, List.take_left]
  have hk : s.getD 2 0 = UInt8.ofNat k := by rw [hs]; rfl
  have hblk : blkOf s = b := by
    unfold blkOf
    rw [n20, n4, n8, n12, n16, hd, hk, hbk, UInt8.toNat_ofNat']
    congr 1
    omega
  unfold openB
  rw [hw, n20, hblk, hseal, decide_eq_true (show s.length = 256 by omega), decide_eq_false (show ¬ (body.length : Int) > 228 by omega)]
  show (match (0 : Int) != 0 || !(s == s) with | true => (Blk.zero, 7) | false => (b, 0) : Blk × Int) = _
  rw [show (s == s) = true from beq_self_eq_true s]
  rfl

theorem openB_len (s : Bytes) : (openB s).1.body.length ≤ s.length := by
  unfold openB
  split
  · exact Nat.zero_le _
  · split
    · exact Nat.zero_le _
    · split
      · exact Nat.zero_le _
      · show ((s.drop 24).take _).length ≤ _
        rw [List.length_take, List.length_drop]; omega

end Go.Proofs.YtinfbclgkghgaaaGreat.AL

/- Numbers that stand behind each other (plain). -/
namespace Go.Proofs.YtinfbclgkghgaaaGreat.AL
open Go Go.Proofs Go.Proofs.YtinfbclgkghgaaaGreat.AL.Crc

def rst (b : Bytes) : Nat → Bytes
  | 0 => b
  | i + 1 => (rst b i).drop (numS (rst b i)).2.1
def nv (b : Bytes) (i : Nat) : Int := ((numS (rst b i)).1 : Int)
theorem rst_len (b : Bytes) : ∀ i, (rst b i).length ≤ b.length
  | 0 => Nat.le_refl _
  | i + 1 => by
    have := rst_len b i
    show ((rst b i).drop _).length ≤ _
    rw [List.length_drop]; omega
theorem ix_snoc (l : List Int) (n : Int) : ix (l ++ [n]) = ix l ++ [[.raw (.int .i64 n)]] := by simp [ix]
end Go.Proofs.YtinfbclgkghgaaaGreat.AL

/- The layer 08 (geo): may a geometry be; its room. -/
namespace Go.Proofs.YtinfbclgkghgaaaGreat.AL
open Go Go.Proofs

def inR (n lo hi : Int) : Bool := decide (n ≥ lo) && decide (n ≤ hi)
theorem geo_in (n lo hi : Int) : AF Tryz.prog f_geo_in [i64 n, i64 lo, i64 hi] [] (Pure (bl (inR n lo hi)) []) := by
  refine af_body hT F_geo_in rfl rfl N_geo_in rfl ?_
  refine aw_seq (aw_region hT ?_)
  unfold inR
  refine aw_seq (aw_region hT ?_)
  refine boolI (fun h => ?_) (fun h => ?_)
  · rw [show decide (n ≥ lo) = true from h]
    refine aw_ret ?_
    exact retPick [] ⟨rfl, rfl⟩ rfl
  · rw [show decide (n ≥ lo) = false from h]
    refine aw_ret ?_
    exact retPick [] ⟨rfl, rfl⟩ rfl

structure GeoV where
  w : Int
  s : Int
  k : Int
  m : Int
  deriving DecidableEq
abbrev GeoV.pv (g : GeoV) : List PV := [.raw (.int .i64 g.w), .raw (.int .i64 g.s), .raw (.int .i64 g.k), .raw (.int .i64 g.m)]
abbrev GeoV.av (g : GeoV) : AV := .agg [i64 g.w, i64 g.s, i64 g.k, i64 g.m]
def GeoV.fits (g : GeoV) : Bool := inR g.w 8 512 && inR g.s 1 32 && inR g.k 1 16 && inR g.m 1 8
def GeoV.may (g : GeoV) : Bool := g.fits && decide (4 + 2 * g.w + 2 * g.s * (g.k + g.m) ≤ 4096)
def GeoV.room (g : GeoV) : Int := match g.may with | true => g.s * g.k * 228 | false => 0
theorem fits_of {g : GeoV} (h : g.fits = true) : 8 ≤ g.w ∧ g.w ≤ 512 ∧ 1 ≤ g.s ∧ g.s ≤ 32 ∧ 1 ≤ g.k ∧ g.k ≤ 16 ∧ 1 ≤ g.m ∧ g.m ≤ 8 := by
  unfold GeoV.fits inR at h
  simp only [Bool.and_eq_true, decide_eq_true_eq] at h
  omega
theorem fits_mul {g : GeoV} (h : g.fits = true) : 0 ≤ g.s * (g.k + g.m) ∧ g.s * (g.k + g.m) ≤ 768 ∧ 0 ≤ g.s * g.k ∧ g.s * g.k ≤ 512 ∧ 2 * g.s * (g.k + g.m) = 2 * (g.s * (g.k + g.m)) := by
  obtain ⟨h1, h2, h3, h4, h5, h6, h7, h8⟩ := fits_of h
  have a := Int.mul_le_mul (show g.s ≤ 32 from h4) (show g.k + g.m ≤ 24 by omega) (by omega) (by omega)
  have b := Int.mul_le_mul (show g.s ≤ 32 from h4) (show g.k ≤ 16 by omega) (by omega) (by omega)
  exact ⟨Int.mul_nonneg (by omega) (by omega), by omega, Int.mul_nonneg (by omega) (by omega), by omega, Int.mul_assoc _ _ _⟩

theorem geo_sectors (g : GeoV) (h : g.fits = true) : AF Tryz.prog f_geo_sectors [g.av] [] (Pure (i64 (4 + 2 * g.w + 2 * g.s * (g.k + g.m))) []) := by
  obtain ⟨h1, h2, h3, h4, h5, h6, h7, h8⟩ := fits_of h
  obtain ⟨m1, m2, m3, m4, m5⟩ := fits_mul h
  have wl : AF Tryz.prog f_geo_logged [g.av] [] (Pure (i64 (4 + 2 * g.w)) []) := by
    refine af_body hT F_geo_logged rfl rfl N_geo_logged rfl ?_
    refine aw_seq (aw_region hT ?_)
    refine aw_wk (wk_boxL 0 g.pv rfl rfl) ?_
    refine aw_seq (aw_region hT ?_)
    refine aw_ret ?_
    rw [show i64 (4 + 2 * g.w) = i64 (IntKind.i64.wrap (4 + IntKind.i64.wrap (2 * g.w))) by rw [wrap64 (2 * g.w) (by omega) (by omega), wrap64 _ (by omega) (by omega)]]
    exact retPick [] ⟨rfl, rfl⟩ rfl
  have ww : AF Tryz.prog f_geo_wide [g.av] [] (Pure (i64 (g.k + g.m)) []) := by
    refine af_body hT F_geo_wide rfl rfl N_geo_wide rfl ?_
    refine aw_seq (aw_region hT ?_)
    refine aw_wk (wk_boxL 0 g.pv rfl rfl) ?_
    refine aw_seq (aw_region hT ?_)
    refine aw_ret ?_
    rw [show i64 (g.k + g.m) = i64 (IntKind.i64.wrap (g.k + g.m)) by rw [wrap64 _ (by omega) (by omega)]]
    exact retPick [] ⟨rfl, rfl⟩ rfl
  refine af_body hT F_geo_sectors rfl rfl N_geo_sectors rfl ?_
  refine aw_seq (aw_region hT ?_)
  refine aw_wk (wk_boxL 0 g.pv rfl rfl) ?_
  refine aw_seq ?_
  refine aw_draw [] [] hT follows_mixed (by rfl) ?_
  refine ⟨_, af_at wl _ rfl rfl, ?_⟩
  refine ⟨_, af_at ww _ rfl rfl, ?_⟩
  refine aw_ret ?_
  rw [show i64 (4 + 2 * g.w + 2 * g.s * (g.k + g.m)) = i64 (IntKind.i64.wrap (4 + 2 * g.w + IntKind.i64.wrap (IntKind.i64.wrap (2 * g.s) * (g.k + g.m)))) by
    rw [wrap64 (2 * g.s) (by omega) (by omega), wrap64 (2 * g.s * (g.k + g.m)) (by omega) (by omega), wrap64 _ (by omega) (by omega)]]
  exact retPick [] ⟨rfl, rfl⟩ rfl

theorem geo_May (g : GeoV) : AF Tryz.prog f_geo_May [g.av] [] (Pure (bl g.may) []) := by
  refine af_body hT F_geo_May rfl rfl N_geo_May rfl ?_
  refine aw_seq (aw_region hT ?_)
  refine aw_wk (wk_boxL 0 g.pv rfl rfl) ?_
  refine aw_cut ⟨⟨28, [(1, .p (.box g.pv)), (3, bl g.fits)]⟩, []⟩ True (aw_region hT ?_) (fun _ => ?_)
  · unfold GeoV.fits
    refine callP (af_at (geo_in g.w 8 512) _ rfl rfl) ?_
    refine boolI (fun h => ?_) (fun h => ?_)
    · rw [show inR g.w 8 512 = true from h]
      refine callP (af_at (geo_in g.s 1 32) _ rfl rfl) ?_
      refine boolI (fun h => ?_) (fun h => ?_)
      · rw [show inR g.s 1 32 = true from h]
        refine callP (af_at (geo_in g.k 1 16) _ rfl rfl) ?_
        refine boolI (fun h => ?_) (fun h => ?_)
        · rw [show inR g.k 1 16 = true from h]
          refine callP (af_at (geo_in g.m 1 8) _ rfl rfl) ?_
          exact ⟨wk_pick [] [1, 3] rfl, trivial⟩
        · rw [show inR g.k 1 16 = false from h]
          exact ⟨wk_pick [] [1, 3] rfl, trivial⟩
      · rw [show inR g.s 1 32 = false from h]
        exact ⟨wk_pick [] [1, 3] rfl, trivial⟩
    · rw [show inR g.w 8 512 = false from h]
      exact ⟨wk_pick [] [1, 3] rfl, trivial⟩
  unfold GeoV.may
  refine aw_seq (aw_region hT ?_)
  refine boolI (fun h => ?_) (fun h => ?_)
  · have h : g.fits = true := h
    rw [h]
    refine callP (af_at (geo_sectors g h) _ rfl rfl) ?_
    refine aw_ret ?_
    exact retPick [] ⟨rfl, rfl⟩ rfl
  · rw [show g.fits = false from h]
    refine aw_ret ?_
    exact retPick [] ⟨rfl, rfl⟩ rfl

end Go.Proofs.YtinfbclgkghgaaaGreat.AL

/- The document's layer 08: may a geometry be. -/
namespace Go.Proofs.YtinfbclgkghgaaaGreat.AL
open Go Go.Proofs

theorem fits_iff (g : GeoV) : (g.fits = true) = (8 ≤ g.w ∧ g.w ≤ 512 ∧ 1 ≤ g.s ∧ g.s ≤ 32 ∧ 1 ≤ g.k ∧ g.k ≤ 16 ∧ 1 ≤ g.m ∧ g.m ≤ 8) := by
  refine propext ⟨fits_of, fun h => ?_⟩
  unfold GeoV.fits inR
  simp only [Bool.and_eq_true, decide_eq_true_eq]
  omega
set_option maxRecDepth 20000 in
theorem ref08_May (g : GeoV) : AF Tryz.prog f_ref08_May [g.av] [] (Pure (bl g.may) []) := by
  have no : ¬ (8 ≤ g.w ∧ g.w ≤ 512 ∧ 1 ≤ g.s ∧ g.s ≤ 32 ∧ 1 ≤ g.k ∧ g.k ≤ 16 ∧ 1 ≤ g.m ∧ g.m ≤ 8) → g.may = false := fun h => by
    have h2 : g.fits = false := by rw [← Bool.not_eq_true, fits_iff]; exact h
    unfold GeoV.may; rw [h2]; rfl
  refine AF.mono (R := fun r H' => ∃ b, b = g.may ∧ r = bl b ∧ H' = []) ?_ (by rintro r H' ⟨b, rfl, rfl, rfl⟩; exact ⟨rfl, rfl⟩)
  refine af_body hT F_ref08_May rfl rfl N_ref08_May rfl ?_
  refine aw_seq (aw_region hT ?_)
  refine aw_wk (wk_boxL 0 g.pv rfl rfl) ?_
  refine aw_cut ⟨⟨56, [(1, .p (.box g.pv))]⟩, []⟩ (g.fits = true) (aw_seq (aw_region hT ?_)) ?_
  · skip
    refine boolI (fun h0 => ?_) (fun h0 => ?_)
    · skip
      have h0 := of_decide_eq_true (show decide (g.w < 8) = true from h0)
      refine aw_cond ?_
      refine aw_seq (aw_region hT ?_)
      refine aw_ret ?_
      exact retPick [] ⟨_, (no (by omega)).symm, rfl, rfl⟩ rfl
    · have h0 := of_decide_eq_false (show decide (g.w < 8) = false from h0)
      refine boolI (fun h1 => ?_) (fun h1 => ?_)
      · skip
        have h1 := of_decide_eq_true (show decide (g.w > 512) = true from h1)
        refine aw_cond ?_
        refine aw_seq (aw_region hT ?_)
        refine aw_ret ?_
        exact retPick [] ⟨_, (no (by omega)).symm, rfl, rfl⟩ rfl
      · have h1 := of_decide_eq_false (show decide (g.w > 512) = false from h1)
        refine boolI (fun h2 => ?_) (fun h2 => ?_)
        · skip
          have h2 := of_decide_eq_true (show decide (g.s < 1) = true from h2)
          refine aw_cond ?_
          refine aw_seq (aw_region hT ?_)
          refine aw_ret ?_
          exact retPick [] ⟨_, (no (by omega)).symm, rfl, rfl⟩ rfl
        · have h2 := of_decide_eq_false (show decide (g.s < 1) = false from h2)
          refine boolI (fun h3 => ?_) (fun h3 => ?_)
          · skip
            have h3 := of_decide_eq_true (show decide (g.s > 32) = true from h3)
            refine aw_cond ?_
            refine aw_seq (aw_region hT ?_)
            refine aw_ret ?_
            exact retPick [] ⟨_, (no (by omega)).symm, rfl, rfl⟩ rfl
          · have h3 := of_decide_eq_false (show decide (g.s > 32) = false from h3)
            refine boolI (fun h4 => ?_) (fun h4 => ?_)
            · skip
              have h4 := of_decide_eq_true (show decide (g.k < 1) = true from h4)
              refine aw_cond ?_
              refine aw_seq (aw_region hT ?_)
              refine aw_ret ?_
              exact retPick [] ⟨_, (no (by omega)).symm, rfl, rfl⟩ rfl
            · have h4 := of_decide_eq_false (show decide (g.k < 1) = false from h4)
              refine boolI (fun h5 => ?_) (fun h5 => ?_)
              · skip
                have h5 := of_decide_eq_true (show decide (g.k > 16) = true from h5)
                refine aw_cond ?_
                refine aw_seq (aw_region hT ?_)
                refine aw_ret ?_
                exact retPick [] ⟨_, (no (by omega)).symm, rfl, rfl⟩ rfl
              · have h5 := of_decide_eq_false (show decide (g.k > 16) = false from h5)
                refine boolI (fun h6 => ?_) (fun h6 => ?_)
                · skip
                  have h6 := of_decide_eq_true (show decide (g.m < 1) = true from h6)
                  refine aw_cond ?_
                  refine aw_seq (aw_region hT ?_)
                  refine aw_ret ?_
                  exact retPick [] ⟨_, (no (by omega)).symm, rfl, rfl⟩ rfl
                · have h6 := of_decide_eq_false (show decide (g.m < 1) = false from h6)
                  refine aw_cond (boolI (fun h7 => ?_) (fun h7 => ?_))
                  · skip
                    have h7 := of_decide_eq_true (show decide (g.m > 8) = true from h7)
                    skip
                    refine aw_seq (aw_region hT ?_)
                    refine aw_ret ?_
                    exact retPick [] ⟨_, (no (by omega)).symm, rfl, rfl⟩ rfl
                  · have h7 := of_decide_eq_false (show decide (g.m > 8) = false from h7)
                    exact aw_skip ⟨wk_pick [] [1] rfl, by rw [fits_iff]; omega⟩
  intro hf
  obtain ⟨h1, h2, h3, h4, h5, h6, h7, h8⟩ := fits_of hf
  obtain ⟨m1, m2, m3, m4, m5⟩ := fits_mul hf
  refine aw_seq (aw_region hT ?_)
  refine aw_ret ?_
  refine retPick [] ⟨_, ?_, rfl, rfl⟩ rfl
  show decide (IntKind.i64.wrap (IntKind.i64.wrap (4 + IntKind.i64.wrap (2 * g.w)) + IntKind.i64.wrap (IntKind.i64.wrap (2 * g.s) * IntKind.i64.wrap (g.k + g.m))) ≤ 4096) = _
  unfold GeoV.may
  rw [hf, Bool.true_and, wrap64 (2 * g.w) (by omega) (by omega), wrap64 (4 + 2 * g.w) (by omega) (by omega), wrap64 (2 * g.s) (by omega) (by omega), wrap64 (g.k + g.m) (by omega) (by omega), wrap64 (2 * g.s * (g.k + g.m)) (by omega) (by omega), wrap64 _ (by omega) (by omega)]
end Go.Proofs.YtinfbclgkghgaaaGreat.AL

/- The abstract layer (second make), part x: a region that draws its order, of which some operations make new rows in any order. -/
namespace Go.Proofs.YtinfbclgkghgaaaGreat.AL
open Go Go.RowKit

/-- A hole of the list is filled by a row that was made elsewhere. -/
theorem fill {w w' : World} {I I' : Nat → Prop} {ι ι1 : Nat → Option Nat} {H : List ABlk} {b sz : Nat} {t : TypeId} {xs : List (List PV)} (hs : SimH w I ι H) (hb : H[b]? = some .dead) (hι : ι b = none)
    (h1 : SimH w' I' ι1 [.row t sz xs]) (hx : Ext w I (fun _ => none) [] w' I' ι1 [.row t sz xs]) :
    SimH w' I' (fun x => if x = b then ι1 0 else ι x) (H.set b (.row t sz xs)) ∧ Ext w I ι H w' I' (fun x => if x = b then ι1 0 else ι x) (H.set b (.row t sz xs)) := by
  have hbl : b < H.length := (List.getElem?_eq_some_iff.1 hb).1
  have nol : ∀ c, ¬ live ([] : List ABlk) c := fun c ⟨k, hk, _⟩ => by simp at hk
  have fr : ∀ B, B < w.heap.size → w'.heap[B]? = w.heap[B]? := fun B hB => hx.frame B hB fun ⟨c, hc, _⟩ => nol c hc
  have hI : ∀ B, I B → w'.heap[B]? = w.heap[B]? := fun B hB => fr B (hs.Ilt B hB)
  have inew : ∀ B, I' B → I B ∨ w.heap.size ≤ B := fun B hB => by
    rcases hx.Inew B hB with h | h | ⟨c, hc, _⟩
    · exact .inl h
    · exact .inr h
    · exact absurd hc (nol c)
  have own0 : ∀ B, ι1 0 = some B → w.heap.size ≤ B := fun B hB => by
    rcases hx.own 0 B ⟨_, rfl, rfl⟩ hB with h | ⟨c, hc, _⟩
    · exact h
    · exact absurd hc (nol c)
  have mv : ∀ c B, ι c = some B → (if c = b then ι1 0 else ι c) = some B := fun c B hc => by
    by_cases e : c = b
    · subst e; rw [hι] at hc; simp at hc
    · rw [if_neg e]; exact hc
  have lv : ∀ c, live (H.set b (.row t sz xs)) c → c ≠ b → live H c := fun c ⟨k, hk, hl⟩ hc => by
    rw [List.getElem?_set_ne (by omega)] at hk; exact ⟨k, hk, hl⟩
  have ldb : ¬ live H b := fun ⟨k, hk, hl⟩ => by rw [hb] at hk; obtain rfl := Option.some.inj hk; simp [ABlk.live] at hl
  have notI : ∀ {B}, B < w.heap.size → ¬ I B → ¬ I' B := fun {B} hB hn hI' => by
    rcases inew B hI' with h | h
    · exact hn h
    · omega
  refine ⟨⟨?_, ?_, h1.Ilt, ?_, ?_⟩, ⟨hx.os, hx.tape, hx.output, hx.size, hx.shape, hx.Isub, fun B hB _ => fr B hB, fun B hB => ?_, ?_⟩⟩
  · intro c kc hc
    by_cases e : c = b
    · subst e
      rw [List.getElem?_set_self hbl] at hc
      obtain rfl := Option.some.inj hc
      have h0 := h1.blk 0 _ rfl
      rcases h0 with ⟨g1, g2⟩ | ⟨B, cs, g1, g2⟩
      · exact .inl ⟨g1, by show (if c = c then ι1 0 else ι c) = none; rw [if_pos rfl]; exact g2⟩
      · exact .inr ⟨B, cs, by show (if c = c then ι1 0 else ι c) = some B; rw [if_pos rfl]; exact g1, g2⟩
    · rw [List.getElem?_set_ne (by omega)] at hc
      have h0 := hs.blk c kc hc
      cases kc with
      | dead => trivial
      | cells t l =>
        obtain ⟨B, cs, g1, g2, g3, g4, g5⟩ := h0
        exact ⟨B, cs, mv c B g1, by rw [fr B (hs.rng c B g1)]; exact g2, notI (hs.rng c B g1) g3, g4, fun i u hu => (g5 i u hu).move hI hx.Isub mv hx.shape⟩
      | lp q st pe l =>
        obtain ⟨B, cs, g1, g2, g3, g4, g5⟩ := h0
        exact ⟨B, cs, mv c B g1, by rw [fr B (hs.rng c B g1)]; exact g2, notI (hs.rng c B g1) g3, g4, fun i u hu => (g5 i u hu).move hI hx.Isub mv hx.shape⟩
      | row t sz xs =>
        rcases h0 with ⟨g1, g2⟩ | ⟨B, cs, g1, g2, g3, g4, g5, g6⟩
        · exact .inl ⟨g1, by show (if c = b then ι1 0 else ι c) = none; rw [if_neg e]; exact g2⟩
        · exact .inr ⟨B, cs, mv c B g1, by rw [fr B (hs.rng c B g1)]; exact g2, notI (hs.rng c B g1) g3, g4, g5, fun j x hj => ⟨(g6 j x hj).1, fun i u hu => ((g6 j x hj).2 i u hu).move hI hx.Isub⟩⟩
      | obj o =>
        obtain ⟨g0, B, g1, g2, g3⟩ := h0
        exact ⟨g0, B, mv c B g1, by rw [fr B (hs.rng c B g1)]; exact g2, notI (hs.rng c B g1) g3⟩
  · intro c c' B hc hc' e1 e2
    have e1 : (if c = b then ι1 0 else ι c) = some B := e1
    have e2 : (if c' = b then ι1 0 else ι c') = some B := e2
    by_cases h : c = b <;> by_cases h' : c' = b
    · omega
    · rw [if_pos h] at e1; rw [if_neg h'] at e2
      have := own0 B e1; have := hs.rng c' B e2; omega
    · rw [if_neg h] at e1; rw [if_pos h'] at e2
      have := own0 B e2; have := hs.rng c B e1; omega
    · rw [if_neg h] at e1; rw [if_neg h'] at e2
      exact hs.inj c c' B (lv c hc h) (lv c' hc' h') e1 e2
  · intro c hc
    simp only [List.length_set] at hc
    show (if c = b then ι1 0 else ι c) = none
    rw [if_neg (by omega)]; exact hs.dom c hc
  · intro c B hc
    have hc : (if c = b then ι1 0 else ι c) = some B := hc
    by_cases e : c = b
    · rw [if_pos e] at hc; exact h1.rng 0 B hc
    · rw [if_neg e] at hc; have := hs.rng c B hc; have := hx.size; omega
  · rcases inew B hB with h | h
    · exact .inl h
    · exact .inr (.inl h)
  · intro c B hc e1
    have e1 : (if c = b then ι1 0 else ι c) = some B := e1
    by_cases e : c = b
    · rw [if_pos e] at e1; exact .inl (own0 B e1)
    · rw [if_neg e] at e1; exact .inr ⟨c, lv c hc e, e1⟩

section
variable {P : Program} {T : TTab} {ops : Array Oper} {m N : Nat} {B : Array Bool → List ABlk} {G : Array Bool → (Nat → Option Nat) → Prop}

end

/-! Some operations make rows, in any order: each has its own place behind the blocks that came in. -/
structure Mk where
  k : Nat
  t : TypeId
  sz : Nat
  len : Nat
  xs : List (List PV)
abbrev Mk.row (x : Mk) : ABlk := .row x.t x.sz x.xs
abbrev Mk.val (x : Mk) (b : Nat) : AV := .msl b x.sz 0 x.len

section
variable {P : Program} {T : TTab} {ops ops' : Array Oper} {m : Nat} {fe : List Mk} {ef : List Nat}

end
end Go.Proofs.YtinfbclgkghgaaaGreat.AL

/- The layer: a whole row becomes immutable. -/
namespace Go.Proofs.YtinfbclgkghgaaaGreat.AL
open Go

theorem wk_frzN {m : Nat} {s : St} (i b sz n : Nat) {t : TypeId} {xs ys : List (List PV)} (e : xs = ys) (hn : n = xs.length) (hb : s.H[b]? = some (.row t sz xs)) (hi : look s.fr.l i = some (.msl b sz 0 n)) :
    Wk m s ⟨⟨s.fr.n, (i, .p (.sl sz ys)) :: s.fr.l⟩, s.H.set b .dead⟩ := by
  subst hn
  have := wk_frz1 (m := m) (s := s) i b hb hi (by omega)
  rw [List.drop_zero, List.take_length] at this
  subst e
  exact this
end Go.Proofs.YtinfbclgkghgaaaGreat.AL

/- The layer 11: may numbers be a block's. -/
namespace Go.Proofs.YtinfbclgkghgaaaGreat.AL
open Go Go.Proofs

theorem ring_word (l : List Int) (hl : l.length ≤ 1000000) : AF Tryz.prog f_ring_word [.p (.sl 1 (ix l))] [] (Pure (bl (l.all wordB)) []) := by
  refine af_body hT F_ring_word rfl rfl N_ring_word rfl ?_
  refine aw_seq (aw_region hT ?_)
  refine aw_cut ⟨⟨18, []⟩, []⟩ (l.all wordB = true) (aw_seq (aw_region hT ?_)) ?_
  · refine aw_block ?_
    refine aw_loopW (fun n s => ∃ (i : Nat) (j : Int), n + i = l.length ∧ j = i ∧ (l.take i).all wordB = true ∧ s = ⟨⟨18, [(5, .p (.sl 1 (ix l))), (6, i64 l.length), (7, i64 j)]⟩, []⟩) l.length ⟨⟨18, _⟩, []⟩ (wk_pick [] [5, 6, 7] rfl) ⟨0, 0, rfl, rfl, rfl, by rw [← ixl l]; rfl⟩ ?_
    rintro n s ⟨i, j, hni, rfl, ht, rfl⟩
    refine aw_seq (aw_region hT ?_)
    refine aw_seq (aw_cond (boolI (fun h => ?_) (fun h => ?_)))
    · have hi : i < l.length := by
        have := of_decide_eq_true (show decide ((i : Int) < (l.length : Int)) = true from h)
        omega
      have hx := List.getElem?_eq_getElem hi
      have hmem := List.getElem_mem hi
      have htk : l.take (i + 1) = l.take i ++ [l[i]] := by rw [List.take_add_one, hx]; rfl
      generalize l[i] = c at hx htk hmem
      have hxp : (ix l)[((i : Nat) : Int).toNat]? = some [.raw (.int .i64 c)] := by rw [Int.toNat_natCast]; exact ixg hx
      have bad : wordB c = false → l.all wordB = false := fun h => by
        rw [List.all_eq_false]; exact ⟨c, hmem, by rw [h]; simp⟩
      refine aw_skip ?_
      refine aw_cut ⟨⟨18, [(5, .p (.sl 1 (ix l))), (6, i64 l.length), (7, i64 i)]⟩, []⟩ (wordB c = true) (aw_block (aw_seq (aw_region hT ?_))) ?_
      · refine ⟨Int.natCast_nonneg _, optI hxp ?_⟩
        refine aw_seq (aw_region hT ?_)
        refine boolI (fun h2 => ?_) (fun h2 => ?_)
        · have h2 := of_decide_eq_true (show decide (c < 0) = true from h2)
          refine aw_cond ?_
          refine aw_seq (aw_region hT ?_)
          refine aw_ret ?_
          rw [bad (by unfold wordB; rw [decide_eq_false (by omega)]; rfl)]
          exact retPick [] ⟨rfl, rfl⟩ rfl
        · have h2 := of_decide_eq_false (show decide (c < 0) = false from h2)
          refine aw_cond (boolI (fun h3 => ?_) (fun h3 => ?_))
          · have h3 := of_decide_eq_true (show decide (c > 4294967295) = true from h3)
            refine aw_seq (aw_region hT ?_)
            refine aw_ret ?_
            rw [bad (by unfold wordB; rw [decide_eq_false (show ¬ c ≤ 4294967295 by omega), Bool.and_false])]
            exact retPick [] ⟨rfl, rfl⟩ rfl
          · have h3 := of_decide_eq_false (show decide (c > 4294967295) = false from h3)
            exact aw_skip ⟨wk_pick [] [5, 6, 7] rfl, by unfold wordB; rw [decide_eq_true (show 0 ≤ c by omega), decide_eq_true (show c ≤ 4294967295 by omega)]; rfl⟩
      · intro hc
        refine aw_region hT ?_
        refine ⟨n - 1, by omega, _, wk_pick [] [5, 6, 7] rfl, i + 1, IntKind.i64.wrap ((i : Int) + 1), by omega, ?_, ?_, rfl⟩
        · rw [wrap64 _ (by omega) (by omega)]; rfl
        · rw [htk, List.all_append, ht]; simp [hc]
    · have hi : ¬ (i : Int) < (l.length : Int) := of_decide_eq_false h
      have hil : i = l.length := by omega
      subst hil
      rw [List.take_length] at ht
      refine aw_exit ?_
      exact ⟨wk_pick [] [] rfl, ht⟩
  · intro h
    rw [h]
    refine aw_seq (aw_region hT ?_)
    refine aw_ret ?_
    exact retPick [] ⟨rfl, rfl⟩ rfl

theorem ref11_word (n : Int) : AF Tryz.prog f_ref11_word [i64 n] [] (Pure (bl (wordB n)) []) := by
  refine af_body hT F_ref11_word rfl rfl N_ref11_word rfl ?_
  refine aw_seq (aw_region hT ?_)
  unfold wordB
  refine aw_seq (aw_region hT ?_)
  refine boolI (fun h => ?_) (fun h => ?_)
  · rw [show decide (0 ≤ n) = true from h]
    refine aw_ret ?_
    exact retPick [] ⟨rfl, rfl⟩ rfl
  · rw [show decide (0 ≤ n) = false from h]
    refine aw_ret ?_
    exact retPick [] ⟨rfl, rfl⟩ rfl

end Go.Proofs.YtinfbclgkghgaaaGreat.AL

/- The layer 11 (ring): may a piece be; its sector. -/
namespace Go.Proofs.YtinfbclgkghgaaaGreat.AL
open Go Go.Proofs

structure Pc where
  seq : Int
  epoch : Int
  frm : Int
  chain : Int
  index : Int
  of_ : Int
  b : Bytes
  deriving DecidableEq
abbrev Pc.pv (p : Pc) : List PV := [.raw (.int .i64 p.seq), .raw (.int .i64 p.epoch), .raw (.int .i64 p.frm), .raw (.int .i64 p.chain), .raw (.int .i64 p.index), .raw (.int .i64 p.of_), bP p.b]
abbrev Pc.cv (p : Pc) : List AV := [i64 p.seq, i64 p.epoch, i64 p.frm, i64 p.chain, i64 p.index, i64 p.of_, bA p.b]
abbrev Pc.av (p : Pc) : AV := .agg p.cv
def Pc.words (p : Pc) : Bool := [p.seq, p.epoch, p.frm, p.chain].all wordB
def Pc.may (p : Pc) : Bool := p.words && decide (p.frm ≤ p.seq) && decide (p.of_ ≥ 1) && decide (p.of_ ≤ 64) && decide (p.index ≥ 0) && decide (p.index < p.of_) && decide (p.b.length ≤ 200)

set_option maxRecDepth 20000 in
theorem ring_May (p : Pc) : AF Tryz.prog f_ring_May [p.av] [] (Pure (bl p.may) []) := by
  refine AF.mono (R := fun r H' => ∃ b, b = p.may ∧ r = bl b ∧ H' = []) ?_ (by rintro r H' ⟨b, rfl, rfl, rfl⟩; exact ⟨rfl, rfl⟩)
  have hbl := bx_len p.b
  refine af_body hT F_ring_May rfl rfl N_ring_May rfl ?_
  refine aw_seq (aw_region hT ?_)
  refine aw_wk (wk_boxL 0 p.pv rfl rfl) ?_
  refine aw_cut2 (fun s => ∃ c, c = (p.words && decide (p.frm ≤ p.seq)) ∧ s = ⟨⟨50, [(1, .p (.box p.pv)), (3, bl c)]⟩, []⟩) (aw_regionF (fun k => Nat.beq 8 k) hT ?_) ?_
  · refine ⟨⟨rfl, rfl⟩, ?_⟩
    refine callP (af_at (ring_word [p.seq, p.epoch, p.frm, p.chain] (by simp)) _ rfl rfl) ?_
    refine boolI (fun h => ?_) (fun h => ?_)
    · have h : p.words = true := h
      exact ⟨_, wk_pick [] [1, 3] rfl, _, by rw [h]; rfl, rfl⟩
    · have h : p.words = false := h
      exact ⟨_, wk_pick [] [1, 3] rfl, _, by rw [h]; rfl, rfl⟩
  rintro _ ⟨c, hc, rfl⟩
  have e : p.may = (c && decide (p.of_ ≥ 1) && decide (p.of_ ≤ 64) && decide (p.index ≥ 0) && decide (p.index < p.of_) && decide ((((bx p.b).length : Nat) : Int) ≤ 200)) := by unfold Pc.may; rw [hc, show decide ((((bx p.b).length : Nat) : Int) ≤ 200) = decide (p.b.length ≤ 200) from decide_eq_decide.mpr (by omega)]
  refine aw_seq (aw_region hT ?_)
  refine boolI (fun h0 => ?_) (fun h0 => ?_)
  · have h0 : c = true := h0
    refine boolI (fun h1 => ?_) (fun h1 => ?_)
    · have h1 : decide (p.of_ ≥ 1) = true := h1
      refine boolI (fun h2 => ?_) (fun h2 => ?_)
      · have h2 : decide (p.of_ ≤ 64) = true := h2
        refine boolI (fun h3 => ?_) (fun h3 => ?_)
        · have h3 : decide (p.index ≥ 0) = true := h3
          refine boolI (fun h4 => ?_) (fun h4 => ?_)
          · have h4 : decide (p.index < p.of_) = true := h4
            refine aw_ret ?_
            exact retPick [] ⟨_, by rw [e, h0, h1, h2, h3, h4]; rfl, rfl, rfl⟩ rfl
          · have h4 : decide (p.index < p.of_) = false := h4
            refine aw_ret ?_
            exact retPick [] ⟨_, by rw [e, h0, h1, h2, h3, h4]; rfl, rfl, rfl⟩ rfl
        · have h3 : decide (p.index ≥ 0) = false := h3
          refine aw_ret ?_
          exact retPick [] ⟨_, by rw [e, h0, h1, h2, h3]; rfl, rfl, rfl⟩ rfl
      · have h2 : decide (p.of_ ≤ 64) = false := h2
        refine aw_ret ?_
        exact retPick [] ⟨_, by rw [e, h0, h1, h2]; rfl, rfl, rfl⟩ rfl
    · have h1 : decide (p.of_ ≥ 1) = false := h1
      refine aw_ret ?_
      exact retPick [] ⟨_, by rw [e, h0, h1]; rfl, rfl, rfl⟩ rfl
  · have h0 : c = false := h0
    refine aw_ret ?_
    exact retPick [] ⟨_, by rw [e, h0]; rfl, rfl, rfl⟩ rfl

set_option maxRecDepth 20000 in
theorem ref11_May (p : Pc) : AF Tryz.prog f_ref11_May [p.av] [] (Pure (bl p.may) []) := by
  refine AF.mono (R := fun r H' => ∃ b, b = p.may ∧ r = bl b ∧ H' = []) ?_ (by rintro r H' ⟨b, rfl, rfl, rfl⟩; exact ⟨rfl, rfl⟩)
  have hbl := bx_len p.b
  refine af_body hT F_ref11_May rfl rfl N_ref11_May rfl ?_
  refine aw_seq (aw_region hT ?_)
  refine aw_wk (wk_boxL 0 p.pv rfl rfl) ?_
  have ew : p.words = (wordB p.seq && (wordB p.epoch && (wordB p.frm && (wordB p.chain && true)))) := rfl
  refine aw_cut2 (fun s => ∃ c, c = p.words ∧ s = ⟨⟨58, [(1, .p (.box p.pv)), (3, bl c)]⟩, []⟩) (aw_region hT ?_) ?_
  · refine callP (af_at (ref11_word p.seq) _ rfl rfl) ?_
    refine boolI (fun h0 => ?_) (fun h0 => ?_)
    · have h0 : wordB p.seq = true := h0
      refine callP (af_at (ref11_word p.epoch) _ rfl rfl) ?_
      refine boolI (fun h1 => ?_) (fun h1 => ?_)
      · have h1 : wordB p.epoch = true := h1
        refine callP (af_at (ref11_word p.frm) _ rfl rfl) ?_
        refine boolI (fun h2 => ?_) (fun h2 => ?_)
        · have h2 : wordB p.frm = true := h2
          refine callP (af_at (ref11_word p.chain) _ rfl rfl) ?_
          exact ⟨_, wk_pick [] [1, 3] rfl, wordB p.chain, by rw [ew, h0, h1, h2]; simp, rfl⟩
        · have h2 : wordB p.frm = false := h2
          exact ⟨_, wk_pick [] [1, 3] rfl, _, by rw [ew, h0, h1, h2]; rfl, rfl⟩
      · have h1 : wordB p.epoch = false := h1
        exact ⟨_, wk_pick [] [1, 3] rfl, _, by rw [ew, h0, h1]; rfl, rfl⟩
    · have h0 : wordB p.seq = false := h0
      exact ⟨_, wk_pick [] [1, 3] rfl, _, by rw [ew, h0]; rfl, rfl⟩
  rintro _ ⟨c, hc, rfl⟩
  have e : p.may = (c && decide (p.frm ≤ p.seq) && decide (p.of_ ≥ 1) && decide (p.of_ ≤ 64) && decide (p.index ≥ 0) && decide (p.index < p.of_) && decide ((((bx p.b).length : Nat) : Int) ≤ 200)) := by unfold Pc.may; rw [hc, show decide ((((bx p.b).length : Nat) : Int) ≤ 200) = decide (p.b.length ≤ 200) from decide_eq_decide.mpr (by omega)]
  refine aw_seq (aw_region hT ?_)
  refine boolI (fun h0 => ?_) (fun h0 => ?_)
  · have h0 : c = true := h0
    refine boolI (fun h1 => ?_) (fun h1 => ?_)
    · have h1 : decide (p.frm ≤ p.seq) = true := h1
      refine boolI (fun h2 => ?_) (fun h2 => ?_)
      · have h2 : decide (p.of_ ≥ 1) = true := h2
        refine boolI (fun h3 => ?_) (fun h3 => ?_)
        · have h3 : decide (p.of_ ≤ 64) = true := h3
          refine boolI (fun h4 => ?_) (fun h4 => ?_)
          · have h4 : decide (p.index ≥ 0) = true := h4
            refine boolI (fun h5 => ?_) (fun h5 => ?_)
            · have h5 : decide (p.index < p.of_) = true := h5
              refine aw_ret ?_
              exact retPick [] ⟨_, by rw [e, h0, h1, h2, h3, h4, h5]; rfl, rfl, rfl⟩ rfl
            · have h5 : decide (p.index < p.of_) = false := h5
              refine aw_ret ?_
              exact retPick [] ⟨_, by rw [e, h0, h1, h2, h3, h4, h5]; rfl, rfl, rfl⟩ rfl
          · have h4 : decide (p.index ≥ 0) = false := h4
            refine aw_ret ?_
            exact retPick [] ⟨_, by rw [e, h0, h1, h2, h3, h4]; rfl, rfl, rfl⟩ rfl
        · have h3 : decide (p.of_ ≤ 64) = false := h3
          refine aw_ret ?_
          exact retPick [] ⟨_, by rw [e, h0, h1, h2, h3]; rfl, rfl, rfl⟩ rfl
      · have h2 : decide (p.of_ ≥ 1) = false := h2
        refine aw_ret ?_
        exact retPick [] ⟨_, by rw [e, h0, h1, h2]; rfl, rfl, rfl⟩ rfl
    · have h1 : decide (p.frm ≤ p.seq) = false := h1
      refine aw_ret ?_
      exact retPick [] ⟨_, by rw [e, h0, h1]; rfl, rfl, rfl⟩ rfl
  · have h0 : c = false := h0
    refine aw_ret ?_
    exact retPick [] ⟨_, by rw [e, h0]; rfl, rfl, rfl⟩ rfl
end Go.Proofs.YtinfbclgkghgaaaGreat.AL

/- The layer 11 (ring): a piece's sector. -/
namespace Go.Proofs.YtinfbclgkghgaaaGreat.AL
open Go Go.Proofs

theorem neI {y : Int} {K : Prop} (h : y ≠ 0) (k : K) : chk (decide (y ≠ 0)) K := by rw [decide_eq_true h]; exact k
def pcB (p : Pc) : Bytes := numD p.frm.toNat ++ (numD p.chain.toNat ++ (numD p.index.toNat ++ (numD p.of_.toNat ++ bytesD p.b)))
def addrB (g : GeoV) (m slot : Int) : Int := 4 + m * g.w + slot
def Pc.blk (p : Pc) (vol : Int) (g : GeoV) (m : Int) : Blk := ⟨3, vol, addrB g m (p.seq.tmod g.w), p.epoch, p.seq, pcB p⟩
def Pc.sector (p : Pc) (vol : Int) (g : GeoV) (m : Int) : Bytes × Int := match p.may && (g.may && (wordB vol && (!decide (m < 0) && !decide (m ≥ 2)))) with
  | false => ([], 1)
  | true => (p.blk vol g m).sld
theorem Pc.of_may {p : Pc} (h : p.may = true) : (0 ≤ p.seq ∧ p.seq ≤ 4294967295) ∧ (0 ≤ p.epoch ∧ p.epoch ≤ 4294967295) ∧ (0 ≤ p.frm ∧ p.frm ≤ 4294967295) ∧ (0 ≤ p.chain ∧ p.chain ≤ 4294967295) ∧ p.frm ≤ p.seq ∧ 1 ≤ p.of_ ∧ p.of_ ≤ 64 ∧ 0 ≤ p.index ∧ p.index < p.of_ ∧ p.b.length ≤ 200 := by
  unfold Pc.may Pc.words wordB at h
  simp only [List.all_cons, List.all_nil, Bool.and_true, Bool.and_eq_true, decide_eq_true_eq] at h
  omega
theorem pcB_len {p : Pc} (h : p.may = true) : (pcB p).length ≤ 214 := by
  obtain ⟨h1, h2, h3, h4, h5, h6, h7, h8, h9, h10⟩ := p.of_may h
  have a := numD_len 4 p.frm.toNat (by omega)
  have b := numD_len 4 p.chain.toNat (by omega)
  have c := numD_len 0 p.index.toNat (by omega)
  have d := numD_len 0 p.of_.toNat (by omega)
  have e := numD_len 1 p.b.length (by omega)
  unfold pcB bytesD
  simp only [List.length_append]
  omega
theorem GeoV.of_may {g : GeoV} (h : g.may = true) : 8 ≤ g.w ∧ g.w ≤ 512 ∧ 1 ≤ g.s ∧ g.s ≤ 32 ∧ 1 ≤ g.k ∧ g.k ≤ 16 ∧ 1 ≤ g.m ∧ g.m ≤ 8 := by
  unfold GeoV.may at h
  rw [Bool.and_eq_true] at h
  exact fits_of h.1

theorem ring_addr (g : GeoV) (m slot : Int) (h1 : 0 ≤ m * g.w) (h2 : m * g.w ≤ 1000000) (h3 : 0 ≤ slot) (h4 : slot ≤ 1000000) : AF Tryz.prog f_ring_addr [g.av, i64 m, i64 slot] [] (Pure (i64 (addrB g m slot)) []) := by
  refine AF.mono (R := fun r H' => ∃ z, z = addrB g m slot ∧ r = i64 z ∧ H' = []) ?_ (by rintro r H' ⟨b, rfl, rfl, rfl⟩; exact ⟨rfl, rfl⟩)
  refine af_body hT F_ring_addr rfl rfl N_ring_addr rfl ?_
  refine aw_seq (aw_region hT ?_)
  refine aw_wk (wk_boxL 0 g.pv rfl rfl) ?_
  refine aw_seq (aw_region hT ?_)
  refine aw_ret ?_
  refine retPick [] ⟨_, ?_, rfl, rfl⟩ rfl
  rw [wrap64 (m * g.w) (by omega) (by omega), wrap64 (4 + m * g.w) (by omega) (by omega), wrap64 _ (by omega) (by omega)]
  rfl
end Go.Proofs.YtinfbclgkghgaaaGreat.AL
