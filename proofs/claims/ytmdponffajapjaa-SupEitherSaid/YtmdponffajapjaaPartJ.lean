/- A part of the proof. -/
import Derived.Test.YtmdponffajapjaaPartI
import Derived.Test.YtmdponffajapjaaPartH
import Derived.Test.YtmdponffajapjaaPartE
import Derived.Laws.StructEq
import Derived.WalkKit
import Derived.ProofKit
import Derived.OpenShut
import Derived.ChangeOld
import Derived.Below
import Derived.SizedLaws
import Derived.Deep.Slices
import Derived.Lib.SmallJoins
/- The document's layer 10: a copy's sector. -/
namespace Go.Proofs.Ytmdponffajapjaa.AL
open Go Go.Proofs

set_option maxRecDepth 20000 in
theorem ref10_Sector (x : Sup) (i : Int) : AF Try.prog f_ref10_Sector [x.av, i64 i] [] (Pure (.tup [bA (x.sector i).1, i64 (x.sector i).2]) []) := by
  refine AF.mono (R := fun r H' => ∃ z, z = x.sector i ∧ r = .tup [bA z.1, i64 z.2] ∧ H' = []) ?_ (by rintro r H' ⟨b, rfl, rfl, rfl⟩; exact ⟨rfl, rfl⟩)
  refine af_body hT F_ref10_Sector rfl rfl N_ref10_Sector rfl ?_
  refine aw_seq (aw_region hT ?_)
  refine aw_wk (wk_boxL 0 x.pv rfl rfl) ?_
  refine aw_cut ⟨⟨70, [(1, i64 i), (2, .p (.box x.pv)), (6, bl x.may)]⟩, []⟩ True (aw_region hT ?_) (fun _ => ?_)
  · refine callP (af_at (ref10_May x) _ rfl rfl) ?_
    exact ⟨wk_pick [] [1, 2, 6] rfl, trivial⟩
  have bad : (x.may && (!decide (i < 0) && !decide (i ≥ 4))) = false → (([], 1) : Bytes × Int) = x.sector i := fun h => by unfold Sup.sector; rw [h]
  have e34 : decide (i > 3) = decide (i ≥ 4) := decide_eq_decide.mpr (by omega)
  refine aw_cut ⟨⟨70, [(1, i64 i), (2, .p (.box x.pv))]⟩, []⟩ ((x.may && (!decide (i < 0) && !decide (i ≥ 4))) = true) (aw_seq (aw_region hT ?_)) ?_
  · refine boolI (fun h0 => ?_) (fun h0 => ?_)
    · have h0 : (!x.may) = true := h0
      refine aw_cond ?_
      refine aw_seq (aw_region hT ?_)
      refine aw_wk (wk_nilP 4 1 rfl) ?_
      refine aw_ret ?_
      exact retPick [] ⟨_, bad (by rw [(Bool.not_eq_true' _).mp h0]; rfl), rfl, rfl⟩ rfl
    · have h0 : (!x.may) = false := h0
      have h0 := (Bool.not_eq_false' _).mp h0
      refine boolI (fun h1 => ?_) (fun h1 => ?_)
      · have h1 : decide (i < 0) = true := h1
        refine aw_cond ?_
        refine aw_seq (aw_region hT ?_)
        refine aw_wk (wk_nilP 4 1 rfl) ?_
        refine aw_ret ?_
        exact retPick [] ⟨_, bad (by rw [h0, h1]; rfl), rfl, rfl⟩ rfl
      · have h1 : decide (i < 0) = false := h1
        refine aw_cond (boolI (fun h2 => ?_) (fun h2 => ?_))
        · have h2 : decide (i > 3) = true := h2
          rw [e34] at h2
          refine aw_seq (aw_region hT ?_)
          refine aw_wk (wk_nilP 4 1 rfl) ?_
          refine aw_ret ?_
          exact retPick [] ⟨_, bad (by rw [h0, h1, h2]; rfl), rfl, rfl⟩ rfl
        · have h2 : decide (i > 3) = false := h2
          rw [e34] at h2
          exact aw_skip ⟨wk_pick [] [1, 2] rfl, by rw [h0, h1, h2]; rfl⟩
  intro hg
  have e : x.sector i = (x.blk i).sld := by unfold Sup.sector; rw [hg]
  rw [Bool.and_eq_true] at hg
  have hn := may_nine hg.1
  have ws := ref07_Seal (x.blk i)
  rw [← e] at ws
  unfold Sup.blk at ws
  generalize x.sector i = Z at ws
  clear e bad
  generalize hl : x.nine = l at hn ws
  have hll : l.length = 9 := by rw [← hl]; rfl
  refine aw_cut2 (fun s => ∃ xs, xs = ix x.nine ∧ s = ⟨⟨70, [(1, i64 i), (2, .p (.box x.pv)), (7, .p (.sl 1 xs))]⟩, []⟩) (aw_regionF (fun k => Nat.beq 22 k) hT ?_) ?_
  · refine ⟨⟨rfl, rfl⟩, ?_⟩
    refine ⟨_, wk_pick [] [1, 2, 7] rfl, ?_⟩
    refine ⟨_, ?_, rfl⟩
    rfl
  rintro _ ⟨xs, hxs, rfl⟩
  rw [hl] at hxs
  subst hxs
  refine aw_cut ⟨⟨70, [(1, i64 i), (2, .p (.box x.pv)), (7, .p (.sl 1 (ix l))), (8, .msl 0 1 0 0)]⟩, [.row t_u8 1 []]⟩ True (aw_region hT ?_) (fun _ => ?_)
  · exact ⟨Wk.trans (wk_phantom t_u8 1) (Wk.trans (wk_nil 8 0 1 0 rfl) (wk_pick [0] [1, 2, 7, 8] rfl)), trivial⟩
  refine aw_cut ⟨⟨70, [(1, i64 i), (2, .p (.box x.pv)), (8, .p (.sl 1 (bx (numsD l))))]⟩, []⟩ True (aw_seq (aw_region hT ?_)) (fun _ => ?_)
  · refine aw_block ?_
    refine aw_loopW (fun n s => ∃ (k : Nat) (j : Int) (B : Bytes), n + k = 9 ∧ j = k ∧ B = numsD (l.take k) ∧ B.length ≤ 9 * k ∧ s = ⟨⟨70, [(1, i64 i), (2, .p (.box x.pv)), (7, .p (.sl 1 (ix l))), (8, .msl 0 1 0 (bx B).length), (9, i64 j)]⟩, [.row t_u8 1 (bx B)]⟩) 9 ⟨⟨70, _⟩, [_]⟩ (wk_pick [0] [1, 2, 7, 8, 9] rfl) ⟨0, 0, [], rfl, rfl, rfl, Nat.le_refl _, rfl⟩ ?_
    rintro n s ⟨k, j, B, hnk, rfl, hB, hBl, rfl⟩
    have hbB := bx_len B
    have hil := ixl l
    refine aw_seq (aw_seq (aw_region hT ?_))
    refine aw_cond (boolI (fun h => ?_) (fun h => ?_))
    · have hk : k < l.length := by
        have := of_decide_eq_true (show decide ((k : Int) < ((ix l).length : Int)) = true from h)
        omega
      have hx := List.getElem?_eq_getElem hk
      have hm := hn _ (List.getElem_mem hk)
      have htk : numsD (l.take (k + 1)) = numsD (l.take k) ++ numD (l[k]).toNat := by
        rw [List.take_add_one, hx]; exact numsD_snoc _ _
      generalize l[k] = v at hx hm htk
      have hxp : (ix l)[((k : Nat) : Int).toNat]? = some [.raw (.int .i64 v)] := by rw [Int.toNat_natCast]; exact ixg hx
      have w := ref05_Num v.toNat (by omega)
      rw [Int.toNat_of_nonneg hm.1] at w
      have hD := numD_le v.toNat (by omega)
      rw [← hB] at htk
      generalize numD v.toNat = D at w htk hD
      have hbD := bx_len D
      refine aw_skip ?_
      refine aw_cut ⟨⟨70, [(1, i64 i), (2, .p (.box x.pv)), (7, .p (.sl 1 (ix l))), (8, .msl 0 1 0 (bx (B ++ D)).length), (9, i64 k)]⟩, [.row t_u8 1 (bx (B ++ D))]⟩ True (aw_block (aw_region hT ?_)) (fun _ => ?_)
      · refine ⟨Int.natCast_nonneg _, optI hxp ?_⟩
        refine callP (af_at w _ rfl rfl) ?_
        refine ⟨rfl, ⟨?_, ?_⟩, ?_⟩
        · show ((bx B).length + (bx D).length) * 1 ≤ 140737488355328
          omega
        · show (bx B).length + (bx D).length ≤ 140737488355328
          omega
        rw [bx_app]
        exact ⟨wk_pick [1] [1, 2, 7, 8, 9] rfl, trivial⟩
      · refine aw_region hT ?_
        refine ⟨n - 1, by omega, _, wk_pick [0] [1, 2, 7, 8, 9] rfl, k + 1, IntKind.i64.wrap ((k : Int) + 1), B ++ D, by omega, ?_, htk.symm, by rw [List.length_append]; omega, rfl⟩
        rw [wrap64 _ (by omega) (by omega)]; rfl
    · have hk : ¬ (k : Int) < ((ix l).length : Int) := of_decide_eq_false h
      have hk9 : l.take k = l := List.take_of_length_le (by omega)
      rw [hk9] at hB
      refine aw_exit ?_
      exact ⟨Wk.trans (wk_frzE 8 0 _ (by rw [hB]) rfl rfl rfl) (wk_pick [] [1, 2, 8] rfl), trivial⟩
  refine aw_seq (aw_region hT ?_)
  refine callP (af_at ws _ rfl rfl) ?_
  refine aw_ret ?_
  exact retPick [] ⟨Z, rfl, rfl, rfl⟩ rfl
end Go.Proofs.Ytmdponffajapjaa.AL

/- The document's layer 10: one is told, or not. -/
namespace Go.Proofs.Ytmdponffajapjaa.AL
open Go Go.Proofs

theorem ix_snoc (l : List Int) (n : Int) : ix (l ++ [n]) = ix l ++ [[.raw (.int .i64 n)]] := by simp [ix]
theorem rst_len (b : Bytes) : ∀ i, (rst b i).length ≤ b.length
  | 0 => Nat.le_refl _
  | i + 1 => by
    have := rst_len b i
    show ((rst b i).drop _).length ≤ _
    rw [List.length_drop]; omega
set_option maxRecDepth 20000 in
theorem ref10_Told (s : Bytes) (i : Int) (hl : s.length ≤ 1000000) : AF Try.prog f_ref10_Told [bA s, i64 i] [] (Pure (.tup [(toldB s i).1.av, bl (toldB s i).2]) []) := by
  refine AF.mono (R := fun r H' => ∃ z, z = toldB s i ∧ r = .tup [z.1.av, bl z.2] ∧ H' = []) ?_ (by rintro r H' ⟨b, rfl, rfl, rfl⟩; exact ⟨rfl, rfl⟩)
  have wo := ref07_Open s hl
  have hbl := openB_len s
  have hC : (((toldX (openB s).1).sector i).2 != 0 || !(s == ((toldX (openB s).1).sector i).1)) = false → ∀ k, k < 9 → (numS (rst (openB s).1.body k)).2.2 = 0 := fun h => (told_cond h).2.2.2.2
  have eT : toldB s i = match (openB s).2 != 0 with
    | true => (Sup.zero, false)
    | false => match ((toldX (openB s).1).sector i).2 != 0 || !(s == ((toldX (openB s).1).sector i).1) with
      | true => (Sup.zero, false)
      | false => (toldX (openB s).1, true) := rfl
  generalize toldB s i = Z at eT
  generalize openB s = O at wo hbl eT hC
  obtain ⟨B, e⟩ := O
  have wo : AF Try.prog f_ref07_Open [bA s] [] (Pure (.tup [B.av, i64 e]) []) := wo
  have hbl : B.body.length ≤ s.length := hbl
  have hC : (((toldX B).sector i).2 != 0 || !(s == ((toldX B).sector i).1)) = false → ∀ k, k < 9 → (numS (rst B.body k)).2.2 = 0 := hC
  have eT : Z = match e != 0 with
    | true => (Sup.zero, false)
    | false => match ((toldX B).sector i).2 != 0 || !(s == ((toldX B).sector i).1) with
      | true => (Sup.zero, false)
      | false => (toldX B, true) := eT
  refine af_body hT F_ref10_Told rfl rfl N_ref10_Told rfl ?_
  refine aw_seq (aw_region hT ?_)
  refine aw_cut ⟨⟨99, [(0, bA s), (1, i64 i), (4, .ref 0 0), (6, .ref 1 0), (7, i64 e)]⟩, [.cells t_api_Super Sup.zero.cv, .cells t_api_Block [i64 B.kind, i64 B.vol, i64 B.addr, i64 B.epoch, i64 B.seq, bA B.body]]⟩ True (aw_region hT ?_) (fun _ => ?_)
  · refine callP (af_at wo _ rfl rfl) ?_
    exact ⟨wk_pick [0, 1] [0, 1, 4, 6, 7] rfl, trivial⟩
  refine aw_cut ⟨⟨99, [(0, bA s), (1, i64 i), (4, .ref 0 0), (6, .ref 1 0)]⟩, [.cells t_api_Super Sup.zero.cv, .cells t_api_Block [i64 B.kind, i64 B.vol, i64 B.addr, i64 B.epoch, i64 B.seq, bA B.body]]⟩ ((e != 0) = false) (aw_seq (aw_region hT ?_)) ?_
  · refine aw_cond (boolI (fun h => ?_) (fun h => ?_))
    · have h : (e != 0) = true := h
      rw [h] at eT
      refine aw_seq (aw_region hT ?_)
      refine aw_ret ?_
      exact retPick [] ⟨_, eT.symm, rfl, rfl⟩ rfl
    · have h : (e != 0) = false := h
      exact aw_skip ⟨wk_pick [0, 1] [0, 1, 4, 6] rfl, h⟩
  intro h
  rw [h] at eT
  generalize hc : (((toldX B).sector i).2 != 0 || !(s == ((toldX B).sector i).1)) = c at hC eT
  have bad : ∀ k, k < 9 → (numS (rst B.body k)).2.2 ≠ 0 → (Sup.zero, false) = Z := fun k hk hne => by
    cases c with
    | true => exact eT.symm
    | false => exact absurd (hC rfl k hk) hne
  refine aw_cut ⟨⟨99, [(0, bA s), (1, i64 i), (4, .ref 0 0), (6, .ref 1 0), (8, .msl 2 1 0 0)]⟩, [.cells t_api_Super Sup.zero.cv, .cells t_api_Block [i64 B.kind, i64 B.vol, i64 B.addr, i64 B.epoch, i64 B.seq, bA B.body], .row t_i64 1 []]⟩ True (aw_region hT ?_) (fun _ => ?_)
  · exact ⟨Wk.trans (wk_phantom t_i64 1) (Wk.trans (wk_nil 8 2 1 0 rfl) (wk_pick [0, 1, 2] [0, 1, 4, 6, 8] rfl)), trivial⟩
  refine aw_cut ⟨⟨99, [(0, bA s), (1, i64 i), (4, .ref 0 0), (6, .ref 1 0), (8, .msl 2 1 0 0), (9, bA B.body)]⟩, [.cells t_api_Super Sup.zero.cv, .cells t_api_Block [i64 B.kind, i64 B.vol, i64 B.addr, i64 B.epoch, i64 B.seq, bA B.body], .row t_i64 1 []]⟩ True (aw_region hT ?_) (fun _ => ?_)
  · exact ⟨wk_pick [0, 1, 2] [0, 1, 4, 6, 8, 9] rfl, trivial⟩
  refine aw_cut ⟨⟨99, [(0, bA s), (1, i64 i), (4, .ref 0 0), (6, .ref 1 0), (8, .p (.sl 1 (ix [nv B.body 0, nv B.body 1, nv B.body 2, nv B.body 3, nv B.body 4, nv B.body 5, nv B.body 6, nv B.body 7, nv B.body 8])))]⟩, [.cells t_api_Super Sup.zero.cv, .cells t_api_Block [i64 B.kind, i64 B.vol, i64 B.addr, i64 B.epoch, i64 B.seq, bA B.body]]⟩ True (aw_seq (aw_region hT ?_)) (fun _ => ?_)
  · refine aw_block ?_
    refine aw_loopW (fun n st => ∃ (k : Nat) (j : Int) (L : List Int) (R : Bytes), n + k = 9 ∧ j = k ∧ L = (List.range k).map (nv B.body) ∧ R = rst B.body k ∧ st = ⟨⟨99, [(0, bA s), (1, i64 i), (4, .ref 0 0), (6, .ref 1 0), (8, .msl 2 1 0 (ix L).length), (9, bA R), (10, i64 j)]⟩, [.cells t_api_Super Sup.zero.cv, .cells t_api_Block [i64 B.kind, i64 B.vol, i64 B.addr, i64 B.epoch, i64 B.seq, bA B.body], .row t_i64 1 (ix L)]⟩) 9 ⟨⟨99, _⟩, [_, _, _]⟩ (wk_pick [0, 1, 2] [0, 1, 4, 6, 8, 9, 10] rfl) ⟨0, 0, [], _, rfl, rfl, rfl, rfl, rfl⟩ ?_
    rintro n st ⟨k, j, L, R, hnk, rfl, hL, hR, rfl⟩
    have hLl : L.length = k := by rw [hL]; simp
    have hil := ixl L
    have hRl := rst_len B.body k
    rw [← hR] at hRl
    refine aw_seq (aw_seq (aw_region hT ?_))
    refine aw_cond (boolI (fun h => ?_) (fun h => ?_))
    · have hk : k < 9 := by
        have := of_decide_eq_true (show decide ((k : Int) < 9) = true from h)
        omega
      have w := ref05_GetNum R (by omega)
      have bad := bad k hk
      rw [← hR] at bad
      have eR : rst B.body (k + 1) = R.drop (numS R).2.1 := by rw [hR]; rfl
      have eL : (List.range (k + 1)).map (nv B.body) = L ++ [((numS R).1 : Int)] := by rw [List.range_succ, List.map_append, hL, hR]; rfl
      generalize numS R = Y at w bad eR eL
      obtain ⟨v, m, f⟩ := Y
      have w : AF Try.prog f_ref05_GetNum [bA R] [] (Pure (.tup [i64 v, bA (R.drop m), i64 f]) []) := w
      have bad : f ≠ 0 → (Sup.zero, false) = Z := bad
      have eR : rst B.body (k + 1) = R.drop m := eR
      have eL : (List.range (k + 1)).map (nv B.body) = L ++ [(v : Int)] := eL
      generalize R.drop m = R' at w eR
      refine aw_skip ?_
      refine aw_cut ⟨⟨99, [(0, bA s), (1, i64 i), (4, .ref 0 0), (6, .ref 1 0), (8, .msl 2 1 0 (ix (L ++ [(v : Int)])).length), (9, bA R'), (10, i64 k)]⟩, [.cells t_api_Super Sup.zero.cv, .cells t_api_Block [i64 B.kind, i64 B.vol, i64 B.addr, i64 B.epoch, i64 B.seq, bA B.body], .row t_i64 1 (ix (L ++ [(v : Int)]))]⟩ True (aw_block (aw_seq (aw_region hT ?_))) (fun _ => ?_)
      · refine callP (af_at w _ rfl rfl) ?_
        refine aw_cut ⟨⟨99, [(0, bA s), (1, i64 i), (4, .ref 0 0), (6, .ref 1 0), (8, .msl 2 1 0 (ix L).length), (10, i64 k), (11, i64 v), (12, bA R')]⟩, [.cells t_api_Super Sup.zero.cv, .cells t_api_Block [i64 B.kind, i64 B.vol, i64 B.addr, i64 B.epoch, i64 B.seq, bA B.body], .row t_i64 1 (ix L)]⟩ True (aw_seq (aw_region hT ?_)) (fun _ => ?_)
        · refine aw_cond (boolI (fun h => ?_) (fun h => ?_))
          · have h : (f != 0) = true := h
            refine aw_seq (aw_region hT ?_)
            refine aw_ret ?_
            exact retPick [] ⟨_, bad (by simpa using h), rfl, rfl⟩ rfl
          · exact aw_skip ⟨wk_pick [0, 1, 2] [0, 1, 4, 6, 8, 10, 11, 12] rfl, trivial⟩
        refine aw_seq (aw_regionF (fun k => Nat.beq 2 k) hT ?_)
        refine ⟨⟨rfl, rfl⟩, ?_⟩
        refine ⟨rfl, ⟨?_, ?_⟩, ?_⟩
        · show ((ix L).length + 1) * 8 ≤ 140737488355328
          omega
        · show (ix L).length + 1 ≤ 140737488355328
          omega
        refine aw_region hT ?_
        rw [ix_snoc]
        exact ⟨wk_pick [0, 1, 3] [0, 1, 4, 6, 8, 9, 10] rfl, trivial⟩
      · refine aw_region hT ?_
        refine ⟨n - 1, by omega, _, wk_pick [0, 1, 2] [0, 1, 4, 6, 8, 9, 10] rfl, k + 1, IntKind.i64.wrap ((k : Int) + 1), L ++ [(v : Int)], R', by omega, ?_, eL.symm, eR.symm, rfl⟩
        rw [wrap64 _ (by omega) (by omega)]; rfl
    · have hk : ¬ (k : Int) < 9 := of_decide_eq_false h
      have hk9 : k = 9 := by omega
      have hL9 : L = [nv B.body 0, nv B.body 1, nv B.body 2, nv B.body 3, nv B.body 4, nv B.body 5, nv B.body 6, nv B.body 7, nv B.body 8] := by rw [hL, hk9]; rfl
      refine aw_exit ?_
      refine ⟨Wk.trans (wk_frzE 8 2 _ (by rw [hL9]) rfl rfl rfl) (wk_pick [0, 1] [0, 1, 4, 6, 8] rfl), trivial⟩
  rw [toldX_eq] at hc eT
  unfold toldV at hc eT
  generalize nv B.body 0 = a0 at hc eT
  generalize nv B.body 1 = a1 at hc eT
  generalize nv B.body 2 = a2 at hc eT
  generalize nv B.body 3 = a3 at hc eT
  generalize nv B.body 4 = a4 at hc eT
  generalize nv B.body 5 = a5 at hc eT
  generalize nv B.body 6 = a6 at hc eT
  generalize nv B.body 7 = a7 at hc eT
  generalize nv B.body 8 = a8 at hc eT
  obtain ⟨x, hx⟩ : ∃ x : Sup, x = ⟨B.vol, B.seq, B.epoch, a0, a1, a2, a3, a4, ⟨a5, a6, a7, a8⟩⟩ := ⟨_, rfl⟩
  rw [← hx] at hc eT
  have wS := ref10_Sector x i
  generalize x.sector i = Y at wS hc
  obtain ⟨t, f⟩ := Y
  have wS : AF Try.prog f_ref10_Sector [x.av, i64 i] [] (Pure (.tup [bA t, i64 f]) []) := wS
  have hc : (f != 0 || !(s == t)) = c := hc
  have wM := ref04_Same s t hl
  refine aw_cut ⟨⟨99, [(0, bA s), (1, i64 i), (4, .ref 0 0), (8, .p (.sl 1 (ix [a0, a1, a2, a3, a4, a5, a6, a7, a8]))), (14, .ref 1 0)]⟩, [.cells t_api_Super Sup.zero.cv, .cells t_api_Super [i64 B.vol, i64 B.seq, i64 B.epoch, i64 a0, i64 a1, i64 a2, i64 a3, i64 a4, i64 0, i64 0, i64 0, i64 0]]⟩ True ?_ (fun _ => ?_)
  · refine aw_draw [22, 23] [] hT follows_mixed (by rfl) ?_
    refine ⟨by decide, optI rfl ?_⟩
    refine ⟨by decide, optI rfl ?_⟩
    refine ⟨by decide, optI rfl ?_⟩
    refine ⟨by decide, optI rfl ?_⟩
    refine ⟨by decide, optI rfl ?_⟩
    repeat refine ⟨rfl, ?_⟩
    exact ⟨wk_pick [0, 2] [0, 1, 4, 8, 14] rfl, trivial⟩
  refine aw_cut ⟨⟨99, [(0, bA s), (1, i64 i), (4, .ref 0 0), (14, .ref 1 0)]⟩, [.cells t_api_Super Sup.zero.cv, supC x]⟩ True ?_ (fun _ => ?_)
  · refine aw_draw [14] [] hT follows_mixed (by rfl) ?_
    refine ⟨by decide, optI rfl ?_⟩
    refine ⟨by decide, optI rfl ?_⟩
    refine ⟨by decide, optI rfl ?_⟩
    refine ⟨by decide, optI rfl ?_⟩
    rw [hx]
    exact ⟨wk_pick [0, 1] [0, 1, 4, 14] rfl, trivial⟩
  clear hx
  refine aw_cut ⟨⟨99, [(0, bA s), (4, .ref 0 0), (14, .ref 1 0), (15, bA t), (16, i64 f)]⟩, [.cells t_api_Super Sup.zero.cv, supC x]⟩ True (aw_region hT ?_) (fun _ => ?_)
  · refine callP (af_at wS _ rfl rfl) ?_
    exact ⟨wk_pick [0, 1] [0, 4, 14, 15, 16] rfl, trivial⟩
  refine aw_cut ⟨⟨99, [(4, .ref 0 0), (14, .ref 1 0), (16, i64 f), (17, bl (s == t))]⟩, [.cells t_api_Super Sup.zero.cv, supC x]⟩ True (aw_region hT ?_) (fun _ => ?_)
  · refine callP (af_at wM _ rfl rfl) ?_
    exact ⟨wk_pick [0, 1] [4, 14, 16, 17] rfl, trivial⟩
  refine aw_cut ⟨⟨99, [(4, .ref 0 0), (14, .ref 1 0)]⟩, [.cells t_api_Super Sup.zero.cv, supC x]⟩ ((f != 0 || !(s == t)) = false) (aw_seq (aw_region hT ?_)) ?_
  · refine boolI (fun h1 => ?_) (fun h1 => ?_)
    · have h1 : (f != 0) = true := h1
      have hc : c = true := by rw [← hc, h1]; rfl
      rw [hc] at eT
      refine aw_cond ?_
      refine aw_seq (aw_region hT ?_)
      refine aw_ret ?_
      exact retPick [] ⟨_, eT.symm, rfl, rfl⟩ rfl
    · have h1 : (f != 0) = false := h1
      refine aw_cond (boolI (fun h2 => ?_) (fun h2 => ?_))
      · have h2 : (!(s == t)) = true := h2
        have hc : c = true := by rw [← hc, h2, Bool.or_true]
        rw [hc] at eT
        refine aw_seq (aw_region hT ?_)
        refine aw_ret ?_
        exact retPick [] ⟨_, eT.symm, rfl, rfl⟩ rfl
      · have h2 : (!(s == t)) = false := h2
        exact aw_skip ⟨wk_pick [0, 1] [4, 14] rfl, by rw [h1, h2]; rfl⟩
  intro h
  rw [← hc, h] at eT
  refine aw_seq (aw_region hT ?_)
  refine aw_ret ?_
  exact retPick [] ⟨_, eT.symm, rfl, rfl⟩ rfl
end Go.Proofs.Ytmdponffajapjaa.AL

/- The layer 10: the last one of four is picked. -/
namespace Go.Proofs.Ytmdponffajapjaa.AL
open Go Go.Proofs

def pk (l : List Bytes) : Nat → Sup
  | 0 => Sup.zero
  | k + 1 => match l[k]? with
    | none => pk l k
    | some s => match (toldB s k).2 && decide ((toldB s k).1.gen > (pk l k).gen) with
      | true => (toldB s k).1
      | false => pk l k
def pickB (l : List Bytes) : Sup × Bool := (pk l (min l.length 4), decide ((pk l (min l.length 4)).gen > 0))
theorem pk_step {l : List Bytes} {k : Nat} {s : Bytes} (h : l[k]? = some s) : pk l (k + 1) = match (toldB s k).2 && decide ((toldB s k).1.gen > (pk l k).gen) with
      | true => (toldB s k).1
      | false => pk l k := by rw [pk, h]
theorem pk_gen (l : List Bytes) : ∀ k, pk l k = Sup.zero ∨ 1 ≤ (pk l k).gen
  | 0 => .inl rfl
  | k + 1 => by
    cases h : l[k]? with
    | none => rw [pk, h]; exact pk_gen l k
    | some s =>
      rw [pk_step h]
      cases hc : (toldB s k).2 && decide ((toldB s k).1.gen > (pk l k).gen) with
      | false => exact pk_gen l k
      | true =>
        right
        rw [Bool.and_eq_true] at hc
        have h1 := of_decide_eq_true hc.2
        rcases pk_gen l k with h2 | h2
        · rw [h2] at h1
          have : (Sup.zero).gen = 0 := rfl
          show 1 ≤ (toldB s k).1.gen
          omega
        · show 1 ≤ (toldB s k).1.gen
          omega

set_option maxRecDepth 20000 in
theorem sup_Pick (l : List Bytes) (hl : l.length ≤ 1000000) (hs : ∀ s ∈ l, s.length ≤ 1000000) : AF Try.prog f_sup_Pick [.p (.sl 1 (catX l))] [] (Pure (.tup [(pickB l).1.av, bl (pickB l).2]) []) := by
  refine AF.mono (R := fun r H' => ∃ z, z = pickB l ∧ r = .tup [z.1.av, bl z.2] ∧ H' = []) ?_ (by rintro r H' ⟨b, rfl, rfl, rfl⟩; exact ⟨rfl, rfl⟩)
  have hcl : (catX l).length = l.length := by simp [catX]
  refine af_body hT F_sup_Pick rfl rfl N_sup_Pick rfl ?_
  refine aw_seq (aw_region hT ?_)
  refine aw_seq (aw_region hT ?_)
  have emin : min l.length 4 ≤ l.length := Nat.min_le_left _ _
  obtain ⟨M, hM⟩ : ∃ M, M = min l.length 4 := ⟨_, rfl⟩
  rw [← hM] at emin
  refine aw_cut2 (fun s => ∃ b, b = pk l M ∧ s = ⟨⟨40, [(2, .ref 0 0), (4, .ref 1 0)]⟩, [.cells t_api_Super Sup.zero.cv, supC b]⟩) ?_ ?_
  · refine aw_cut2 (fun s => ∃ X, X = catX (l.take M) ∧ s = ⟨⟨40, [(2, .ref 0 0), (4, .ref 1 0), (13, .p (.sl 1 X)), (14, i64 X.length), (15, i64 0)]⟩, [.cells t_api_Super Sup.zero.cv, supC Sup.zero]⟩) (aw_region hT ?_) ?_
    · have hv : (if (4 : Int) < ((catX l).length : Int) then (4 : Int) else ((catX l).length : Int)) = (M : Int) := by
        rw [hcl, hM]; split <;> omega
      refine ⟨⟨Int.le_refl _, ?_, ?_⟩, ?_⟩
      · show (0 : Int) ≤ (if (4 : Int) < ((catX l).length : Int) then (4 : Int) else ((catX l).length : Int))
        rw [hv]; omega
      · show (if (4 : Int) < ((catX l).length : Int) then (4 : Int) else ((catX l).length : Int)) ≤ ((catX l).length : Int)
        rw [hv, hcl]; omega
      refine ⟨_, wk_pick [0, 1] [2, 4, 13, 14, 15] rfl, _, ?_, rfl⟩
      show ((catX l).take (if (4 : Int) < ((catX l).length : Int) then (4 : Int) else ((catX l).length : Int)).toNat).drop (0 : Int).toNat = _
      rw [hv, Int.toNat_natCast]
      show (catX l).take M = _
      rw [catX, catX, List.map_take]
    rintro _ ⟨X, hX, rfl⟩
    have hXl : X.length = M := by rw [hX, catX, List.length_map, List.length_take]; omega
    refine aw_block ?_
    refine aw_loopW (fun n s => ∃ (k : Nat) (j : Int) (b : Sup), n + k = M ∧ j = k ∧ b = pk l k ∧ s = ⟨⟨40, [(2, .ref 0 0), (4, .ref 1 0), (13, .p (.sl 1 X)), (14, i64 X.length), (15, i64 j)]⟩, [.cells t_api_Super Sup.zero.cv, supC b]⟩) M ⟨⟨40, _⟩, [_, _]⟩ (wk_pick [0, 1] [2, 4, 13, 14, 15] rfl) ⟨0, 0, _, rfl, rfl, rfl, rfl⟩ ?_
    rintro n s ⟨k, j, b, hnk, rfl, hb, rfl⟩
    refine aw_seq (aw_region hT ?_)
    refine aw_seq (aw_cond (boolI (fun h => ?_) (fun h => ?_)))
    · have hk : k < M := by
        have := of_decide_eq_true (show decide ((k : Int) < (X.length : Int)) = true from h)
        omega
      have hx := List.getElem?_eq_getElem (show k < l.length by omega)
      have hm := hs _ (List.getElem_mem (show k < l.length by omega))
      generalize l[k]'(by omega) = s at hx hm
      have hxp : X[((k : Nat) : Int).toNat]? = some [bP s] := by
        rw [Int.toNat_natCast, hX]
        exact catX_get (by rw [List.getElem?_take_of_lt hk]; exact hx)
      have hst := pk_step hx
      rw [← hb] at hst
      have w := sup_Told s k hm
      generalize toldB s (k : Int) = Y at w hst
      obtain ⟨x, g⟩ := Y
      have w : AF Try.prog f_sup_Told [bA s, i64 k] [] (Pure (.tup [x.av, bl g]) []) := w
      have hst : pk l (k + 1) = match g && decide (x.gen > b.gen) with | true => x | false => b := hst
      refine aw_skip ?_
      refine aw_cut2 (fun st => ∃ b', b' = pk l (k + 1) ∧ st = ⟨⟨40, [(2, .ref 0 0), (4, .ref 1 0), (13, .p (.sl 1 X)), (14, i64 X.length), (15, i64 k)]⟩, [.cells t_api_Super Sup.zero.cv, supC b']⟩) (aw_block (aw_seq (aw_region hT ?_))) ?_
      · refine ⟨Int.natCast_nonneg _, optI hxp ?_⟩
        refine aw_cut ⟨⟨40, [(2, .ref 0 0), (4, .ref 1 0), (7, .ref 2 0), (8, bl g), (13, .p (.sl 1 X)), (14, i64 X.length), (15, i64 k)]⟩, [.cells t_api_Super Sup.zero.cv, supC b, supC x]⟩ True (aw_region hT ?_) (fun _ => ?_)
        · refine callP (af_at w _ rfl rfl) ?_
          exact ⟨wk_pick [0, 1, 2] [2, 4, 7, 8, 13, 14, 15] rfl, trivial⟩
        refine aw_seq (aw_region hT ?_)
        refine boolI (fun h1 => ?_) (fun h1 => ?_)
        · have h1 : g = true := h1
          refine aw_cond (boolI (fun h2 => ?_) (fun h2 => ?_))
          · have h2 : decide (x.gen > b.gen) = true := h2
            refine aw_region hT ?_
            exact ⟨_, wk_pick [0, 1] [2, 4, 13, 14, 15] rfl, x, by rw [hst, h1, h2]; rfl, rfl⟩
          · have h2 : decide (x.gen > b.gen) = false := h2
            exact aw_skip ⟨_, wk_pick [0, 1] [2, 4, 13, 14, 15] rfl, b, by rw [hst, h1, h2]; rfl, rfl⟩
        · have h1 : g = false := h1
          refine aw_cond ?_
          exact aw_skip ⟨_, wk_pick [0, 1] [2, 4, 13, 14, 15] rfl, b, by rw [hst, h1]; rfl, rfl⟩
      · rintro _ ⟨b', hb', rfl⟩
        refine aw_region hT ?_
        refine ⟨n - 1, by omega, _, wk_pick [0, 1] [2, 4, 13, 14, 15] rfl, k + 1, IntKind.i64.wrap ((k : Int) + 1), b', by omega, ?_, hb', rfl⟩
        rw [wrap64 _ (by omega) (by omega)]; rfl
    · have hk : ¬ (k : Int) < (X.length : Int) := of_decide_eq_false h
      have hkM : k = M := by omega
      rw [hkM] at hb
      refine aw_exit ?_
      exact ⟨_, wk_pick [0, 1] [2, 4] rfl, b, hb, rfl⟩
  · rintro _ ⟨b, hb, rfl⟩
    have hz : (b, decide (b.gen > 0)) = pickB l := by unfold pickB; rw [← hM, hb]
    refine aw_seq ?_
    refine aw_draw [4] [] hT follows_mixed (by rfl) ?_
    refine ⟨rfl, ?_⟩
    refine aw_ret ?_
    exact retPick [] ⟨_, hz, rfl, rfl⟩ rfl
end Go.Proofs.Ytmdponffajapjaa.AL

/- The document's layer 10: the last one of four is picked. -/
namespace Go.Proofs.Ytmdponffajapjaa.AL
open Go Go.Proofs

theorem told_gen {s : Bytes} {i : Int} (h : (toldB s i).2 = true) : 1 ≤ (toldB s i).1.gen := by
  have h1 := told_true (s := s) (i := i) (x := (toldB s i).1) (by rw [← h])
  have hm := h1.1
  unfold Sup.may at hm
  simp only [Bool.and_eq_true, decide_eq_true_eq] at hm
  exact hm.1.1.1.1.1.2

set_option maxRecDepth 20000 in
theorem ref10_Pick (l : List Bytes) (hl : l.length ≤ 1000000) (hs : ∀ s ∈ l, s.length ≤ 1000000) : AF Try.prog f_ref10_Pick [.p (.sl 1 (catX l))] [] (Pure (.tup [(pickB l).1.av, bl (pickB l).2]) []) := by
  refine AF.mono (R := fun r H' => ∃ z, z = pickB l ∧ r = .tup [z.1.av, bl z.2] ∧ H' = []) ?_ (by rintro r H' ⟨b, rfl, rfl, rfl⟩; exact ⟨rfl, rfl⟩)
  have hcl : (catX l).length = l.length := by simp [catX]
  refine af_body hT F_ref10_Pick rfl rfl N_ref10_Pick rfl ?_
  refine aw_seq (aw_region hT ?_)
  refine aw_seq (aw_region hT ?_)
  refine aw_seq (aw_region hT ?_)
  have emin : min l.length 4 ≤ l.length := Nat.min_le_left _ _
  obtain ⟨M, hM⟩ : ∃ M, M = min l.length 4 := ⟨_, rfl⟩
  rw [← hM] at emin
  refine aw_cut2 (fun s => ∃ b g, b = pk l M ∧ g = decide (b.gen > 0) ∧ s = ⟨⟨44, [(2, .ref 0 0), (4, .ref 1 0), (5, bl g)]⟩, [.cells t_api_Super Sup.zero.cv, supC b]⟩) (aw_seq (aw_region hT ?_)) ?_
  · refine aw_block ?_
    refine aw_loopW (fun n s => ∃ (k : Nat) (j : Int) (b : Sup) (g : Bool), n + k = M ∧ j = k ∧ b = pk l k ∧ g = decide (b.gen > 0) ∧ s = ⟨⟨44, [(0, .p (.sl 1 (catX l))), (2, .ref 0 0), (4, .ref 1 0), (5, bl g), (6, i64 j)]⟩, [.cells t_api_Super Sup.zero.cv, supC b]⟩) M ⟨⟨44, _⟩, [_, _]⟩ (wk_pick [0, 1] [0, 2, 4, 5, 6] rfl) ⟨0, 0, Sup.zero, false, rfl, rfl, rfl, rfl, rfl⟩ ?_
    rintro n s ⟨k, j, b, g, hnk, rfl, hb, hg, rfl⟩
    refine aw_cut2 (fun s => k < M ∧ s = ⟨⟨44, [(0, .p (.sl 1 (catX l))), (2, .ref 0 0), (4, .ref 1 0), (5, bl g), (6, i64 k)]⟩, [.cells t_api_Super Sup.zero.cv, supC b]⟩) (aw_seq (aw_region hT ?_)) ?_
    · have out : k = M → b = pk l M := fun e => by rw [hb, e]
      refine boolI (fun h => ?_) (fun h => ?_)
      · have h := of_decide_eq_true (show decide ((k : Int) < ((catX l).length : Int)) = true from h)
        refine aw_cond (boolI (fun h2 => ?_) (fun h2 => ?_))
        · have h2 := of_decide_eq_true (show decide ((k : Int) < 4) = true from h2)
          exact aw_skip ⟨_, wk_pick [0, 1] [0, 2, 4, 5, 6] rfl, by omega, rfl⟩
        · have h2 := of_decide_eq_false (show decide ((k : Int) < 4) = false from h2)
          refine aw_exit ?_
          exact ⟨_, wk_pick [0, 1] [2, 4, 5] rfl, b, g, out (by omega), hg, rfl⟩
      · have h := of_decide_eq_false (show decide ((k : Int) < ((catX l).length : Int)) = false from h)
        refine aw_cond ?_
        refine aw_exit ?_
        exact ⟨_, wk_pick [0, 1] [2, 4, 5] rfl, b, g, out (by omega), hg, rfl⟩
    rintro _ ⟨hk, rfl⟩
    have hx := List.getElem?_eq_getElem (show k < l.length by omega)
    have hm := hs _ (List.getElem_mem (show k < l.length by omega))
    generalize l[k]'(by omega) = s at hx hm
    have hxp : (catX l)[((k : Nat) : Int).toNat]? = some [bP s] := by rw [Int.toNat_natCast]; exact catX_get hx
    have hst := pk_step hx
    have hpz := pk_gen l k
    rw [← hb] at hst hpz
    have w := ref10_Told s k hm
    have htg := told_gen (s := s) (i := (k : Int))
    generalize toldB s (k : Int) = Y at w hst htg
    obtain ⟨x, f⟩ := Y
    have w : AF Try.prog f_ref10_Told [bA s, i64 k] [] (Pure (.tup [x.av, bl f]) []) := w
    have htg : f = true → 1 ≤ x.gen := htg
    have hst : pk l (k + 1) = match f && decide (x.gen > b.gen) with | true => x | false => b := hst
    refine aw_cut2 (fun st => ∃ b' g', b' = pk l (k + 1) ∧ g' = decide (b'.gen > 0) ∧ st = ⟨⟨44, [(0, .p (.sl 1 (catX l))), (2, .ref 0 0), (4, .ref 1 0), (5, bl g'), (6, i64 k)]⟩, [.cells t_api_Super Sup.zero.cv, supC b']⟩) (aw_block ?_) ?_
    · refine aw_cut ⟨⟨44, [(0, .p (.sl 1 (catX l))), (2, .ref 0 0), (4, .ref 1 0), (5, bl g), (6, i64 k), (7, .ref 2 0), (8, bl f)]⟩, [.cells t_api_Super Sup.zero.cv, supC b, supC x]⟩ True (aw_region hT ?_) (fun _ => ?_)
      · refine ⟨Int.natCast_nonneg _, optI hxp ?_⟩
        refine callP (af_at w _ rfl rfl) ?_
        exact ⟨wk_pick [0, 1, 2] [0, 2, 4, 5, 6, 7, 8] rfl, trivial⟩
      have take : f = true → x.gen > b.gen → x = pk l (k + 1) ∧ true = decide (x.gen > 0) := fun h1 h2 => by
        rw [hst, h1, decide_eq_true h2]
        exact ⟨rfl, (decide_eq_true (by have := htg h1; omega)).symm⟩
      refine aw_seq (aw_region hT ?_)
      refine boolI (fun h1 => ?_) (fun h1 => ?_)
      · have h1 : f = true := h1
        refine boolI (fun h2 => ?_) (fun h2 => ?_)
        · have h2 : (!g) = true := h2
          have hgf : g = false := (Bool.not_eq_true' _).mp h2
          have hbz : x.gen > b.gen := by
            have h3 := of_decide_eq_false (hg.symm.trans hgf)
            have := htg h1
            omega
          obtain ⟨t1, t2⟩ := take h1 hbz
          refine aw_cond ?_
          refine aw_seq (aw_region hT ?_)
          refine aw_region hT ?_
          exact ⟨_, wk_pick [0, 1] [0, 2, 4, 5, 6] rfl, x, true, t1, t2, rfl⟩
        · refine aw_cond (boolI (fun h3 => ?_) (fun h3 => ?_))
          · have h3 := of_decide_eq_true (show decide (x.gen > b.gen) = true from h3)
            obtain ⟨t1, t2⟩ := take h1 h3
            refine aw_seq (aw_region hT ?_)
            refine aw_region hT ?_
            exact ⟨_, wk_pick [0, 1] [0, 2, 4, 5, 6] rfl, x, true, t1, t2, rfl⟩
          · have h3 : decide (x.gen > b.gen) = false := h3
            exact aw_skip ⟨_, wk_pick [0, 1] [0, 2, 4, 5, 6] rfl, b, g, by rw [hst, h3, Bool.and_false], hg, rfl⟩
      · have h1 : f = false := h1
        refine aw_cond ?_
        exact aw_skip ⟨_, wk_pick [0, 1] [0, 2, 4, 5, 6] rfl, b, g, by rw [hst, h1]; rfl, hg, rfl⟩
    · rintro _ ⟨b', g', hb', hg', rfl⟩
      refine aw_region hT ?_
      refine ⟨n - 1, by omega, _, wk_pick [0, 1] [0, 2, 4, 5, 6] rfl, k + 1, IntKind.i64.wrap ((k : Int) + 1), b', g', by omega, ?_, hb', hg', rfl⟩
      rw [wrap64 _ (by omega) (by omega)]; rfl
  · rintro _ ⟨b, g, hb, hg, rfl⟩
    have hz : (b, g) = pickB l := by unfold pickB; rw [← hM, ← hb, hg]
    refine aw_seq (aw_region hT ?_)
    refine aw_ret ?_
    exact retPick [] ⟨_, hz, rfl, rfl⟩ rfl
end Go.Proofs.Ytmdponffajapjaa.AL

/- The layer 09 (keep): a sector is written till it has what it should; some; what is mended. -/
namespace Go.Proofs.Ytmdponffajapjaa.AL
open Go Go.Proofs

def Dev.tryK : Nat → Dev → Int → Bytes → Int × Dev
  | 0, D, _, _ => (22, D)
  | n + 1, D, a, s => match (D.once a s).1.2 != 0 with
    | true => ((D.once a s).1.2, (D.once a s).2)
    | false => match (D.once a s).1.1 with
      | true => (0, (D.once a s).2)
      | false => Dev.tryK n (D.once a s).2 a s
def Dev.one (D : Dev) (a : Int) (s : Bytes) : Int × Dev := Dev.tryK 4 D a s
/-- One more, where it went well. -/
def more (e m : Int) : Int := match e == 0 with | true => IntKind.i64.wrap (m + 1) | false => m

theorem once_ok {D : Dev} {b : Nat} (h : D.Ok b) (a : Int) (s : Bytes) : (D.once a s).2.Ok (b + 1) := by
  unfold Dev.once
  split
  · exact h.write a s
  split
  · exact (h.write a s).flush
  · unfold Dev.hhas
    split
    · exact (h.write a s).flush.read a
    · exact (h.write a s).flush.read a
theorem tryK_ok : ∀ (n : Nat) {D : Dev} {b : Nat}, D.Ok b → ∀ (a : Int) (s : Bytes), (Dev.tryK n D a s).2.Ok (b + n)
  | 0, D, b, h, a, s => h
  | n + 1, D, b, h, a, s => by
    unfold Dev.tryK
    split
    · exact (once_ok h a s).mono (by omega)
    split
    · exact (once_ok h a s).mono (by omega)
    · rw [show b + (n + 1) = b + 1 + n by omega]
      exact tryK_ok n (once_ok h a s) a s
theorem one_ok2 {D : Dev} {b : Nat} (h : D.Ok b) (a : Int) (s : Bytes) : (D.one a s).2.Ok (b + 4) := tryK_ok 4 h a s
/-- What goes wrong tells an error. -/
theorem once_err {D : Dev} {a : Int} {s : Bytes} (h : (D.once a s).1.1 = true) : (D.once a s).1.2 = 0 := by
  unfold Dev.once at h ⊢
  split at h
  · simp at h
  split at h
  · simp at h
  · unfold Dev.hhas at h ⊢
    split at h
    · simp at h
    · have h : ((((D.write a s).2.flush.2.read a).1.2 == 0) && _) = true := h
      rw [Bool.and_eq_true] at h
      have := h.1
      simpa using this

theorem hand_one (D : Dev) (m a : Int) (s : Bytes) (b : Nat) (hD : D.Ok b) (hb : b + 4 < 1000000) : AFm Try.prog 2 f_keep_hand_one [.ref 0 0, putAV a s] (hH D m) (Pure (i64 (D.one a s).1) (hH (D.one a s).2 (more (D.one a s).1 m))) := by
  refine af_bodyM 2 hT F_keep_hand_one rfl rfl N_keep_hand_one rfl rfl ?_
  refine aw_seq (aw_region hT ?_)
  refine aw_wk (wk_boxL 4 [.raw (.int .i64 a), bP s] rfl rfl) ?_
  refine aw_cut2 (fun s1 => ∃ E, D.one a s = (22, E) ∧ s1 = ⟨⟨29, []⟩, hH E m⟩) (aw_seq (aw_region hT ?_)) ?_
  · refine aw_block ?_
    refine aw_loopW (fun n s1 => ∃ (i : Nat) (j : Int) (E : Dev), n + i = 4 ∧ j = i ∧ E.Ok (b + i) ∧ D.one a s = Dev.tryK n E a s ∧ s1 = ⟨⟨29, [(0, .ref 0 0), (3, .p (.box [.raw (.int .i64 a), bP s])), (7, i64 j)]⟩, hH E m⟩) 4 ⟨⟨29, _⟩, [_, _, _, _]⟩ (wk_pick [0, 1, 2, 3] [0, 3, 7] rfl) ⟨0, 0, D, rfl, rfl, hD, rfl, rfl⟩ ?_
    rintro n s1 ⟨i, j, E, hni, rfl, hE, hone, rfl⟩
    refine aw_seq (aw_region hT ?_)
    refine aw_seq (aw_cond (boolI (fun h => ?_) (fun h => ?_)))
    · have hi : i < 4 := by
        have := of_decide_eq_true (show decide ((i : Int) < 4) = true from h)
        omega
      obtain ⟨n, rfl⟩ : ∃ k, n = k + 1 := ⟨n - 1, by omega⟩
      have w := hand_once E m a s (b + i) hE (by omega)
      have ok := once_ok hE a s
      have herr := @once_err E a s
      unfold Dev.tryK at hone
      generalize E.once a s = Y at w ok hone herr
      obtain ⟨⟨y1, y2⟩, E2⟩ := Y
      refine aw_skip ?_
      refine aw_cut ⟨⟨29, [(0, .ref 0 0), (3, .p (.box [.raw (.int .i64 a), bP s])), (7, i64 i)]⟩, hH E2 m⟩ (y2 = 0 ∧ y1 = false) (aw_block (aw_seq (aw_region hT ?_))) ?_
      · refine callP (af_in [0, 1, 2, 3] w rfl rfl rfl) ?_
        refine aw_block ?_
        refine aw_seq (aw_region hT ?_)
        refine aw_cond (boolI (fun h1 => ?_) (fun h1 => ?_))
        · have h1 : (y2 != 0) = true := h1
          have e : D.one a s = (y2, E2) := by rw [hone]; simp only; rw [h1]
          refine aw_seq (aw_region hT ?_)
          refine aw_ret ?_
          rw [e]
          have hm : more y2 m = m := by unfold more; rw [show (y2 == 0) = false by simpa using h1]
          rw [hm]
          exact retPick [0, 1, 4, 5] ⟨rfl, rfl⟩ rfl
        · have h1 : (y2 != 0) = false := h1
          refine aw_seq (aw_region hT ?_)
          refine aw_cond (boolI (fun h2 => ?_) (fun h2 => ?_))
          · have h2 : y1 = true := h2
            have e : D.one a s = (0, E2) := by rw [hone]; simp only; rw [h1, h2]
            refine aw_seq (aw_region hT ?_)
            refine aw_seq (aw_region hT ?_)
            refine aw_ret ?_
            rw [e]
            exact retPick [0, 1, 4, 5] ⟨rfl, rfl⟩ rfl
          · exact aw_skip ⟨wk_pick [0, 1, 4, 5] [0, 3, 7] rfl, by simpa using h1, h2⟩
      · rintro ⟨h1, h2⟩
        have e : D.one a s = Dev.tryK n E2 a s := by rw [hone]; simp only; rw [show (y2 != 0) = false by simpa using h1, h2]
        refine aw_region hT ?_
        refine ⟨n, by omega, _, wk_pick [0, 1, 2, 3] [0, 3, 7] rfl, i + 1, IntKind.i64.wrap ((i : Int) + 1), E2, by omega, ?_, by rw [← Nat.add_assoc]; exact ok, e, rfl⟩
        rw [wrap64 _ (by omega) (by omega)]; rfl
    · have hi : ¬ (i : Int) < 4 := of_decide_eq_false h
      have hn0 : n = 0 := by omega
      subst hn0
      refine aw_exit ?_
      exact ⟨_, wk_pick [0, 1, 2, 3] [] rfl, E, hone, rfl⟩
  · rintro _ ⟨E, e, rfl⟩
    refine aw_seq (aw_region hT ?_)
    refine aw_ret ?_
    rw [e]
    exact retPick [0, 1, 2, 3] ⟨rfl, rfl⟩ rfl
end Go.Proofs.Ytmdponffajapjaa.AL

/- The layer 09 (keep): each of some; one, all. -/
namespace Go.Proofs.Ytmdponffajapjaa.AL
open Go Go.Proofs

structure Put9 where
  at_ : Int
  s : Bytes
def Put9.pv (x : Put9) : List PV := [.raw (.int .i64 x.at_), bP x.s]
def px (l : List Put9) : List (List PV) := l.map Put9.pv
theorem px_len (l : List Put9) : (px l).length = l.length := by simp [px]
theorem px_get {l : List Put9} {i : Nat} {c : Put9} (h : l[i]? = some c) : (px l)[i]? = some c.pv := by rw [px, List.getElem?_map, h]; rfl

def eachK (g : Dev → Int → Int → Bytes → Int × (Dev × Int)) : List Put9 → Dev → Int → Int × (Dev × Int)
  | [], D, m => (0, (D, m))
  | x :: r, D, m => match (g D m x.at_ x.s).1 != 0 with
    | true => g D m x.at_ x.s
    | false => eachK g r (g D m x.at_ x.s).2.1 (g D m x.at_ x.s).2.2

theorem eachK_cons (g : Dev → Int → Int → Bytes → Int × (Dev × Int)) (x : Put9) (r : List Put9) (D : Dev) (m : Int) : eachK g (x :: r) D m = match (g D m x.at_ x.s).1 != 0 with
    | true => g D m x.at_ x.s
    | false => eachK g r (g D m x.at_ x.s).2.1 (g D m x.at_ x.s).2.2 := rfl

/-- What a hand's function does to a device. -/
def Steps (f : FuncId) (g : Dev → Int → Int → Bytes → Int × (Dev × Int)) : Prop := ∀ (D : Dev) (m a : Int) (s : Bytes) (b : Nat), D.Ok b → b + 4 < 1000000 →
  AFm Try.prog 2 f [.ref 0 0, putAV a s] (hH D m) (Pure (i64 (g D m a s).1) (hH (g D m a s).2.1 (g D m a s).2.2)) ∧ (g D m a s).2.1.Ok (b + 4)

theorem each_ok {f : FuncId} {g : Dev → Int → Int → Bytes → Int × (Dev × Int)} (hg : Steps f g) : ∀ (l : List Put9) {D : Dev} {m : Int} {b : Nat}, D.Ok b → b + 4 * l.length < 1000000 → (eachK g l D m).2.1.Ok (b + 4 * l.length)
  | [], D, m, b, h, _ => h
  | x :: r, D, m, b, h, hb => by
    simp only [List.length_cons] at hb
    have h1 := (hg D m x.at_ x.s b h (by omega)).2
    unfold eachK
    split
    · exact h1.mono (by simp only [List.length_cons]; omega)
    · rw [show b + 4 * (x :: r).length = b + 4 + 4 * r.length by simp only [List.length_cons]; omega]
      exact each_ok hg r h1 (by omega)

theorem keep_each {f : FuncId} {g : Dev → Int → Int → Bytes → Int × (Dev × Int)} (hg : Steps f g) (l : List Put9) (D : Dev) (m : Int) (b : Nat) (hD : D.Ok b) (hb : b + 4 * l.length < 1000000) :
    AFm Try.prog 2 f_keep_each [.p (.sl 2 (px l)), .mth (.func f) [.ref 0 0]] (hH D m) (Pure (i64 (eachK g l D m).1) (hH (eachK g l D m).2.1 (eachK g l D m).2.2)) := by
  refine af_bodyM 2 hT F_keep_each rfl rfl N_keep_each rfl rfl ?_
  refine aw_seq (aw_region hT ?_)
  refine aw_cut2 (fun s1 => ∃ E k, eachK g l D m = (0, (E, k)) ∧ s1 = ⟨⟨21, []⟩, hH E k⟩) (aw_seq (aw_region hT ?_)) ?_
  · refine aw_block ?_
    refine aw_loopW (fun n s1 => ∃ (i : Nat) (j : Int) (E : Dev) (k : Int), n + i = l.length ∧ j = i ∧ E.Ok (b + 4 * i) ∧ eachK g l D m = eachK g (l.drop i) E k ∧ s1 = ⟨⟨21, [(1, .mth (.func f) [.ref 0 0]), (8, .p (.sl 2 (px l))), (9, i64 l.length), (10, i64 j)]⟩, hH E k⟩) l.length ⟨⟨21, _⟩, [_, _, _, _]⟩ (wk_pick [0, 1, 2, 3] [1, 8, 9, 10] rfl) ⟨0, 0, D, m, rfl, rfl, hD, rfl, by rw [← px_len l]; rfl⟩ ?_
    rintro n s1 ⟨i, j, E, k, hni, rfl, hE, he, rfl⟩
    refine aw_seq (aw_region hT ?_)
    refine aw_seq (aw_cond (boolI (fun h => ?_) (fun h => ?_)))
    · have hi : i < l.length := by
        have := of_decide_eq_true (show decide ((i : Int) < (l.length : Int)) = true from h)
        omega
      have hx := List.getElem?_eq_getElem hi
      have hdr : l.drop i = l[i] :: l.drop (i + 1) := List.drop_eq_getElem_cons hi
      generalize l[i] = x at hx hdr
      have hxp : (px l)[((i : Nat) : Int).toNat]? = some x.pv := by rw [Int.toNat_natCast]; exact px_get hx
      obtain ⟨w, ok⟩ := hg E k x.at_ x.s (b + 4 * i) hE (by omega)
      rw [hdr, eachK_cons] at he
      generalize g E k x.at_ x.s = Y at w ok he
      obtain ⟨e, E2, k2⟩ := Y
      refine aw_skip ?_
      refine aw_cut ⟨⟨21, [(1, .mth (.func f) [.ref 0 0]), (8, .p (.sl 2 (px l))), (9, i64 l.length), (10, i64 i)]⟩, hH E2 k2⟩ (e = 0) (aw_block (aw_seq (aw_region hT ?_))) ?_
      · refine ⟨Int.natCast_nonneg _, optI hxp ?_⟩
        refine aw_seq (aw_region hT ?_)
        refine callP (af_in [0, 1, 2, 3] w rfl rfl rfl) ?_
        refine aw_seq (aw_region hT ?_)
        refine aw_cond (boolI (fun h1 => ?_) (fun h1 => ?_))
        · have h1 : (e != 0) = true := h1
          have e1 : eachK g l D m = (e, (E2, k2)) := by rw [he]; simp only; rw [h1]
          refine aw_seq (aw_region hT ?_)
          refine aw_ret ?_
          rw [e1]
          exact retPick [0, 1, 5, 6] ⟨rfl, rfl⟩ rfl
        · have h1 : (e != 0) = false := h1
          exact aw_skip ⟨wk_pick [0, 1, 5, 6] [1, 8, 9, 10] rfl, by simpa using h1⟩
      · intro h1
        have e1 : eachK g l D m = eachK g (l.drop (i + 1)) E2 k2 := by rw [he]; simp only; rw [show (e != 0) = false by simpa using h1]
        refine aw_region hT ?_
        refine ⟨n - 1, by omega, _, wk_pick [0, 1, 2, 3] [1, 8, 9, 10] rfl, i + 1, IntKind.i64.wrap ((i : Int) + 1), E2, k2, by omega, ?_, by rw [show b + 4 * (i + 1) = b + 4 * i + 4 by omega]; exact ok, e1, rfl⟩
        rw [wrap64 _ (by omega) (by omega)]; rfl
    · have hi : ¬ (i : Int) < (l.length : Int) := of_decide_eq_false h
      have hil : i = l.length := by omega
      subst hil
      rw [List.drop_length] at he
      refine aw_exit ?_
      exact ⟨_, wk_pick [0, 1, 2, 3] [] rfl, E, k, he, rfl⟩
  · rintro _ ⟨E, k, e, rfl⟩
    refine aw_seq (aw_region hT ?_)
    refine aw_ret ?_
    rw [e]
    exact retPick [0, 1, 2, 3] ⟨rfl, rfl⟩ rfl

/-- One, as a step. -/
def oneG (D : Dev) (m a : Int) (s : Bytes) : Int × (Dev × Int) := ((D.one a s).1, ((D.one a s).2, more (D.one a s).1 m))
theorem steps_one : Steps f_keep_hand_one oneG := fun D m a s b hD hb => ⟨hand_one D m a s b hD hb, one_ok2 hD a s⟩

def Dev.all9 (D : Dev) (l : List Put9) : Int × Dev := ((eachK oneG l D 0).1, (eachK oneG l D 0).2.1)
theorem keep_All (D : Dev) (l : List Put9) (b : Nat) (hD : D.Ok b) (hb : b + 4 * l.length < 1000000) : AFm Try.prog 1 f_keep_All [.ref 0 0, .p (.sl 2 (px l))] (devH D) (Pure (i64 (D.all9 l).1) (devH (D.all9 l).2)) := by
  have w := keep_each steps_one l D 0 b hD hb
  unfold Dev.all9
  generalize eachK oneG l D 0 = Y at w
  obtain ⟨e, E, k⟩ := Y
  refine af_bodyM 1 hT F_keep_All rfl rfl N_keep_All rfl rfl ?_
  refine aw_seq (aw_region hT ?_)
  refine aw_seq (aw_region hT ?_)
  refine callP (af_in [3, 0, 1, 2] w rfl rfl rfl) ?_
  refine aw_ret ?_
  exact retPick [0, 4, 5] ⟨rfl, rfl⟩ rfl
end Go.Proofs.Ytmdponffajapjaa.AL

/- The layer 10: all copies are written. -/
namespace Go.Proofs.Ytmdponffajapjaa.AL
open Go Go.Proofs

theorem wk_frzN {m : Nat} {s : St} (i b sz n : Nat) {t : TypeId} {xs ys : List (List PV)} (e : xs = ys) (hn : n = xs.length) (hb : s.H[b]? = some (.row t sz xs)) (hi : look s.fr.l i = some (.msl b sz 0 n)) :
    Wk m s ⟨⟨s.fr.n, (i, .p (.sl sz ys)) :: s.fr.l⟩, s.H.set b .dead⟩ := by
  subst hn
  have := wk_frz1 (m := m) (s := s) i b hb hi (by omega)
  rw [List.drop_zero, List.take_length] at this
  subst e
  exact this
def Sup.put (x : Sup) (k : Nat) : Put9 := ⟨(k : Int), (x.sector k).1⟩
def Sup.puts (x : Sup) : List Put9 := (List.range 4).map x.put
def Dev.install (D : Dev) (x : Sup) : Int × Dev := match x.may with
  | false => (1, D)
  | true => D.all9 x.puts
theorem px_snoc (l : List Put9) (p : Put9) : px (l ++ [p]) = px l ++ [p.pv] := by simp [px]
theorem sector_err {x : Sup} {k : Nat} (h : k < 4) : (x.sector k).2 = match x.may with | true => 0 | false => 1 := by
  cases hm : x.may with
  | true => rw [(sector_ok hm (show (0 : Int) ≤ (k : Int) by omega) (by omega)).1]
  | false => unfold Sup.sector; rw [hm]; rfl

set_option maxRecDepth 20000 in
theorem sup_Install (D : Dev) (x : Sup) (b : Nat) (hD : D.Ok b) (hb : b + 16 < 1000000) : AFm Try.prog 1 f_sup_Install [.ref 0 0, x.av] (devH D) (Pure (i64 (D.install x).1) (devH (D.install x).2)) := by
  refine AFm.mono (R := fun r H' => ∃ z, z = D.install x ∧ r = i64 z.1 ∧ H' = devH z.2) ?_ (by rintro r H' ⟨b, rfl, rfl, rfl⟩; exact ⟨rfl, rfl⟩)
  refine af_bodyM 1 hT F_sup_Install rfl rfl N_sup_Install rfl rfl ?_
  refine aw_seq (aw_region hT ?_)
  refine aw_wk (wk_boxL 3 x.pv rfl rfl) ?_
  refine aw_cut ⟨⟨31, [(0, .ref 0 0), (3, .p (.box x.pv)), (5, .msl 3 2 0 0)]⟩, devH D ++ [.row t_api_Put 2 []]⟩ True (aw_region hT ?_) (fun _ => ?_)
  · exact ⟨Wk.trans (wk_pick [0, 1, 2] [0, 3, 5] rfl) (Wk.trans (wk_phantom t_api_Put 2) (Wk.trans (wk_nil 5 3 2 0 rfl) (wk_pick [0, 1, 2, 3] [0, 3, 5] rfl))), trivial⟩
  refine aw_cut ⟨⟨31, [(0, .ref 0 0), (5, .p (.sl 2 (px x.puts)))]⟩, devH D⟩ (x.may = true) (aw_seq (aw_region hT ?_)) ?_
  · refine aw_block ?_
    refine aw_loopW (fun n s => ∃ (k : Nat) (j : Int) (L : List Put9), n + k = 4 ∧ j = k ∧ L = (List.range k).map x.put ∧ (0 < k → x.may = true) ∧ s = ⟨⟨31, [(0, .ref 0 0), (3, .p (.box x.pv)), (5, .msl 3 2 0 (px L).length), (9, i64 j)]⟩, devH D ++ [.row t_api_Put 2 (px L)]⟩) 4 ⟨⟨31, _⟩, _⟩ (wk_pick [0, 1, 2, 3] [0, 3, 5, 9] rfl) ⟨0, 0, [], rfl, rfl, rfl, fun h => absurd h (by omega), rfl⟩ ?_
    rintro n s ⟨k, j, L, hnk, rfl, hL, hm, rfl⟩
    have hLl : L.length = k := by rw [hL]; simp
    have hpl := px_len L
    refine aw_seq (aw_region hT ?_)
    refine aw_seq (aw_cond (boolI (fun h => ?_) (fun h => ?_)))
    · have hk : k < 4 := by
        have := of_decide_eq_true (show decide ((k : Int) < 4) = true from h)
        omega
      have w := sup_Sector x k
      have herr := sector_err (x := x) hk
      have eL : (List.range (k + 1)).map x.put = L ++ [⟨(k : Int), (x.sector k).1⟩] := by rw [List.range_succ, List.map_append, hL]; rfl
      generalize x.sector (k : Int) = Y at w herr eL
      obtain ⟨t, f⟩ := Y
      have w : AF Try.prog f_sup_Sector [x.av, i64 k] [] (Pure (.tup [bA t, i64 f]) []) := w
      have herr : f = match x.may with | true => 0 | false => 1 := herr
      have eL : (List.range (k + 1)).map x.put = L ++ [⟨(k : Int), t⟩] := eL
      refine aw_skip ?_
      refine aw_cut ⟨⟨31, [(0, .ref 0 0), (3, .p (.box x.pv)), (5, .msl 3 2 0 (px (L ++ [⟨(k : Int), t⟩])).length), (9, i64 k)]⟩, devH D ++ [.row t_api_Put 2 (px (L ++ [⟨(k : Int), t⟩]))]⟩ (x.may = true) (aw_block (aw_seq (aw_region hT ?_))) ?_
      · refine aw_seq (aw_region hT ?_)
        refine callP (af_at w _ rfl rfl) ?_
        refine aw_cut ⟨⟨31, [(0, .ref 0 0), (3, .p (.box x.pv)), (5, .msl 3 2 0 (px L).length), (6, i64 k), (7, bA t), (9, i64 k)]⟩, devH D ++ [.row t_api_Put 2 (px L)]⟩ (x.may = true) (aw_seq (aw_region hT ?_)) ?_
        · refine aw_cond (boolI (fun h => ?_) (fun h => ?_))
          · have h : (f != 0) = true := h
            have hz : (f, D) = D.install x := by
              unfold Dev.install
              cases hmay : x.may with
              | true => rw [hmay] at herr; rw [herr] at h; exact absurd h (by decide)
              | false => rw [hmay] at herr; rw [herr]
            refine aw_seq (aw_region hT ?_)
            refine aw_ret ?_
            exact retPick [0, 1, 2] ⟨_, hz, rfl, rfl⟩ rfl
          · have h : (f != 0) = false := h
            have hmay : x.may = true := by
              cases hmay : x.may with
              | true => rfl
              | false => rw [hmay] at herr; rw [herr] at h; exact absurd h (by decide)
            exact aw_skip ⟨wk_pick [0, 1, 2, 3] [0, 3, 5, 6, 7, 9] rfl, hmay⟩
        intro hmay
        refine aw_regionF (fun k => Nat.beq 4 k) hT ?_
        refine ⟨⟨rfl, rfl⟩, ?_⟩
        refine ⟨rfl, ⟨?_, ?_⟩, ?_⟩
        · show ((px L).length + 1) * 32 ≤ 140737488355328
          omega
        · show (px L).length + 1 ≤ 140737488355328
          omega
        rw [px_snoc]
        exact ⟨wk_pick [0, 1, 2, 4] [0, 3, 5, 9] rfl, hmay⟩
      · intro hmay
        refine aw_region hT ?_
        refine ⟨n - 1, by omega, _, wk_pick [0, 1, 2, 3] [0, 3, 5, 9] rfl, k + 1, IntKind.i64.wrap ((k : Int) + 1), L ++ [⟨(k : Int), t⟩], by omega, ?_, eL.symm, fun _ => hmay, rfl⟩
        rw [wrap64 _ (by omega) (by omega)]; rfl
    · have hk : ¬ (k : Int) < 4 := of_decide_eq_false h
      have hk4 : k = 4 := by omega
      have hL4 : L = x.puts := by rw [hL, hk4]; rfl
      refine aw_exit ?_
      exact ⟨Wk.trans (wk_frzN 5 3 2 _ (by rw [hL4]) rfl rfl rfl) (wk_pick [0, 1, 2] [0, 5] rfl), hm (by omega)⟩
  intro hmay
  have hz : D.install x = D.all9 x.puts := by unfold Dev.install; rw [hmay]
  have w := keep_All D x.puts b hD (by show b + 4 * 4 < _; omega)
  rw [← hz] at w
  generalize D.install x = Z at w
  refine aw_seq (aw_region hT ?_)
  refine callP (af_in [0, 1, 2] w rfl rfl rfl) ?_
  refine aw_ret ?_

  exact retPick [0, 3, 4] ⟨_, rfl, rfl, rfl⟩ rfl
end Go.Proofs.Ytmdponffajapjaa.AL

/- The layer 10: the last one is read. -/
namespace Go.Proofs.Ytmdponffajapjaa.AL
open Go Go.Proofs

def rd4 (D : Dev) : Nat → List Bytes × Dev
  | 0 => ([], D)
  | k + 1 => ((rd4 D k).1 ++ [((rd4 D k).2.read k).1.1], ((rd4 D k).2.read k).2)
def Dev.supRead (D : Dev) : (Sup × Int) × Dev := match D.dead with
  | true => ((Sup.zero, 21), D)
  | false => match (pickB (rd4 D 4).1).2 with
    | false => ((Sup.zero, 22), (rd4 D 4).2)
    | true => (((pickB (rd4 D 4).1).1, 0), (rd4 D 4).2)
theorem rd4_ok {D : Dev} {b : Nat} (h : D.Ok b) : ∀ k, (rd4 D k).2.Ok b
  | 0 => h
  | k + 1 => (rd4_ok h k).read k
theorem rd4_len (D : Dev) : ∀ k, (rd4 D k).1.length = k
  | 0 => rfl
  | k + 1 => by show ((rd4 D k).1 ++ [_]).length = _; rw [List.length_append, rd4_len D k]; rfl
theorem lastW_mem {hit : Wr → Bool} : ∀ {l : List Wr} {x : Wr}, lastW hit l = some x → x ∈ l
  | [], x, h => by simp [lastW] at h
  | y :: r, x, h => by
    unfold lastW at h
    cases h1 : lastW hit r with
    | some z => rw [h1] at h; obtain rfl := Option.some.inj h; exact List.mem_cons_of_mem _ (lastW_mem h1)
    | none =>
      rw [h1] at h
      cases h2 : hit y with
      | true => rw [h2] at h; obtain rfl := Option.some.inj h; exact List.mem_cons_self ..
      | false => rw [h2] at h; simp at h
theorem read_len4 {D : Dev} {b : Nat} (h : D.Ok b) (a : Int) : (D.read a).1.1.length ≤ 256 := by
  unfold Dev.read
  split
  · exact Nat.zero_le _
  · split
    · exact Nat.zero_le _
    · show (D.readAt a).2.length ≤ _
      unfold Dev.readAt
      split
      · rename_i x hx
        exact Nat.le_of_eq (h.ws x (lastW_mem hx))
      · split
        · rename_i c hc
          split
          · exact Nat.zero_le _
          · exact Nat.le_of_eq (h.cs c (List.mem_of_getElem? hc))
        · exact Nat.zero_le _
theorem rd4_bytes {D : Dev} {b : Nat} (h : D.Ok b) : ∀ k, ∀ s ∈ (rd4 D k).1, s.length ≤ 256
  | 0, s, hs => by simp [rd4] at hs
  | k + 1, s, hs => by
    have hs : s ∈ (rd4 D k).1 ++ [((rd4 D k).2.read k).1.1] := hs
    rw [List.mem_append, List.mem_singleton] at hs
    rcases hs with hs | rfl
    · exact rd4_bytes h k s hs
    · exact read_len4 (rd4_ok h k) _
abbrev nilE : List PV := [.raw (.slice none 0 0)]
theorem catX_snoc (l : List Bytes) (s : Bytes) : catX (l ++ [s]) = catX l ++ [[bP s]] := by simp [catX]

set_option maxRecDepth 20000 in
theorem sup_Read (D : Dev) (b : Nat) (hD : D.Ok b) (hb : b ≤ 1000000) : AFm Try.prog 3 f_sup_Read [.ref 0 0] (devH D) (Pure (.tup [D.supRead.1.1.av, i64 D.supRead.1.2]) (devH D.supRead.2)) := by
  refine AFm.mono (R := fun r H' => ∃ z : (Sup × Int) × Dev, z = D.supRead ∧ r = .tup [z.1.1.av, i64 z.1.2] ∧ H' = devH z.2) ?_ (by rintro r H' ⟨b, rfl, rfl, rfl⟩; exact ⟨rfl, rfl⟩)
  refine af_bodyM 3 hT F_sup_Read rfl rfl N_sup_Read rfl rfl ?_
  refine aw_seq (aw_region hT ?_)
  refine aw_cut ⟨⟨36, [(0, .ref 0 0), (2, .ref 3 0)]⟩, devH D ++ [.cells t_api_Super Sup.zero.cv]⟩ (D.dead = false) (aw_seq (aw_region hT ?_)) ?_
  · refine callP (af_in [0, 1, 2] (disk_Dead D) rfl rfl rfl) ?_
    refine aw_cond (boolI (fun h => ?_) (fun h => ?_))
    · have h : D.dead = true := h
      have hz : ((Sup.zero, 21), D) = D.supRead := by unfold Dev.supRead; rw [h]
      refine aw_seq (aw_region hT ?_)
      refine aw_ret ?_
      exact retPick [0, 1, 2] ⟨_, hz, rfl, rfl⟩ rfl
    · exact aw_skip ⟨wk_pick [0, 1, 2, 3] [0, 2] rfl, h⟩
  intro hdead
  have hz : D.supRead = match (pickB (rd4 D 4).1).2 with
    | false => ((Sup.zero, 22), (rd4 D 4).2)
    | true => (((pickB (rd4 D 4).1).1, 0), (rd4 D 4).2) := by unfold Dev.supRead; rw [hdead]
  refine aw_cut ⟨⟨36, [(0, .ref 0 0), (2, .ref 3 0), (4, .msl 4 1 0 4)]⟩, devH D ++ [.cells t_api_Super Sup.zero.cv, .row t_s_u8 1 (List.replicate 4 nilE)]⟩ True (aw_region hT ?_) (fun _ => ?_)
  · refine ⟨⟨rfl, by decide, by decide, by decide⟩, ?_⟩
    exact ⟨wk_pick [0, 1, 2, 3, 4] [0, 2, 4] rfl, trivial⟩
  refine aw_cut ⟨⟨36, [(0, .ref 0 0), (2, .ref 3 0), (4, .p (.sl 1 (catX (rd4 D 4).1)))]⟩, devH (rd4 D 4).2 ++ [.cells t_api_Super Sup.zero.cv]⟩ True (aw_seq (aw_region hT ?_)) (fun _ => ?_)
  · refine aw_block ?_
    refine aw_loopW (fun n s => ∃ (k : Nat) (j : Int) (X : List (List PV)) (E : Dev), n + k = 4 ∧ j = k ∧ X = catX (rd4 D k).1 ++ List.replicate (4 - k) nilE ∧ E = (rd4 D k).2 ∧ s = ⟨⟨36, [(0, .ref 0 0), (2, .ref 3 0), (4, .msl 4 1 0 4), (13, i64 4), (14, i64 j)]⟩, devH E ++ [.cells t_api_Super Sup.zero.cv, .row t_s_u8 1 X]⟩) 4 ⟨⟨36, _⟩, _⟩ (wk_pick [0, 1, 2, 3, 4] [0, 2, 4, 13, 14] rfl) ⟨0, 0, _, D, rfl, rfl, rfl, rfl, rfl⟩ ?_
    rintro n s ⟨k, j, X, E, hnk, rfl, hX, hE, rfl⟩
    refine aw_seq (aw_region hT ?_)
    refine aw_seq (aw_cond (boolI (fun h => ?_) (fun h => ?_)))
    · have hk : k < 4 := by
        have := of_decide_eq_true (show decide ((k : Int) < 4) = true from h)
        omega
      have hEo : E.Ok b := by rw [hE]; exact rd4_ok hD k
      have w := disk_Read E k (by have := hEo.wl; omega) (fun x hx => by have := hEo.ws x hx; omega) (fun c hc => by have := hEo.cs c hc; omega)
      have e1 : catX (rd4 D (k + 1)).1 = catX (rd4 D k).1 ++ [[bP (E.read k).1.1]] := by rw [hE, ← catX_snoc]; rfl
      have e2 : (rd4 D (k + 1)).2 = (E.read k).2 := by rw [hE]; rfl
      generalize E.read (k : Int) = Y at w e1 e2
      obtain ⟨⟨t, f⟩, F⟩ := Y
      have w : AFm Try.prog 3 f_disk_Disk_Read [.ref 0 0, i64 k] (devH E) (Pure (.tup [bA t, i64 f]) (devH F)) := w
      have e1 : catX (rd4 D (k + 1)).1 = catX (rd4 D k).1 ++ [[bP t]] := e1
      have e2 : (rd4 D (k + 1)).2 = F := e2
      have hcl : (catX (rd4 D k).1).length = k := by rw [catX_len, rd4_len]
      have hget : X[0 + ((k : Nat) : Int).toNat]? = some nilE := by
        rw [Nat.zero_add, Int.toNat_natCast, hX, List.getElem?_append_right (by omega), hcl, Nat.sub_self, show 4 - k = (4 - k - 1) + 1 by omega]; rfl
      have hset : X.set (0 + ((k : Nat) : Int).toNat) [bP t] = catX (rd4 D (k + 1)).1 ++ List.replicate (4 - (k + 1)) nilE := by
        rw [Nat.zero_add, Int.toNat_natCast, hX, List.set_append, if_neg (by omega), hcl, Nat.sub_self, e1, List.append_assoc]
        rw [show 4 - k = (4 - (k + 1)) + 1 by omega]; rfl
      refine aw_skip ?_
      refine aw_cut ⟨⟨36, [(0, .ref 0 0), (2, .ref 3 0), (4, .msl 4 1 0 4), (13, i64 4), (14, i64 k)]⟩, devH F ++ [.cells t_api_Super Sup.zero.cv, .row t_s_u8 1 (X.set (0 + ((k : Nat) : Int).toNat) [bP t])]⟩ True (aw_block (aw_seq (aw_region hT ?_))) (fun _ => ?_)
      · refine aw_region hT ?_
        refine callP (af_in [0, 1, 2] w rfl rfl rfl) ?_
        refine ⟨⟨Int.natCast_nonneg _, by omega⟩, ?_⟩
        refine optI hget ?_
        exact ⟨wk_pick [0, 1, 2, 3, 4] [0, 2, 4, 13, 14] rfl, trivial⟩
      · refine aw_region hT ?_
        refine ⟨n - 1, by omega, _, wk_pick [0, 1, 2, 3, 4] [0, 2, 4, 13, 14] rfl, k + 1, IntKind.i64.wrap ((k : Int) + 1), X.set (0 + ((k : Nat) : Int).toNat) [bP t], F, by omega, ?_, hset, e2.symm, rfl⟩
        rw [wrap64 _ (by omega) (by omega)]; rfl
    · have hk : ¬ (k : Int) < 4 := of_decide_eq_false h
      have hk4 : k = 4 := by omega
      rw [hk4] at hX hE
      have hX : X = catX (rd4 D 4).1 := by rw [hX]; simp
      have hXl : X.length = 4 := by rw [hX, catX_len, rd4_len]
      rw [← hE]
      refine aw_exit ?_
      exact ⟨Wk.trans (wk_frzN 4 4 1 4 hX hXl.symm rfl rfl) (wk_pick [0, 1, 2, 3] [0, 2, 4] rfl), trivial⟩
  have wP := sup_Pick (rd4 D 4).1 (by rw [rd4_len]; omega) (fun s hs => by have := rd4_bytes hD 4 s hs; omega)
  generalize pickB (rd4 D 4).1 = Y at wP hz
  generalize (rd4 D 4).2 = E at hz
  obtain ⟨x, g⟩ := Y
  have wP : AF Try.prog f_sup_Pick [.p (.sl 1 (catX (rd4 D 4).1))] [] (Pure (.tup [x.av, bl g]) []) := wP
  generalize catX (rd4 D 4).1 = C at wP
  have hz : D.supRead = match (generalizing := false) g with | false => ((Sup.zero, 22), E) | true => ((x, 0), E) := hz
  refine aw_cut ⟨⟨36, [(2, .ref 3 0), (6, .ref 4 0), (7, bl g)]⟩, devH E ++ [.cells t_api_Super Sup.zero.cv, supC x]⟩ True (aw_region hT ?_) (fun _ => ?_)
  · refine callP (af_at wP _ rfl rfl) ?_
    exact ⟨wk_pick [0, 1, 2, 3, 4] [2, 6, 7] rfl, trivial⟩
  refine aw_seq (aw_seq (aw_region hT ?_))
  refine aw_cond (boolI (fun h => ?_) (fun h => ?_))
  · have h : (!g) = true := h
    have hg : g = false := (Bool.not_eq_true' _).mp h
    rw [hg] at hz
    refine aw_seq (aw_region hT ?_)
    refine aw_ret ?_
    exact retPick [0, 1, 2] ⟨_, hz.symm, rfl, rfl⟩ rfl
  · have h : (!g) = false := h
    have hg : g = true := (Bool.not_eq_false' _).mp h
    rw [hg] at hz
    refine aw_skip ?_
    refine aw_seq (aw_region hT ?_)
    refine aw_ret ?_
    exact retPick [0, 1, 2] ⟨_, hz.symm, rfl, rfl⟩ rfl
end Go.Proofs.Ytmdponffajapjaa.AL

/- Devices of which no write goes wrong, of any length (plain). -/
namespace Go.Proofs.Ytmdponffajapjaa.AL
open Go Go.Proofs

structure CleanP (D : Dev) (N b : Nat) : Prop where
  ok : D.Ok b
  dead : D.dead = false
  armed : D.armed = false
  waits : D.waits = []
  len : D.cells.length = N
  well : ∀ c ∈ D.cells, c.drop = 0 ∧ c.miss = []
theorem cleanP_new (n b : Nat) : CleanP (Dev.new n) n b := ⟨ok_new n b, rfl, rfl, rfl, List.length_replicate, fun c hc => by rw [List.eq_of_mem_replicate hc]; exact ⟨rfl, rfl⟩⟩
theorem hasP {D : Dev} {N k : Nat} (h : D.cells.length = N) (hk : k < N) : D.has (k : Int) = true := by
  unfold Dev.has; rw [h, decide_eq_true (show (k : Int) ≥ 0 by omega), decide_eq_true (show (k : Int) < (N : Int) by omega)]; rfl
theorem livesP {E : Dev} (h1 : E.dead = false) (h2 : E.armed = false) : E.lives.dead = false := by
  show (E.dead || (E.armed && E.left == 0)) = false
  rw [h1, h2]; rfl
theorem hhasP {E : Dev} {a : Int} {s : Bytes} (hd : E.dead = false) (hw : E.waits = []) (hh : E.has a = true) {c : Cell} (hc : E.cells[a.toNat]? = some c) : E.hhas a s = ((!c.lost && (c.s == s), 0), E.count) := by
  have hr : E.readAt a = match c.lost with | true => (20, []) | false => (0, c.s) := by
    unfold Dev.readAt; rw [hw]; show (match E.cells[a.toNat]? with | some c => _ | none => _) = _; rw [hc]; rfl
  have e : E.read a = (((E.readAt a).2, (E.readAt a).1), E.count) := by unfold Dev.read; rw [hd, hh]
  unfold Dev.hhas
  rw [e, hr]
  cases c.lost with
  | true => rfl
  | false => rfl

theorem cleanP_once {D : Dev} {N b : Nat} (h : CleanP D N b) {k : Nat} (hk : k < N) {s : Bytes} (hs : s.length = 256) :
    ∃ E, D.once k s = ((true, 0), E) ∧ CleanP E N (b + 1) ∧ E.cells = D.cells.set k ⟨s, false, 0, []⟩ := by
  obtain ⟨c, hc⟩ : ∃ c, D.cells[k]? = some c := ⟨_, List.getElem?_eq_getElem (by rw [h.len]; omega)⟩
  have hlt := (List.getElem?_eq_some_iff.1 hc).1
  obtain ⟨cd, cm⟩ := h.well c (List.mem_of_getElem? hc)
  have hh : D.has k = true := hasP h.len hk
  have hl : D.lives.dead = false := livesP h.dead h.armed
  have ok := (h.ok.write k s).flush
  have hput : D.lives.count.put k s = { D.lives.count with waits := [⟨k, s⟩] } := by
    unfold Dev.put
    rw [Int.toNat_natCast, show D.lives.count.cells[k]? = some c from hc]
    simp only
    rw [cd, cm]
    show { D.lives.count with waits := D.waits ++ [(⟨k, s⟩ : Wr)] } = _
    rw [h.waits]; rfl
  have e : D.write k s = (0, { D.lives.count with waits := [⟨k, s⟩] }) := by
    rw [← hput]
    unfold Dev.write
    rw [h.dead, hh, show ((s.length : Int) != 256) = false by rw [hs]; rfl, hl]
  have hl2 : Dev.dead (Dev.lives { D.lives.count with waits := [⟨k, s⟩] }) = false := livesP hl h.armed
  have ef : Dev.flush { D.lives.count with waits := [⟨k, s⟩] } = (0, (Dev.lives { D.lives.count with waits := [⟨k, s⟩] }).drain [true]) := by
    unfold Dev.flush
    rw [show Dev.dead { D.lives.count with waits := [⟨k, s⟩] } = false from hl, hl2]
  rw [e] at ok
  simp only at ok
  rw [ef] at ok
  have hcells : ((Dev.lives { D.lives.count with waits := [⟨k, s⟩] }).drain [true]).cells = D.cells.set k ⟨s, false, 0, []⟩ := by
    show doneL D.cells ⟨k, s⟩ = _
    rw [doneL_some (x := ⟨k, s⟩) (show D.cells[((k : Nat) : Int).toNat]? = some c by rw [Int.toNat_natCast]; exact hc)]
    show D.cells.set ((k : Nat) : Int).toNat { c with s := s, lost := false } = _
    rw [Int.toNat_natCast, cd, cm]
  have hwell : ∀ c ∈ D.cells.set k ⟨s, false, 0, []⟩, c.drop = 0 ∧ c.miss = [] := fun x hx => by
    rcases List.mem_or_eq_of_mem_set hx with hx | rfl
    · exact h.well x hx
    · exact ⟨rfl, rfl⟩
  have cE : CleanP ((Dev.lives { D.lives.count with waits := [⟨k, s⟩] }).drain [true]) N (b + 1) := ⟨ok, hl2, h.armed, rfl, by rw [hcells, List.length_set]; exact h.len, by rw [hcells]; exact hwell⟩
  have eo : D.once k s = ((Dev.lives { D.lives.count with waits := [⟨k, s⟩] }).drain [true]).hhas k s := by
    unfold Dev.once; rw [e]; simp only; rw [ef]; rfl
  generalize (Dev.lives { D.lives.count with waits := [⟨k, s⟩] }).drain [true] = E at cE hcells eo
  have hce : E.cells[((k : Nat) : Int).toNat]? = some ⟨s, false, 0, []⟩ := by rw [hcells, Int.toNat_natCast]; exact List.getElem?_set_self hlt
  refine ⟨E.count, ?_, ⟨cE.ok.count, cE.dead, cE.armed, cE.waits, cE.len, cE.well⟩, hcells⟩
  rw [eo, hhasP cE.dead cE.waits (hasP cE.len hk) hce]
  simp

theorem cleanP_one {D : Dev} {N b : Nat} (h : CleanP D N b) {k : Nat} (hk : k < N) {s : Bytes} (hs : s.length = 256) :
    ∃ E, D.one k s = (0, E) ∧ CleanP E N (b + 1) ∧ E.cells = D.cells.set k ⟨s, false, 0, []⟩ := by
  obtain ⟨E, h1, h2, h3⟩ := cleanP_once h hk hs
  refine ⟨E, ?_, h2, h3⟩
  show Dev.tryK 4 D k s = _
  unfold Dev.tryK
  rw [h1]; rfl

end Go.Proofs.Ytmdponffajapjaa.AL

/- The layer 10, plain: what is installed, lost, and read on a device of which no write goes wrong. -/
namespace Go.Proofs.Ytmdponffajapjaa.AL
open Go Go.Proofs

abbrev loseF (k : Int) : Flt := ⟨3, k, 0, 0, 0, 0, 0, 0, 0⟩
theorem loseP {D : Dev} {N b k : Nat} (h : CleanP D N b) (hk : k < N) :
    ∃ E, D.fault (loseF k) = (0, E) ∧ CleanP E N (b + 1) ∧ E.cells = D.cells.modify k fun c => { c with lost := true } := by
  have hok := h.ok.fault (loseF k)
  have hm : D.may (loseF k) = 0 := by
    unfold Dev.may
    rw [show D.has (loseF k).at_ = true from hasP h.len hk]
    rfl
  have hs : D.settle (k : Int) = D := by
    unfold Dev.settle; rw [h.waits]
    obtain ⟨c, w, ar, de, le, op⟩ := D
    have hw : w = [] := h.waits
    subst hw; rfl
  have e : D.fault (loseF k) = (0, D.upd k fun c => { c with lost := true }) := by
    unfold Dev.fault; rw [hm]
    show (0, D.hurt (loseF k)) = _
    unfold Dev.hurt
    rw [if_neg (show ¬ (3 : Int) = 1 by decide), if_neg (show ¬ (3 : Int) = 2 by decide), if_pos rfl]
    show (0, (D.settle (k : Int)).upd (k : Int) _) = _
    rw [hs]
  rw [e] at hok
  refine ⟨_, e, ⟨hok, h.dead, h.armed, h.waits, (List.length_modify ..).trans h.len, ?_⟩, by unfold Dev.upd; rw [Int.toNat_natCast]⟩
  intro c hc
  have hc : c ∈ D.cells.modify (k : Int).toNat fun c => { c with lost := true } := hc
  obtain ⟨i, hi⟩ := List.getElem?_of_mem hc
  rw [List.getElem?_modify] at hi
  cases hx : D.cells[i]? with
  | none => rw [hx] at hi; simp at hi
  | some c0 =>
    rw [hx] at hi
    have h0 := h.well c0 (List.mem_of_getElem? hx)
    simp only [Int.toNat_natCast] at hi
    by_cases e : k = i
    · simp [e] at hi; subst hi; exact h0
    · simp [e] at hi; subst hi; exact h0

def cellB (D : Dev) (k : Nat) : Bytes := match D.cells[k]? with
  | some c => match c.lost with | true => [] | false => c.s
  | none => []
theorem readP {D : Dev} {N b k : Nat} (h : CleanP D N b) (hk : k < N) : (D.read k).1.1 = cellB D k ∧ (D.read k).2 = D.count ∧ CleanP D.count N b := by
  have e : D.read k = (((D.readAt k).2, (D.readAt k).1), D.count) := by unfold Dev.read; rw [h.dead, hasP h.len hk]
  refine ⟨?_, by rw [e], ⟨h.ok.count, h.dead, h.armed, h.waits, h.len, h.well⟩⟩
  rw [e]
  show (D.readAt k).2 = _
  unfold Dev.readAt cellB
  rw [h.waits, Int.toNat_natCast]
  show (match D.cells[k]? with | some c => (match c.lost with | true => ((20, []) : Int × Bytes) | false => (0, c.s)) | none => (20, [])).2 = _
  cases D.cells[k]? with
  | none => rfl
  | some c => cases hl : c.lost <;> simp [hl]
theorem rd4P {D : Dev} {N b : Nat} (h : CleanP D N b) : ∀ k, k ≤ N → (rd4 D k).1 = (List.range k).map (cellB D) ∧ CleanP (rd4 D k).2 N b ∧ (rd4 D k).2.cells = D.cells
  | 0, _ => ⟨rfl, h, rfl⟩
  | k + 1, hk => by
    obtain ⟨h1, h2, h3⟩ := rd4P h k (by omega)
    obtain ⟨r1, r2, r3⟩ := readP h2 (show k < N by omega)
    refine ⟨?_, ?_, ?_⟩
    · show (rd4 D k).1 ++ [((rd4 D k).2.read k).1.1] = _
      rw [h1, r1, List.range_succ, List.map_append]
      unfold cellB
      rw [h3]; rfl
    · show CleanP ((rd4 D k).2.read k).2 N b
      rw [r2]; exact r3
    · show ((rd4 D k).2.read k).2.cells = _
      rw [r2]; exact h3

theorem pkP {l : List Bytes} {x : Sup} {g : Nat → Bool} (hx : 1 ≤ x.gen) : ∀ k : Nat, (∀ j : Nat, j < k → ∃ s, l[j]? = some s ∧ toldB s j = match g j with | true => (x, true) | false => (Sup.zero, false)) → pk l k = match (List.range k).any g with | true => x | false => Sup.zero
  | 0, _ => rfl
  | k + 1, h => by
    have ih := pkP hx k fun j hj => h j (by omega)
    obtain ⟨s, h1, h2⟩ := h k (by omega)
    rw [pk_step h1, h2, ih, List.range_succ, List.any_append]
    have z : Sup.zero.gen = 0 := rfl
    have hz : Sup.zero.gen < x.gen := by omega
    cases hg : g k <;> cases ha : (List.range k).any g <;> simp [hg, hz]

theorem supReadP {D : Dev} {N b : Nat} (h : CleanP D N b) (hN : 4 ≤ N) {x : Sup} {g : Nat → Bool} (hx : 1 ≤ x.gen) (hg : ∀ k, k < 4 → toldB (cellB D k) k = match g k with | true => (x, true) | false => (Sup.zero, false)) :
    D.supRead.1 = match (List.range 4).any g with | true => (x, 0) | false => (Sup.zero, 22) := by
  obtain ⟨h1, h2, h3⟩ := rd4P h 4 hN
  have e := pkP (l := (rd4 D 4).1) hx 4 fun j hj => ⟨cellB D j, by rw [h1, List.getElem?_map, List.getElem?_range hj]; rfl, hg j hj⟩
  have hp : pickB (rd4 D 4).1 = match (List.range 4).any g with | true => (x, true) | false => (Sup.zero, false) := by
    unfold pickB
    rw [rd4_len, Nat.min_self, e]
    cases (List.range 4).any g with
    | true => show (x, decide (x.gen > 0)) = _; rw [decide_eq_true (show x.gen > 0 by omega)]
    | false => rfl
  unfold Dev.supRead
  rw [h.dead, hp]
  cases (List.range 4).any g <;> rfl

theorem told_nil (i : Int) : toldB [] i = (Sup.zero, false) := rfl
theorem told_zeros (n : Nat) (i : Int) : toldB (List.replicate n 0) i = (Sup.zero, false) := by
  have hk : (blkOf (List.replicate n 0)).sld.2 = 1 := by
    have : (blkOf (List.replicate n 0)).kind = 0 := by
      show (((List.replicate n (0 : UInt8)).getD 2 0).toNat : Int) = 0
      rw [List.getD_eq_getElem?_getD, List.getElem?_replicate]
      split <;> rfl
    have hn : (blkOf (List.replicate n 0)).nums = false := by unfold Blk.nums; rw [this]; rfl
    unfold Blk.sld; rw [hn]
  have h : ((openB (List.replicate n 0)).2 != 0) = true := by
    unfold openB
    split
    · rfl
    · split
      · rfl
      · rw [hk]; rfl
  unfold toldB; rw [h]
end Go.Proofs.Ytmdponffajapjaa.AL

/- The layer 10, plain: what was installed is read, as long as one copy is left. -/
namespace Go.Proofs.Ytmdponffajapjaa.AL
open Go Go.Proofs

theorem sector_len {x : Sup} (h : x.may = true) {k : Nat} (hk : k < 4) : (x.sector k).1.length = 256 := by
  rw [(sector_ok h (show (0 : Int) ≤ (k : Int) by omega) (by omega)).1]
  show (sealB _).length = 256
  rw [sealB_len, all_len _ (may_blk h (show (0 : Int) ≤ (k : Int) by omega) (by omega)).2]
theorem eachP {x : Sup} (hm : x.may = true) {N : Nat} (hN : 4 ≤ N) : ∀ (ks : List Nat) {D : Dev} {b : Nat} (m : Int), (∀ k ∈ ks, k < 4) → CleanP D N b →
    ∃ E m', eachK oneG (ks.map x.put) D m = (0, (E, m')) ∧ CleanP E N (b + ks.length) ∧ ∀ j, E.cells[j]? = if j ∈ ks then some ⟨(x.sector j).1, false, 0, []⟩ else D.cells[j]?
  | [], D, b, m, _, h => ⟨D, m, rfl, h, fun j => by simp⟩
  | k :: r, D, b, m, hks, h => by
    have hk := hks k (by simp)
    obtain ⟨E, h1, h2, h3⟩ := cleanP_one h (show k < N by omega) (sector_len hm hk)
    obtain ⟨F, m', g1, g2, g3⟩ := eachP hm hN r (more 0 m) (fun j hj => hks j (by simp [hj])) h2
    have eg : oneG D m (x.put k).at_ (x.put k).s = (0, (E, more 0 m)) := by
      unfold oneG
      show ((D.one k (x.sector k).1).1, ((D.one k (x.sector k).1).2, more (D.one k (x.sector k).1).1 m)) = _
      rw [h1]
    refine ⟨F, m', ?_, by rw [List.length_cons, show b + (r.length + 1) = b + 1 + r.length by omega]; exact g2, fun j => ?_⟩
    · rw [List.map_cons, eachK_cons, eg]
      exact g1
    · rw [g3 j, h3, List.getElem?_set]
      by_cases hj : j ∈ r
      · simp [hj]
      · rw [if_neg hj]
        by_cases e : k = j
        · subst e; simp [h.len, show k < N by omega]
        · rw [if_neg e]; simp [hj, show ¬ j = k from fun e2 => e e2.symm]
theorem installP {x : Sup} (hm : x.may = true) {D : Dev} {N b : Nat} (h : CleanP D N b) (hN : 4 ≤ N) :
    ∃ E, D.install x = (0, E) ∧ CleanP E N (b + 4) ∧ ∀ k, k < 4 → E.cells[k]? = some ⟨(x.sector k).1, false, 0, []⟩ := by
  obtain ⟨E, m', h1, h2, h3⟩ := eachP hm hN (List.range 4) 0 (fun k hk => by simpa using hk) h
  refine ⟨E, ?_, h2, fun k hk => ?_⟩
  · unfold Dev.install Dev.all9 Sup.puts
    rw [hm, h1]
  · rw [h3 k, if_pos (by simpa using hk)]

def loses (D : Dev) (lost : Nat → Bool) : Nat → Dev
  | 0 => D
  | k + 1 => match lost k with
    | true => ((loses D lost k).fault (loseF k)).2
    | false => loses D lost k
theorem losesP {D : Dev} {N b : Nat} (h : CleanP D N b) (lost : Nat → Bool) : ∀ k, k ≤ N → CleanP (loses D lost k) N (b + k) ∧ ∀ j, (loses D lost k).cells[j]? = if j < k ∧ lost j = true then (D.cells[j]?).map (fun c => { c with lost := true }) else D.cells[j]?
  | 0, _ => ⟨h, fun j => by simp [loses]⟩
  | k + 1, hk => by
    obtain ⟨h1, h2⟩ := losesP h lost k (by omega)
    cases hl : lost k with
    | false =>
      have e : loses D lost (k + 1) = loses D lost k := by rw [loses, hl]
      rw [e]
      refine ⟨⟨h1.ok.mono (by omega), h1.dead, h1.armed, h1.waits, h1.len, h1.well⟩, fun j => ?_⟩
      rw [h2 j]
      by_cases ej : j = k
      · subst ej; simp [hl]
      · have : (j < k + 1 ∧ lost j = true) ↔ (j < k ∧ lost j = true) := by constructor <;> rintro ⟨a, b⟩ <;> exact ⟨by omega, b⟩
        simp only [this]
    | true =>
      obtain ⟨E, e1, e2, e3⟩ := loseP h1 (show k < N by omega)
      have e : loses D lost (k + 1) = E := by rw [loses, hl]; show ((loses D lost k).fault (loseF k)).2 = E; rw [e1]
      rw [e]
      refine ⟨e2, fun j => ?_⟩
      rw [e3, List.getElem?_modify, h2 j]
      by_cases ej : k = j
      · subst ej
        rw [if_neg (by omega), if_pos ⟨by omega, hl⟩]
        cases D.cells[k]? <;> simp
      · have : (j < k + 1 ∧ lost j = true) ↔ (j < k ∧ lost j = true) := by constructor <;> rintro ⟨a, b⟩ <;> exact ⟨by omega, b⟩
        simp only [this, ej, if_false]
        split <;> simp

theorem leftP {x : Sup} (hm : x.may = true) {E : Dev} {N b : Nat} (h : CleanP E N b) (hN : 4 ≤ N) (hc : ∀ k, k < 4 → E.cells[k]? = some ⟨(x.sector k).1, false, 0, []⟩) (lost : Nat → Bool) {n : Nat} (hn : n ≤ 4) :
    CleanP (loses E lost n) N (b + n) ∧ (loses E lost n).supRead.1 = match (List.range 4).any (fun k => !(decide (k < n) && lost k)) with | true => (x, 0) | false => (Sup.zero, 22) := by
  obtain ⟨h1, h2⟩ := losesP h lost n (by omega)
  have hx : 1 ≤ x.gen := by
    unfold Sup.may at hm
    simp only [Bool.and_eq_true, decide_eq_true_eq] at hm
    exact hm.1.1.1.1.1.2
  refine ⟨h1, supReadP h1 hN hx fun k hk => ?_⟩
  have e : cellB (loses E lost n) k = match decide (k < n) && lost k with | true => [] | false => (x.sector k).1 := by
    unfold cellB
    rw [h2 k, hc k hk]
    cases hd : decide (k < n) with
    | false =>
      have := of_decide_eq_false hd
      rw [if_neg (fun h => this h.1)]; rfl
    | true =>
      have hd := of_decide_eq_true hd
      cases hl : lost k with
      | false => rw [if_neg (fun h => by simp at h)]; rfl
      | true => rw [if_pos ⟨hd, rfl⟩]; rfl
  rw [e]
  cases decide (k < n) && lost k with
  | true => exact told_nil _
  | false => exact told_sector hm (by omega) (by omega)

theorem newP {N : Nat} (hN : 4 ≤ N) : (Dev.new N).supRead.1 = (Sup.zero, 22) := by
  have h := supReadP (cleanP_new N 0) hN (x := ⟨0, 1, 0, 0, 0, 0, 0, 0, ⟨0, 0, 0, 0⟩⟩) (g := fun _ => false) (Int.le_refl _) fun k hk => by
    have e : cellB (Dev.new N) k = zeros := by
      unfold cellB
      show (match (List.replicate N cell1)[k]? with | some c => (match c.lost with | true => [] | false => c.s) | none => []) = _
      rw [List.getElem?_replicate, if_pos (by omega)]
    rw [e]
    exact told_zeros 256 k
  rw [h]
  rfl
end Go.Proofs.Ytmdponffajapjaa.AL

/- The abstract layer, part r: structs of plain fields are compared. -/
namespace Go.Proofs.Ytmdponffajapjaa.AL
open Go Go.RowKit

variable {P : Program}

def fitB (P : Program) (e : TypeId) (a b : Option Value) : Bool :=
  match P.underlying e, a, b with
  | some (.int _), some (.int k _), some (.int k' _) => k == k'
  | some .bool, some (.bool _), some (.bool _) => true
  | some .string, some (.string _), some (.string _) => true
  | _, _, _ => false

theorem fit_part {e : TypeId} {xs ys : Array Value} {off d : Nat} (w : World) (h : fitB P e xs[off]? ys[off]? = true) :
    ∃ a b r, (part e xs off).run P w = .ok a w ∧ (part e ys off).run P w = .ok b w ∧ (Op.equalIn (d + 1) e a b).run P w = .ok r w ∧ (r = true ↔ xs[off]? = ys[off]?) := by
  unfold fitB at h
  split at h
  · rename_i q k n k' n' hu ha hb
    obtain rfl : k = k' := eq_of_beq h
    exact ⟨.int k n, .int k n', n == n', by simp [part, isAgg, run_underlying hu, ha], by simp [part, isAgg, run_underlying hu, hb], run_equalIn_int w d e k q n n' hu, by rw [ha, hb]; simp⟩
  · rename_i a b hu ha hb
    exact ⟨.bool a, .bool b, a == b, by simp [part, isAgg, run_underlying hu, ha], by simp [part, isAgg, run_underlying hu, hb], run_equalIn_bool w d e a b hu, by rw [ha, hb]; simp⟩
  · rename_i a b hu ha hb
    refine ⟨.string a, .string b, a.toList == b.toList, by simp [part, isAgg, run_underlying hu, ha], by simp [part, isAgg, run_underlying hu, hb], run_equalIn_string w d e a b hu, ?_⟩
    rw [ha, hb]; simp [ByteArray.toList_eq]
    constructor
    · intro h; exact ByteArray.ext h
    · intro h; rw [h]
  · exact absurd h (by simp)

def fitsF (P : Program) (xs ys : Array Value) : List Field → Bool
  | [] => true
  | f :: fs => (f.name != "_") && fitB P f.type xs[f.offset]? ys[f.offset]? && fitsF P xs ys fs
def sameF (xs ys : Array Value) : List Field → Prop
  | [] => True
  | f :: fs => xs[f.offset]? = ys[f.offset]? ∧ sameF xs ys fs

theorem fits_fields {xs ys : Array Value} (w : World) (d : Nat) : ∀ fs : List Field, fitsF P xs ys fs = true → ∃ r, (Op.eqFields (d + 1) xs ys fs).run P w = .ok r w ∧ (r = true ↔ sameF xs ys fs)
  | [], _ => ⟨true, by simp [Op.eqFields], by simp [sameF]⟩
  | f :: fs, h => by
    simp only [fitsF, Bool.and_eq_true, bne_iff_ne, ne_eq] at h
    obtain ⟨⟨h1, h2⟩, h3⟩ := h
    obtain ⟨a, b, r, p1, p2, p3, hiff⟩ := fit_part (d := d) w h2
    obtain ⟨r', q1, q2⟩ := fits_fields w d fs h3
    simp only [Op.eqFields, h1, ne_eq, not_false_eq_true, if_true, Sem.run_bind, p1, p2, p3, Result.andThen_ok, sameF]
    cases r with
    | false => exact ⟨false, by simp, by simp; intro h; exact absurd (hiff.2 h) (by simp)⟩
    | true => exact ⟨r', by simpa using q1, by rw [q2]; simp [hiff.1 rfl]⟩

theorem bin_agg {t : TypeId} {xo yo : Operand} {vs vs' : Array Value} (hu : P.underlying t = some (.struct (P.fieldsOf t))) (hp : P.stoodInHeld t = false) (hg : P.eqGuardType P.depth t = false)
    (hf : fitsF P vs vs' (P.fieldsOf t).toList = true) :
    ∃ r : Bool, (∀ w, (binG .eql t xo yo (.agg vs) (.agg vs')).run P w = .ok (.bool r) w) ∧ (∀ w, (binG .neq t xo yo (.agg vs) (.agg vs')).run P w = .ok (.bool !r) w) ∧ (r = true ↔ sameF vs vs' (P.fieldsOf t).toList) := by
  have h : ∀ w, ∃ r : Bool, (Op.equal t (.agg vs) (.agg vs')).run P w = .ok r w ∧ (r = true ↔ sameF vs vs' (P.fieldsOf t).toList) := fun w => by
    obtain ⟨r, h1, h2⟩ := fits_fields w 9998 _ hf
    exact ⟨r, (run_equalIn_struct w 9999 t vs vs' hu hp).trans h1, h2⟩
  have hr : ∀ w, ∀ r, (Op.equal t (.agg vs) (.agg vs')).run P w = .ok r w → (binG .eql t xo yo (.agg vs) (.agg vs')).run P w = .ok (.bool r) w ∧ (binG .neq t xo yo (.agg vs) (.agg vs')).run P w = .ok (.bool !r) w := fun w r h => by
    have hp : (program).run P w = .ok P w := rfl
    constructor <;> simp [binG, eqGuard, Sem.run_bind, hp, hg, binOp, h]
  by_cases e : sameF vs vs' (P.fieldsOf t).toList
  · refine ⟨true, fun w => ?_, fun w => ?_, by simp [e]⟩
    all_goals
      obtain ⟨r, h1, h2⟩ := h w
      obtain rfl : r = true := h2.2 e
      first | exact (hr w _ h1).1 | exact (hr w _ h1).2
  · refine ⟨false, fun w => ?_, fun w => ?_, by simp [e]⟩
    all_goals
      obtain ⟨r, h1, h2⟩ := h w
      obtain rfl : r = false := by cases r; rfl; exact absurd (h2.1 rfl) e
      first | exact (hr w _ h1).1 | exact (hr w _ h1).2
end Go.Proofs.Ytmdponffajapjaa.AL

/- The equality of two of api.Super. -/
namespace Go.Proofs.Ytmdponffajapjaa.AL
open Go Go.Proofs Go.RowKit

theorem fields_snoc {P : Program} {xs ys : Array Value} {f : Field} {S : Prop} (w : World) (d : Nat) (hn : f.name ≠ "_")
    (hf : ∃ a b r, (part f.type xs f.offset).run P w = .ok a w ∧ (part f.type ys f.offset).run P w = .ok b w ∧ (Op.equalIn (d + 1) f.type a b).run P w = .ok r w ∧ (r = true ↔ S)) :
    ∀ fs : List Field, fitsF P xs ys fs = true → ∃ r, (Op.eqFields (d + 1) xs ys (fs ++ [f])).run P w = .ok r w ∧ (r = true ↔ sameF xs ys fs ∧ S)
  | [], _ => by
    obtain ⟨a, b, r, p1, p2, p3, hiff⟩ := hf
    refine ⟨r, ?_, by simp [sameF, hiff]⟩
    simp only [List.nil_append, Op.eqFields, hn, ne_eq, not_false_eq_true, if_true, Sem.run_bind, p1, p2, p3, Result.andThen_ok]
    cases r <;> simp
  | g :: fs, h => by
    simp only [fitsF, Bool.and_eq_true, bne_iff_ne, ne_eq] at h
    obtain ⟨⟨h1, h2⟩, h3⟩ := h
    obtain ⟨a, b, r, p1, p2, p3, hiff⟩ := fit_part (d := d) w h2
    obtain ⟨r', q1, q2⟩ := fields_snoc w d hn hf fs h3
    simp only [List.cons_append, Op.eqFields, h1, ne_eq, not_false_eq_true, if_true, Sem.run_bind, p1, p2, p3, Result.andThen_ok, sameF]
    cases r with
    | false => exact ⟨false, by simp, by simp; intro h; exact absurd (hiff.2 h) (by simp)⟩
    | true => exact ⟨r', by simpa using q1, by rw [q2]; simp [hiff.1 rfl]⟩

abbrev Sup.vals (x : Sup) : List Value := [.int .i64 x.vol, .int .i64 x.gen, .int .i64 x.epoch, .int .i64 x.area, .int .i64 x.snap, .int .i64 x.long, .int .i64 x.start, .int .i64 x.chain, .int .i64 x.g.w, .int .i64 x.g.s, .int .i64 x.g.k, .int .i64 x.g.m]
abbrev GeoV.vals (x : GeoV) : List Value := [.int .i64 x.w, .int .i64 x.s, .int .i64 x.k, .int .i64 x.m]
set_option maxRecDepth 100000
noncomputable def supFs : List Field := (Try.prog.fieldsOf t_api_Super).toList.take 8
theorem supFs_len : 8 < (Try.prog.fieldsOf t_api_Super).toList.length := Nat.lt_of_lt_of_eq (show 8 < 9 by decide) (show 9 = (Try.prog.fieldsOf t_api_Super).toList.length by kernel_rfl)
noncomputable def supF : Field := (Try.prog.fieldsOf t_api_Super).toList[8]'supFs_len
theorem supFs_eq : (Try.prog.fieldsOf t_api_Super).toList = supFs ++ [supF] := by kernel_rfl
theorem supF_name : supF.name ≠ "_" := fun h => absurd ((show "G" = supF.name by kernel_rfl).trans h) (by decide)
theorem supF_type : supF.type = t_api_Geo := by kernel_rfl
theorem supF_off : supF.offset = 8 := by kernel_rfl
theorem sup_hu : Try.prog.underlying t_api_Super = some (.struct (Try.prog.fieldsOf t_api_Super)) := by kernel_rfl
theorem sup_hp : Try.prog.stoodInHeld t_api_Super = false := by kernel_rfl
theorem sup_hg : Try.prog.eqGuardType Try.prog.depth t_api_Super = false := by kernel_rfl
theorem geo_hu : Try.prog.underlying t_api_Geo = some (.struct (Try.prog.fieldsOf t_api_Geo)) := by kernel_rfl
theorem geo_hp : Try.prog.stoodInHeld t_api_Geo = false := by kernel_rfl
theorem geo_sz (w : World) : (sizeOf t_api_Geo).run Try.prog w = .ok 4 w := by kernel_rfl
theorem geo_part (x : Sup) (w : World) : (part t_api_Geo x.vals.toArray 8).run Try.prog w = .ok (.agg x.g.vals.toArray) w := by
  simp only [part, isAgg, Sem.run_bind, run_underlying geo_hu, Result.andThen_ok]
  kernel_rfl
theorem geo_fits (x y : GeoV) : fitsF Try.prog x.vals.toArray y.vals.toArray (Try.prog.fieldsOf t_api_Geo).toList = true := by kernel_rfl
theorem geo_same (x y : GeoV) : sameF x.vals.toArray y.vals.toArray (Try.prog.fieldsOf t_api_Geo).toList = (some (Value.int .i64 x.w) = some (.int .i64 y.w) ∧ some (Value.int .i64 x.s) = some (.int .i64 y.s) ∧ some (Value.int .i64 x.k) = some (.int .i64 y.k) ∧ some (Value.int .i64 x.m) = some (.int .i64 y.m) ∧ True) := by kernel_rfl
theorem sup_fits (x y : Sup) : fitsF Try.prog x.vals.toArray y.vals.toArray supFs = true := by kernel_rfl
theorem sup_same (x y : Sup) : sameF x.vals.toArray y.vals.toArray supFs = (some (Value.int .i64 x.vol) = some (.int .i64 y.vol) ∧ some (Value.int .i64 x.gen) = some (.int .i64 y.gen) ∧ some (Value.int .i64 x.epoch) = some (.int .i64 y.epoch) ∧ some (Value.int .i64 x.area) = some (.int .i64 y.area) ∧ some (Value.int .i64 x.snap) = some (.int .i64 y.snap) ∧ some (Value.int .i64 x.long) = some (.int .i64 y.long) ∧ some (Value.int .i64 x.start) = some (.int .i64 y.start) ∧ some (Value.int .i64 x.chain) = some (.int .i64 y.chain) ∧ True) := by kernel_rfl
theorem eq_super (xo yo : Operand) (x y : Sup) (w : World) : (binG .eql t_api_Super xo yo (.agg x.vals.toArray) (.agg y.vals.toArray)).run Try.prog w = .ok (.bool (decide (x = y))) w := by
  have hg : ∃ a b r, (part supF.type x.vals.toArray supF.offset).run Try.prog w = .ok a w ∧ (part supF.type y.vals.toArray supF.offset).run Try.prog w = .ok b w ∧ (Op.equalIn (9998 + 1) supF.type a b).run Try.prog w = .ok r w ∧ (r = true ↔ x.g = y.g) := by
    rw [supF_type, supF_off]
    obtain ⟨r, h1, h2⟩ := fits_fields (P := Try.prog) w 9997 _ (geo_fits x.g y.g)
    refine ⟨_, _, r, geo_part x w, geo_part y w, (run_equalIn_struct w 9998 t_api_Geo _ _ geo_hu geo_hp).trans h1, ?_⟩
    rw [h2, geo_same]
    obtain ⟨_, _, _, _, _, _, _, _, ⟨a, b, c, d⟩⟩ := x
    obtain ⟨_, _, _, _, _, _, _, _, ⟨a', b', c', d'⟩⟩ := y
    simp
  obtain ⟨r, h1, h2⟩ := fields_snoc w 9998 supF_name hg supFs (sup_fits x y)
  rw [← supFs_eq] at h1
  have hr : r = decide (x = y) := by
    rw [sup_same] at h2
    have : (r = true ↔ x = y) := by
      rw [h2]
      obtain ⟨a, b, c, d, e, f, g, h, i⟩ := x
      obtain ⟨a', b', c', d', e', f', g', h', i'⟩ := y
      simp only [Sup.mk.injEq, Option.some.injEq, Value.int.injEq, true_and, and_true, and_assoc]
    cases r with
    | true => rw [decide_eq_true (this.1 rfl)]
    | false => rw [decide_eq_false (fun e => by have := this.2 e; cases this)]
  rw [← hr]
  unfold binG
  rw [Sem.run_bind, run_eqGuard_agg w .eql t_api_Super xo yo _ _ sup_hg, Result.andThen_ok, run_eql_struct]
  rw [show (10000 : Nat) = 9999 + 1 from rfl, run_equalIn_struct w 9999 t_api_Super _ _ sup_hu sup_hp, h1]
  rfl
end Go.Proofs.Ytmdponffajapjaa.AL

/- The law of layer 10: the chapter's example. -/
namespace Go.Proofs.Ytmdponffajapjaa.AL
open Go Go.Proofs

def one10 (g : Int) : Sup := ⟨7, g, 2, 0, 3, 9, 4, 5, ⟨8, 1, 2, 1⟩⟩
theorem law10_one (g : Int) : AF Try.prog f_law10_one [i64 g] [] (Pure (one10 g).av []) := by
  refine af_body hT F_law10_one rfl rfl N_law10_one rfl ?_
  refine aw_seq (aw_region hT ?_)
  refine aw_seq (aw_region hT ?_)
  refine aw_ret ?_
  exact retPick [] ⟨rfl, rfl⟩ rfl
theorem one10_may : (one10 5).may = true := by decide +kernel

theorem supRead2 {D : Dev} {N b : Nat} (h : CleanP D N b) (hN : 4 ≤ N) : CleanP D.supRead.2 N b ∧ D.supRead.2.cells = D.cells := by
  obtain ⟨_, h2, h3⟩ := rd4P h 4 hN
  have e : D.supRead.2 = (rd4 D 4).2 := by
    unfold Dev.supRead
    rw [h.dead]
    show (match (pickB (rd4 D 4).1).2 with | false => ((Sup.zero, (22 : Int)), (rd4 D 4).2) | true => (((pickB (rd4 D 4).1).1, 0), (rd4 D 4).2)).2 = _
    cases (pickB (rd4 D 4).1).2 <;> rfl
  rw [e]; exact ⟨h2, h3⟩

set_option maxRecDepth 20000 in
theorem law10_awake : AF Try.prog f_law10_awake [] [] (Pure (bl true) []) := by
  have c0 := cleanP_new 26 0
  have n1 := disk_New 26 (by omega) (by omega)
  have hn := newP (N := 26) (by omega)
  have r1 := sup_Read (Dev.new 26) 0 c0.ok (by omega)
  obtain ⟨c1, _⟩ := supRead2 c0 (by omega)
  rw [hn] at r1
  generalize (Dev.new 26).supRead.2 = D1 at r1 c1
  generalize Dev.new 26 = D0 at n1 r1
  obtain ⟨D2, i1, c2, hc2⟩ := installP one10_may c1 (by omega)
  have w2 := sup_Install D1 (one10 5) 0 c1.ok (by omega)
  rw [i1] at w2
  have hl : ∀ k : Nat, k ≤ 3 → CleanP (loses D2 (fun _ => true) k) 26 (0 + 4 + k) := fun k hk => (losesP c2 (fun _ => true) k (by omega)).1
  obtain ⟨c3, r3⟩ := leftP one10_may c2 (by omega) hc2 (fun _ => true) (n := 3) (by omega)
  have r3 : (loses D2 (fun _ => true) 3).supRead.1 = (one10 5, 0) := r3
  have w3 := sup_Read (loses D2 (fun _ => true) 3) _ c3.ok (by omega)
  rw [r3] at w3
  generalize (loses D2 (fun _ => true) 3).supRead.2 = D4 at w3
  refine af_body hT F_law10_awake rfl rfl N_law10_awake rfl ?_
  refine aw_seq (aw_region hT ?_)
  refine aw_cut ⟨⟨53, [(1, .ref 0 0)]⟩, devH D0⟩ True (aw_region hT ?_) (fun _ => ?_)
  · refine callP n1 ?_
    exact ⟨wk_pick [0, 1, 2] [1] rfl, trivial⟩
  refine aw_cut ⟨⟨53, [(1, .ref 0 0), (4, i64 22)]⟩, devH D1⟩ True (aw_region hT ?_) (fun _ => ?_)
  · refine callP (af_in [0, 1, 2] r1 rfl rfl rfl) ?_
    exact ⟨wk_pick [0, 1, 2] [1, 4] rfl, trivial⟩
  refine aw_cut ⟨⟨53, [(1, .ref 0 0), (4, i64 22), (5, i64 0)]⟩, devH D2⟩ True (aw_region hT ?_) (fun _ => ?_)
  · refine callP (af_at (law10_one 5) _ rfl rfl) ?_
    refine callP (af_in [0, 1, 2] w2 rfl rfl rfl) ?_
    exact ⟨wk_pick [0, 3, 4] [1, 4, 5] rfl, trivial⟩
  refine aw_cut ⟨⟨53, [(1, .ref 0 0), (4, i64 22), (5, i64 0)]⟩, devH (loses D2 (fun _ => true) 3)⟩ True (aw_seq (aw_region hT ?_)) (fun _ => ?_)
  · refine aw_block ?_
    refine aw_loopW (fun n s => ∃ (k : Nat) (j : Int) (E : Dev), n + k = 3 ∧ j = k ∧ E = loses D2 (fun _ => true) k ∧ s = ⟨⟨53, [(1, .ref 0 0), (4, i64 22), (5, i64 0), (6, i64 j)]⟩, devH E⟩) 3 ⟨⟨53, _⟩, _⟩ (wk_pick [0, 1, 2] [1, 4, 5, 6] rfl) ⟨0, 0, D2, rfl, rfl, rfl, rfl⟩ ?_
    rintro n s ⟨k, j, E, hnk, rfl, hE, rfl⟩
    refine aw_seq (aw_seq (aw_region hT ?_))
    refine aw_cond (boolI (fun h => ?_) (fun h => ?_))
    · have hk := of_decide_eq_true (show decide ((k : Int) < 3) = true from h)
      have ce := hl k (by omega)
      rw [← hE] at ce
      have w := disk_Fault E (loseF k) _ ce.ok (by omega)
      have eE : loses D2 (fun _ => true) (k + 1) = (E.fault (loseF k)).2 := by rw [hE]; rfl
      rw [← eE] at w
      generalize (E.fault (loseF k)).1 = f at w
      obtain ⟨F, hF⟩ : ∃ F, F = loses D2 (fun _ => true) (k + 1) := ⟨_, rfl⟩
      rw [← hF] at w
      refine aw_skip ?_
      refine aw_cut ⟨⟨53, [(1, .ref 0 0), (4, i64 22), (5, i64 0), (6, i64 k)]⟩, devH F⟩ True (aw_block (aw_region hT ?_)) (fun _ => ?_)
      · refine callP (af_in [0, 1, 2] w rfl rfl rfl) ?_
        exact ⟨wk_pick [0, 1, 2] [1, 4, 5, 6] rfl, trivial⟩
      · refine aw_region hT ?_
        refine ⟨n - 1, by omega, _, wk_pick [0, 1, 2] [1, 4, 5, 6] rfl, k + 1, IntKind.i64.wrap ((k : Int) + 1), F, by omega, ?_, hF, rfl⟩
        rw [wrap64 _ (by omega) (by omega)]; rfl
    · have hk := of_decide_eq_false (show decide ((k : Int) < 3) = false from h)
      have hk3 : k = 3 := by omega
      rw [hk3] at hE
      rw [← hE]
      refine aw_exit ?_
      exact ⟨wk_pick [0, 1, 2] [1, 4, 5] rfl, trivial⟩
  refine aw_cut ⟨⟨53, [(4, i64 22), (5, i64 0), (7, .ref 0 0), (8, i64 0)]⟩, [supC (one10 5)]⟩ True (aw_region hT ?_) (fun _ => ?_)
  · refine callP (af_in [0, 1, 2] w3 rfl rfl rfl) ?_
    exact ⟨wk_pick [3] [4, 5, 7, 8] rfl, trivial⟩
  have wm := sup_May (one10 5)
  rw [one10_may] at wm
  refine aw_seq ?_
  refine aw_draw [] [] hT follows_mixed (by rfl) ?_
  refine ⟨_, af_at (law10_one 5) _ rfl rfl, ?_⟩
  refine ⟨.bool true, fun w => (eq_super _ _ (one10 5) (one10 5) w).trans (by rw [decide_eq_true rfl]), rfl, ?_⟩
  refine ⟨_, af_at wm _ rfl rfl, ?_⟩
  refine aw_ret ?_
  exact retPick [] ⟨rfl, rfl⟩ rfl
end Go.Proofs.Ytmdponffajapjaa.AL

/- The laws SupTells and SupPicks: the program's and the document's answers are the same. -/
namespace Go.Proofs.Ytmdponffajapjaa.AL
open Go Go.Proofs

theorem eq_errno (a : Int) : (a == a) = true := beq_self_eq_true a
set_option maxRecDepth 20000 in
theorem sup_tells (x : Sup) (i : Int) (s : Bytes) : AF Try.prog f_law10_SupTells [x.av, i64 i, bA s] [] (Pure (bl true) []) := by
  refine AF.mono (R := fun r H' => ∃ z, z = true ∧ r = bl z ∧ H' = []) ?_ (by rintro r H' ⟨b, rfl, rfl, rfl⟩; exact ⟨rfl, rfl⟩)
  have hbl := bx_len s
  refine af_body hT F_law10_SupTells rfl rfl N_law10_SupTells rfl ?_
  refine aw_seq (aw_region hT ?_)
  refine aw_wk (wk_boxL 0 x.pv rfl rfl) ?_
  refine aw_seq (aw_region hT ?_)
  refine callP (af_at law10_awake _ rfl rfl) ?_
  refine aw_cut ⟨⟨76, [(1, i64 i), (2, bA s), (3, .p (.box x.pv))]⟩, []⟩ (s.length ≤ 600) (aw_seq (aw_region hT ?_)) ?_
  · refine aw_cond (boolI (fun h => ?_) (fun h => ?_))
    · refine aw_seq (aw_region hT ?_)
      refine aw_ret ?_
      exact retPick [] ⟨true, rfl, rfl, rfl⟩ rfl
    · have h := of_decide_eq_false (show decide (((bx s).length : Int) > 600) = false from h)
      exact aw_skip ⟨wk_pick [] [1, 2, 3] rfl, by omega⟩
  intro hs
  have w1 := sup_Sector x i
  have w2 := ref10_Sector x i
  have hlen : (x.sector i).1.length ≤ 1000000 := by
    by_cases h : (x.sector i).2 = 0
    · obtain ⟨hm, h0, h4⟩ := sector_inv h
      rw [(sector_ok hm h0 h4).1]
      show (sealB _).length ≤ _
      rw [sealB_len, all_len _ (may_blk hm h0 h4).2]; omega
    · unfold Sup.sector at h ⊢
      cases hc : x.may && (!decide (i < 0) && !decide (i ≥ 4)) with
      | false => exact Nat.zero_le _
      | true =>
        rw [hc] at h
        simp only [Bool.and_eq_true, Bool.not_eq_true', decide_eq_false_iff_not] at hc
        have := (sector_ok hc.1 (show 0 ≤ i by omega) (by omega)).1
        unfold Sup.sector at this
        rw [show (x.may && (!decide (i < 0) && !decide (i ≥ 4))) = true by simp only [Bool.and_eq_true, Bool.not_eq_true', decide_eq_false_iff_not]; exact hc] at this
        rw [this] at h
        exact absurd rfl h
  generalize x.sector i = Y at w1 w2 hlen
  obtain ⟨t, e⟩ := Y
  have w1 : AF Try.prog f_sup_Sector [x.av, i64 i] [] (Pure (.tup [bA t, i64 e]) []) := w1
  have w2 : AF Try.prog f_ref10_Sector [x.av, i64 i] [] (Pure (.tup [bA t, i64 e]) []) := w2
  have hlen : t.length ≤ 1000000 := hlen
  have w3 := ref04_Same t t hlen
  rw [beq_self_eq_true] at w3
  have w4 := sup_Told s i (by omega)
  have w5 := ref10_Told s i (by omega)
  generalize toldB s i = Z at w4 w5
  obtain ⟨y, g⟩ := Z
  have w4 : AF Try.prog f_sup_Told [bA s, i64 i] [] (Pure (.tup [y.av, bl g]) []) := w4
  have w5 : AF Try.prog f_ref10_Told [bA s, i64 i] [] (Pure (.tup [y.av, bl g]) []) := w5
  have w6 := sup_May x
  have w7 := ref10_May x
  generalize x.may = m at w6 w7
  refine aw_cut ⟨⟨76, [(1, i64 i), (2, bA s), (3, .p (.box x.pv)), (8, bA t), (9, i64 e)]⟩, []⟩ True (aw_region hT ?_) (fun _ => ?_)
  · refine callP (af_at w1 _ rfl rfl) ?_
    exact ⟨wk_pick [] [1, 2, 3, 8, 9] rfl, trivial⟩
  refine aw_cut ⟨⟨76, [(1, i64 i), (2, bA s), (3, .p (.box x.pv)), (8, bA t), (9, i64 e), (10, bA t), (11, i64 e)]⟩, []⟩ True (aw_region hT ?_) (fun _ => ?_)
  · refine callP (af_at w2 _ rfl rfl) ?_
    exact ⟨wk_pick [] [1, 2, 3, 8, 9, 10, 11] rfl, trivial⟩
  refine aw_cut ⟨⟨76, [(1, i64 i), (2, bA s), (3, .p (.box x.pv)), (9, i64 e), (11, i64 e), (12, bl true)]⟩, []⟩ True (aw_region hT ?_) (fun _ => ?_)
  · refine callP (af_at w3 _ rfl rfl) ?_
    exact ⟨wk_pick [] [1, 2, 3, 9, 11, 12] rfl, trivial⟩
  refine aw_cut ⟨⟨76, [(1, i64 i), (2, bA s), (3, .p (.box x.pv)), (9, i64 e), (11, i64 e), (12, bl true), (13, .ref 0 0), (14, bl g)]⟩, [supC y]⟩ True (aw_region hT ?_) (fun _ => ?_)
  · refine callP (af_at w4 _ rfl rfl) ?_
    exact ⟨wk_pick [0] [1, 2, 3, 9, 11, 12, 13, 14] rfl, trivial⟩
  refine aw_cut ⟨⟨76, [(3, .p (.box x.pv)), (9, i64 e), (11, i64 e), (12, bl true), (13, .ref 0 0), (14, bl g), (15, .ref 1 0), (16, bl g)]⟩, [supC y, supC y]⟩ True (aw_region hT ?_) (fun _ => ?_)
  · refine callP (af_at w5 _ rfl rfl) ?_
    exact ⟨wk_pick [0, 1] [3, 9, 11, 12, 13, 14, 15, 16] rfl, trivial⟩
  have heq : ∀ xo yo w, (binG .eql t_api_Super xo yo (.agg y.vals.toArray) (.agg y.vals.toArray)).run Try.prog w = .ok (.bool true) w := fun xo yo w => (eq_super xo yo y y w).trans (by rw [decide_eq_true rfl])
  refine aw_seq ?_
  refine aw_draw [] [] hT follows_mixed (by rfl) ?_
  refine boolI (fun h => ?_) (fun h => ?_)
  · refine ⟨.bool true, fun w => heq _ _ w, rfl, ?_⟩
    refine boolI (fun h2 => ?_) (fun h2 => ?_)
    · refine ⟨_, af_at w6 _ rfl rfl, ?_⟩
      refine ⟨_, af_at w7 _ rfl rfl, ?_⟩
      refine aw_ret ?_
      exact retPick [] ⟨_, beq_self_eq_true m, rfl, rfl⟩ rfl
    · exact absurd ((show (g == g) = false from h2).symm.trans (beq_self_eq_true g)) (by decide)
  · exact absurd ((show (e == e) = false from h).symm.trans (beq_self_eq_true e)) (by decide)
end Go.Proofs.Ytmdponffajapjaa.AL

/- The abstract layer, part u: what a law's arguments read as; the call's end as the row asks. -/
namespace Go.Proofs.Ytmdponffajapjaa.AL
open Go Go.RowKit Go.ChangeShapes Go.WideShapes Go.ChangeAt Go.Deep

/-- A contract at closed arguments, as the rows ask it: what was there stays. -/
theorem af_calls {P : Program} {f : FuncId} {args : List AV} {r : Value} {W : World} {vals : Array Value} (h : AF P f args [] (Pure (.p (.raw r)) [])) (hn : vals.size = args.length)
    (ha : ∀ i u, args[i]? = some u → ARep W (· < W.heap.size) (fun _ => none) u (vals.getD i undef)) : Calls P f vals W fun e W' => e = .returned r ∧ Below W.heap.size W W' := by
  have hs : SimH W (· < W.heap.size) (fun _ => none) [] := ⟨fun b k hb => by simp at hb, fun b b' B hb => by obtain ⟨k, hk, _⟩ := hb; simp at hk, fun B hB => hB, fun _ _ => rfl, fun b B hb => by simp at hb⟩
  refine (h.2 W _ _ vals hn ha hs).mono ?_
  rintro e W' ⟨v, r', H', I', ι', rfl, ⟨rfl, rfl⟩, hr, hs', hx⟩
  rw [rep_raw hr]
  refine ⟨rfl, ⟨hx.ext.os, hx.ext.tape, hx.ext.output, hx.ext.size, fun k hk => hx.ext.frame k hk ?_⟩⟩
  rintro ⟨b, hb, _⟩
  obtain ⟨k', hk', _⟩ := hb
  simp at hk'

section
variable {H : Type} {enc : TypeId × Value → H} {P : Program} {W : World} {spare : Nat → Bool} {held : Bool}

theorem len_le_maxLen {n : Nat} (h : n ≤ maxLen) : n ≤ 9223372036854775807 := by
  have : maxLen = 9223372036854775807 := by decide
  omega

/-- A slice whose elements' cells read as they should. -/
theorem rep_slice {t e : TypeId} {v : Value} {d : DataW H} {ps : List MemPlace} {r : Reach} {b0 : Nat} {ι : Nat → Option Nat} (ht : P.underlying t = some (.slice e)) (hval : Value.okWide P W r b0 t v) (h : DataW.Trod enc P W 0 spare held t v d ps)
    {α : Type} [Inhabited α] (pv : α → List PV) (sz : Nat) (hsz : P.cellsOf e = sz) (h0 : 0 < sz)
    (hel : ∀ (n : Nat) (cs : List Value) (x : DataW H × List MemPlace), DataW.trod enc P W 0 spare held n e cs = some x → ∃ a : α, (pv a).length = sz ∧ ∀ (i : Nat) (u : PV), (pv a)[i]? = some u → ∀ v : Value, cs[i]? = some v → PRep W (· < W.heap.size) u v) :
    ∃ l : List α, ARep W (· < W.heap.size) ι (.p (.sl sz (l.map pv))) v := by
  classical
  obtain ⟨a0, len, cap, rfl⟩ := okWide_slice ht hval
  obtain ⟨fuel, hf⟩ := h
  rcases open_slice ht hf with ⟨hcs, _⟩ | ⟨a, len', cap', m, n, D, Pl, hcs, _, hl, hm, hmm, _, hx⟩
  · simp [Value.cells] at hcs
    obtain ⟨rfl, rfl, rfl⟩ := hcs
    exact ⟨[], .p (PRep.sl sz [] none 0 (fun _ _ => undef) (by simp) (by simp) (.inl rfl) (fun j e i u h => by simp at h))⟩
  · simp [Value.cells] at hcs
    obtain ⟨rfl, rfl, rfl⟩ := hcs
    have hlm : len ≤ m := by rw [hmm]; split <;> omega
    have hone : ∀ i, ∃ x : α, i < len → (pv x).length = sz ∧ (∀ k, k < sz → ∃ v, W.cell? ((a.add (i * sz)).add k) = some v) ∧ ∀ (k : Nat) (u : PV) (v : Value), (pv x)[k]? = some u → W.cell? ((a.add (i * sz)).add k) = some v → PRep W (· < W.heap.size) u v := by
      intro i
      by_cases hi : i < len
      · obtain ⟨cs', h1, h2⟩ := hx i (by omega)
        rw [hsz] at h1
        obtain ⟨x, h3, h4⟩ := hel n cs' _ h2
        obtain ⟨_, hlen, hc⟩ := World.cells?_some h1
        refine ⟨x, fun _ => ⟨h3, fun k hk => ?_, fun k u v hu hv => ?_⟩⟩
        · exact ⟨cs'[k]'(by omega), by rw [hc k hk, List.getElem?_eq_getElem]⟩
        · have hk : k < sz := by rw [← h3]; exact (List.getElem?_eq_some_iff.1 hu).1
          exact h4 k u hu v (by rw [← hc k hk]; exact hv)
      · exact ⟨default, fun h => absurd h hi⟩
    let g : Nat → α := fun i => (hone i).choose
    have hg : ∀ i, i < len → (pv (g i)).length = sz ∧ (∀ k, k < sz → ∃ v, W.cell? ((a.add (i * sz)).add k) = some v) ∧ ∀ (k : Nat) (u : PV) (v : Value), (pv (g i))[k]? = some u → W.cell? ((a.add (i * sz)).add k) = some v → PRep W (· < W.heap.size) u v := fun i hi => (hone i).choose_spec hi
    clear_value g
    have hlen : (((List.range len).map g).map pv).length = len := by simp
    have hget : ∀ (j : Nat) (e : List PV), (((List.range len).map g).map pv)[j]? = some e → j < len ∧ e = pv (g j) := by
      intro j e hj
      have hjl : j < len := by rw [← hlen]; exact (List.getElem?_eq_some_iff.1 hj).1
      simp [hjl] at hj
      exact ⟨hjl, hj.symm⟩
    refine ⟨(List.range len).map g, .p ?_⟩
    have := PRep.sl (w := W) (I := (· < W.heap.size)) sz (((List.range len).map g).map pv) (some a) cap (fun j i => (W.cell? ((a.add (j * sz)).add i)).getD undef) (by omega) (by have := len_le_maxLen hm; omega) ?_ ?_
    · rw [hlen] at this; exact this
    · · rcases Nat.eq_zero_or_pos len with hz | hz
        · subst hz; exact .inl rfl
        · obtain ⟨v, hv⟩ := (hg 0 hz).2.1 0 h0
          obtain ⟨ab, ao, asp⟩ := a
          have hspot : asp = none := by simpa [Addr.add] using World.cell?_spot hv
          subst hspot
          refine .inr ⟨ab, ao, rfl, ?_, fun j e hj => ?_⟩
          · unfold World.cell? at hv
            split at hv
            · rename_i hb
              have := (Array.getElem?_eq_some_iff.1 hb).1
              simpa [Addr.add] using this
            · simp at hv
          · obtain ⟨hjl, rfl⟩ := hget j e hj
            refine ⟨(hg j hjl).1, fun i hi => ?_⟩
            obtain ⟨v, hv⟩ := (hg j hjl).2.1 i hi
            have e1 : (Addr.add ⟨ab, ao, none⟩ (j * sz)).add i = ⟨ab, ao + j * sz + i, none⟩ := by rw [add_plain, add_plain]
            rw [e1] at hv
            rw [hv]
            show some v = some ((W.cell? _).getD undef)
            rw [e1, hv]; rfl
    · intro j e i u hj hu
      obtain ⟨hjl, rfl⟩ := hget j e hj
      have hi : i < sz := by rw [← (hg j hjl).1]; exact (List.getElem?_eq_some_iff.1 hu).1
      obtain ⟨v, hv⟩ := (hg j hjl).2.1 i hi
      rw [hv]
      exact (hg j hjl).2.2 i u v hu hv
/-- The same, of a slice that stands in a cell. -/
theorem rep_sliceT {t e : TypeId} {fuel : Nat} {vs : List Value} {y : DataW H × List MemPlace} (ht : P.underlying t = some (.slice e)) (hf : DataW.trod enc P W 0 spare held fuel t vs = some y)
    {α : Type} [Inhabited α] (pv : α → List PV) (sz : Nat) (hsz : P.cellsOf e = sz) (h0 : 0 < sz)
    (hel : ∀ (n : Nat) (cs : List Value) (x : DataW H × List MemPlace), DataW.trod enc P W 0 spare held n e cs = some x → ∃ a : α, (pv a).length = sz ∧ ∀ (i : Nat) (u : PV), (pv a)[i]? = some u → ∀ v : Value, cs[i]? = some v → PRep W (· < W.heap.size) u v) :
    ∃ (l : List α) (v : Value), vs = [v] ∧ PRep W (· < W.heap.size) (.sl sz (l.map pv)) v := by
  classical
  rcases open_slice ht hf with ⟨hcs, _⟩ | ⟨a, len, cap, m, n, D, Pl, hcs, _, hl, hm, hmm, _, hx⟩
  · exact ⟨[], _, hcs, (PRep.sl sz [] none 0 (fun _ _ => undef) (by simp) (by simp) (.inl rfl) (fun j e i u h => by simp at h))⟩
  · have hlm : len ≤ m := by rw [hmm]; split <;> omega
    have hone : ∀ i, ∃ x : α, i < len → (pv x).length = sz ∧ (∀ k, k < sz → ∃ v, W.cell? ((a.add (i * sz)).add k) = some v) ∧ ∀ (k : Nat) (u : PV) (v : Value), (pv x)[k]? = some u → W.cell? ((a.add (i * sz)).add k) = some v → PRep W (· < W.heap.size) u v := by
      intro i
      by_cases hi : i < len
      · obtain ⟨cs', h1, h2⟩ := hx i (by omega)
        rw [hsz] at h1
        obtain ⟨x, h3, h4⟩ := hel n cs' _ h2
        obtain ⟨_, hlen, hc⟩ := World.cells?_some h1
        refine ⟨x, fun _ => ⟨h3, fun k hk => ?_, fun k u v hu hv => ?_⟩⟩
        · exact ⟨cs'[k]'(by omega), by rw [hc k hk, List.getElem?_eq_getElem]⟩
        · have hk : k < sz := by rw [← h3]; exact (List.getElem?_eq_some_iff.1 hu).1
          exact h4 k u hu v (by rw [← hc k hk]; exact hv)
      · exact ⟨default, fun h => absurd h hi⟩
    let g : Nat → α := fun i => (hone i).choose
    have hg : ∀ i, i < len → (pv (g i)).length = sz ∧ (∀ k, k < sz → ∃ v, W.cell? ((a.add (i * sz)).add k) = some v) ∧ ∀ (k : Nat) (u : PV) (v : Value), (pv (g i))[k]? = some u → W.cell? ((a.add (i * sz)).add k) = some v → PRep W (· < W.heap.size) u v := fun i hi => (hone i).choose_spec hi
    clear_value g
    have hlen : (((List.range len).map g).map pv).length = len := by simp
    have hget : ∀ (j : Nat) (e : List PV), (((List.range len).map g).map pv)[j]? = some e → j < len ∧ e = pv (g j) := by
      intro j e hj
      have hjl : j < len := by rw [← hlen]; exact (List.getElem?_eq_some_iff.1 hj).1
      simp [hjl] at hj
      exact ⟨hjl, hj.symm⟩
    refine ⟨(List.range len).map g, _, hcs, ?_⟩
    have := PRep.sl (w := W) (I := (· < W.heap.size)) sz (((List.range len).map g).map pv) (some a) cap (fun j i => (W.cell? ((a.add (j * sz)).add i)).getD undef) (by omega) (by have := len_le_maxLen hm; omega) ?_ ?_
    · rw [hlen] at this; exact this
    · · rcases Nat.eq_zero_or_pos len with hz | hz
        · subst hz; exact .inl rfl
        · obtain ⟨v, hv⟩ := (hg 0 hz).2.1 0 h0
          obtain ⟨ab, ao, asp⟩ := a
          have hspot : asp = none := by simpa [Addr.add] using World.cell?_spot hv
          subst hspot
          refine .inr ⟨ab, ao, rfl, ?_, fun j e hj => ?_⟩
          · unfold World.cell? at hv
            split at hv
            · rename_i hb
              have := (Array.getElem?_eq_some_iff.1 hb).1
              simpa [Addr.add] using this
            · simp at hv
          · obtain ⟨hjl, rfl⟩ := hget j e hj
            refine ⟨(hg j hjl).1, fun i hi => ?_⟩
            obtain ⟨v, hv⟩ := (hg j hjl).2.1 i hi
            have e1 : (Addr.add ⟨ab, ao, none⟩ (j * sz)).add i = ⟨ab, ao + j * sz + i, none⟩ := by rw [add_plain, add_plain]
            rw [e1] at hv
            rw [hv]
            show some v = some ((W.cell? _).getD undef)
            rw [e1, hv]; rfl
    · intro j e i u hj hu
      obtain ⟨hjl, rfl⟩ := hget j e hj
      have hi : i < sz := by rw [← (hg j hjl).1]; exact (List.getElem?_eq_some_iff.1 hu).1
      obtain ⟨v, hv⟩ := (hg j hjl).2.1 i hi
      rw [hv]
      exact (hg j hjl).2.2 i u v hu hv
end
end Go.Proofs.Ytmdponffajapjaa.AL
