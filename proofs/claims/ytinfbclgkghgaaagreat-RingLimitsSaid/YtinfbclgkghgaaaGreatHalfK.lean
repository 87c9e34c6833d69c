/- A part of the proof. -/
import Derived.Test.YtinfbclgkghgaaaGreatHalfJ
/- The layer 11 (ring): the reader goes through the pieces. -/
namespace Go.Proofs.YtinfbclgkghgaaaGreat.AL
open Go Go.Proofs

abbrev LogOk (vol : Int) (g : GeoV) (a b : List Bytes) : Prop := g.may = true ∧ wordB vol = true ∧ (a.length : Int) = g.w ∧ (b.length : Int) = g.w ∧ (∀ s ∈ a, s.length ≤ 1000000) ∧ ∀ s ∈ b, s.length ≤ 1000000

set_option maxHeartbeats 1000000 in
set_option maxRecDepth 20000 in
theorem pieces_seq (vol : Int) (g : GeoV) (a b : List Bytes) (start : Int) (x0 : RdS × Fol) (q : RecK) (l : List AV) (hl : belowL 9 l = true) (hok : LogOk vol g a b) (hs0 : 0 ≤ start) (hs1 : start ≤ 4294967295) (hF : FolOk x0.2 0)
    (hy : ∀ (S : RdS) (F : Fol) (p : Pc) (s : Int) (k : Nat), k ≤ 512 → FolOk F k → p.may = true → AYm Tryz.prog 9 8 [p.av, i64 s] (folJ vol g a b (.lp q .ready none l) (S, F)) (fun r H' => r = bl true ∧ H' = folJ vol g a b (.lp q .ready none l) (S, stepF F p s))) :
    AFm Tryz.prog 9 f_ring_reader_pieces_1 [.yld 8, .p (.box [.raw (.int .i64 start)]), .ref 1 0] (folJ vol g a b (.lp q .ready none l) x0) (fun _ H' => H' = folJ vol g a b (.lp q .ready none l) (goS vol g a b g.w.toNat start x0)) := by
  obtain ⟨hg, hv, ha, hb, has, hbs⟩ := hok
  obtain ⟨g1, g2, _⟩ := g.of_may hg
  obtain ⟨X, hX⟩ : ∃ X, X = goS vol g a b g.w.toNat start x0 := ⟨_, rfl⟩
  rw [← hX]
  have hwW : IntKind.i64.wrap (start + g.w) = start + g.w := wrap64 _ (by omega) (by omega)
  refine af_bodyM 9 hT F_ring_reader_pieces_1 rfl rfl N_ring_reader_pieces_1 rfl rfl ?_
  refine aw_seq (aw_region hT ?_)
  refine aw_block ?_
  refine aw_loopW (fun n st => ∃ (k : Nat) (seq : Int) (S : RdS) (F : Fol), n + k = g.w.toNat ∧ seq = start + k ∧ FolOk F k ∧ X = goS vol g a b n seq (S, F) ∧ st = ⟨⟨84, [(0, .yld 8), (1, .p (.box [.raw (.int .i64 start)])), (2, .ref 1 0), (4, i64 seq)]⟩, folJ vol g a b (.lp q .ready none l) (S, F)⟩) g.w.toNat ⟨⟨84, _⟩, _⟩ (wk_keep [0, 1, 2, 4]) ⟨0, start, x0.1, x0.2, by omega, by omega, hF, hX, rfl⟩ ?_
  rintro n st ⟨k, seq, S, F, hnk, hseq, hFk, hgo, rfl⟩
  refine aw_seq (aw_seq ?_)
  refine aw_draw [] [] hT follows_mixed (by rfl) ?_
  refine aw_cond (boolI (fun h => ?_) (fun h => ?_))
  · have h := of_decide_eq_true (show decide (seq < IntKind.i64.wrap (start + g.w)) = true from h)
    rw [hwW] at h
    obtain ⟨n, rfl⟩ : ∃ m, n = m + 1 := ⟨n - 1, by omega⟩
    have wt := reader_told vol g a b S seq hg (by omega) ha hb has hbs
    have wc := reader_clean vol g a b S seq hg (by omega) ha hb has hbs
    have hcm := fun p (hp : p ∈ cands vol g a b seq) => (cands_may hp).1
    have hcl : (cands vol g a b seq).length ≤ 2 := by
      unfold cands
      rw [sort2_len, List.length_append]
      have := cand1_len vol g 0 a seq
      have := cand1_len vol g 1 b seq
      omega
    have e : goS vol g a b (n + 1) seq (S, F) = match pickS S (cands vol g a b seq) with
      | none => ({ S with torn := (cands vol g a b seq).isEmpty && !cleanB vol g a b (seq.tmod g.w) }, F)
      | some p => goS vol g a b n (seq + 1) (⟨p, true, sumP vol g p, S.torn⟩, stepF F p (sumP vol g p)) := rfl
    rw [e] at hgo
    have hix := idxS_pick S (cands vol g a b seq) 0
    have wi := index_fits vol g a b S (cands vol g a b seq) (by omega)
    generalize cands vol g a b seq = C at wt hcm hcl hgo hix wi
    generalize cleanB vol g a b (seq.tmod g.w) = cl at wc hgo
    have hpl := pX_len C
    refine aw_skip ?_
    refine aw_cut2 (fun st => ∃ (p : Pc) (sm : Int) (F2 : Fol), p.may = true ∧ stepF F p sm = F2 ∧ X = goS vol g a b n (seq + 1) (⟨p, true, sm, S.torn⟩, F2) ∧ st = ⟨⟨84, [(0, .yld 8), (1, .p (.box [.raw (.int .i64 start)])), (2, .ref 1 0), (4, i64 seq)]⟩, folJ vol g a b (.lp q .ready none l) (⟨p, true, sm, S.torn⟩, F2)⟩) (aw_block ?_) ?_
    · refine aw_cut ⟨⟨84, [(0, .yld 8), (1, .p (.box [.raw (.int .i64 start)])), (2, .ref 1 0), (4, i64 seq), (5, .p (.sl 7 (pX C)))]⟩, folJ vol g a b (.lp q .ready none l) (S, F)⟩ True (aw_region hT ?_) (fun _ => ?_)
      · refine callP (af_in [0] wt rfl rfl rfl) ?_
        exact ⟨wk_keep [0, 1, 2, 4, 5], trivial⟩
      obtain ⟨ix, hixe⟩ : ∃ ix, ix = idxS S C 0 := ⟨_, rfl⟩
      rw [← hixe] at wi hix
      refine aw_cut ⟨⟨84, [(0, .yld 8), (1, .p (.box [.raw (.int .i64 start)])), (2, .ref 1 0), (4, i64 seq), (5, .p (.sl 7 (pX C))), (6, i64 ix)]⟩, folJ vol g a b (.lp q .ready none l) (S, F)⟩ True (aw_region hT ?_) (fun _ => ?_)
      · refine callP (af_in [0] wi rfl rfl rfl) ?_
        exact ⟨wk_keep [0, 1, 2, 4, 5, 6], trivial⟩
      cases hp : pickS S C with
      | none =>
        rw [hp] at hix hgo
        have hix : ix = -1 := hix
        subst hix
        refine aw_seq (aw_seq (aw_region hT ?_))
        refine aw_cond ?_
        refine aw_seq ?_
        refine aw_draw [12] [] hT follows_mixed (by rfl) ?_
        refine boolI (fun h1 => ?_) (fun h1 => ?_)
        · have h1 : ((((pX C).length : Nat) : Int) == 0) = true := h1
          have hC : C.isEmpty = true := by
            have : ((pX C).length : Int) = 0 := by simpa using h1
            exact List.isEmpty_iff_length_eq_zero.2 (by omega)
          refine ⟨_, af_in [0] wc rfl rfl rfl, ?_⟩
          refine aw_ret ?_
          exact ⟨_, _, wk_keep [0], by rw [hgo, hC]; rfl⟩
        · have h1 : ((((pX C).length : Nat) : Int) == 0) = false := h1
          have hC : C.isEmpty = false := by
            cases hc : C.isEmpty with
            | false => rfl
            | true =>
              have h2 := List.isEmpty_iff_length_eq_zero.1 hc
              rw [show ((pX C).length : Int) = 0 by omega] at h1
              exact absurd h1 (by decide)
          refine aw_ret ?_
          exact ⟨_, _, wk_keep [0], by rw [hgo, hC]; rfl⟩
      | some p =>
        rw [hp] at hix hgo
        obtain ⟨kk, hik, hxp⟩ := hix
        have hpm := hcm p (List.mem_of_getElem? hxp)
        have hi0 : 0 ≤ ix := by omega
        have hxp2 : (pX C)[ix.toNat]? = some p.pv := by
          rw [show ix.toNat = kk by omega]; exact pX_get hxp
        have ws := ring_Sector vol g 0 p
        have wsl : (p.sector vol g 0).1.length ≤ 1000000 := by
          rw [(sectorP_ok hpm hg hv (Int.le_refl 0) (by omega)).1]
          show (sealB _).length ≤ _
          rw [sealB_len, all_len _ (by show (pcB p).length ≤ 228; have := pcB_len hpm; omega)]; omega
        have wsum := crc_Sum (p.sector vol g 0).1 wsl
        have hgo : X = goS vol g a b n (seq + 1) (⟨p, true, sumP vol g p, S.torn⟩, stepF F p (sumP vol g p)) := hgo
        have esum : ((Crc.sum (p.sector vol g 0).1).toNat : Int) = sumP vol g p := rfl
        rw [esum] at wsum
        refine aw_seq (aw_seq (aw_region hT ?_))
        refine aw_cond (boolI (fun h1 => ?_) (fun h1 => ?_))
        · have h1 := of_decide_eq_true (show decide (ix < 0) = true from h1)
          omega
        refine aw_skip ?_
        generalize p.sector vol g 0 = Y at ws wsum
        obtain ⟨t, f⟩ := Y
        have ws : AF Tryz.prog f_ring_Sector [i64 vol, g.av, i64 0, p.av] [] (Pure (.tup [bA t, i64 f]) []) := ws
        have wsum : AF Tryz.prog f_crc_Sum [bA t] [] (Pure (i64 (sumP vol g p)) []) := wsum
        have wy := fol_pad hl rfl (hy ⟨p, true, sumP vol g p, S.torn⟩ F p (sumP vol g p) k (by omega) hFk hpm)
        generalize hsm : sumP vol g p = sm at wsum hgo wy
        generalize hF2 : stepF F p sm = F2 at hgo wy
        refine aw_cut ⟨⟨84, [(0, .yld 8), (1, .p (.box [.raw (.int .i64 start)])), (2, .ref 1 0), (4, i64 seq), (5, .p (.sl 7 (pX C))), (6, i64 ix), (7, bA t)]⟩, folJ vol g a b (.lp q .ready none l) (S, F)⟩ True ?_ (fun _ => ?_)
        · refine aw_draw [] [] hT follows_mixed (by rfl) ?_
          refine ⟨hi0, optI hxp2 ?_⟩
          refine ⟨_, af_at ws _ rfl rfl, ?_⟩
          exact ⟨wk_keep [0, 1, 2, 4, 5, 6, 7], trivial⟩
        refine aw_cut ⟨⟨84, [(0, .yld 8), (1, .p (.box [.raw (.int .i64 start)])), (2, .ref 1 0), (4, i64 seq)]⟩, folJ vol g a b (.lp q .ready none l) (⟨p, true, sm, S.torn⟩, F)⟩ True ?_ (fun _ => ?_)
        · refine aw_draw [11, 14, 17] [] hT follows_mixed (by rfl) ?_
          refine ⟨hi0, optI hxp2 ?_⟩
          refine ⟨_, af_at wsum _ rfl rfl, ?_⟩
          repeat first | refine ⟨rfl, ?_⟩ | refine ⟨⟨_, af_at wsum _ rfl rfl, rfl⟩, ?_⟩ | refine ⟨⟨hi0, optI hxp2 rfl⟩, ?_⟩
          exact ⟨wk_keep [0, 1, 2, 4], trivial⟩
        refine aw_seq ?_
        refine aw_draw [9] [] hT follows_mixed (by rfl) ?_
        refine ⟨_, _, AY.mono wy (fun r H' h => h), ?_⟩
        refine aw_cond ?_
        refine aw_skip ?_
        exact ⟨_, wk_pickL 8 [0, 1, 2, 3, 4, 5, 6, 7, 8, 11, 12] [0, 1, 2, 4] _ rfl hl rfl rfl rfl, p, sm, F2, hpm, hF2, hgo, rfl⟩
    · rintro _ ⟨p, sm, F2, hp, hF2, hX2, rfl⟩
      refine aw_region hT ?_
      refine ⟨n, by omega, _, wk_keep [0, 1, 2, 4], k + 1, IntKind.i64.wrap (seq + 1), _, _, by omega, ?_, by rw [← hF2]; exact stepF_ok hFk hp _, ?_, rfl⟩
      · rw [wrap64 _ (by omega) (by omega), hseq]; omega
      · rw [wrap64 _ (by omega) (by omega)]; exact hX2
  · have h := of_decide_eq_false (show decide (seq < IntKind.i64.wrap (start + g.w)) = false from h)
    rw [hwW] at h
    have hn : n = 0 := by omega
    subst hn
    refine aw_exit ?_
    exact ⟨_, _, wk_keep [0], by rw [hgo]; rfl⟩
end Go.Proofs.YtinfbclgkghgaaaGreat.AL

/- The layer 11 (ring): what both mirrors tell. -/
namespace Go.Proofs.YtinfbclgkghgaaaGreat.AL
open Go Go.Proofs

structure TailV where
  txs : List Bytes
  next : Int
  chain : Int
  epoch : Int
  deriving DecidableEq
abbrev TailV.cv (t : TailV) : List AV := [.p (.sl 1 (catX t.txs)), i64 t.next, i64 t.chain, i64 t.epoch]
abbrev TailV.av (t : TailV) : AV := .agg t.cv
def TailV.zero : TailV := ⟨[], 0, 0, 0⟩
def Fol.tail (F : Fol) : TailV := ⟨F.txs, F.next, F.chain, F.epoch⟩
def rd0 (chain : Int) : RdS := ⟨Pc.zero, false, chain, false⟩
def fol0 (start chain : Int) : Fol := ⟨[], start, chain, 0, [], 0, 0, false⟩
def logOk (vol : Int) (g : GeoV) (a b : List Bytes) (start chain : Int) : Bool := g.may && ((wordB vol && (wordB start && (wordB chain && true))) && (((a.length : Int) == g.w) && ((b.length : Int) == g.w)))
def followX (vol : Int) (g : GeoV) (a b : List Bytes) (start chain : Int) : RdS × Fol := goS vol g a b g.w.toNat start (rd0 chain, fol0 start chain)
def followB (vol : Int) (g : GeoV) (a b : List Bytes) (start chain : Int) : TailV × Int := match logOk vol g a b start chain with
  | false => (TailV.zero, 1)
  | true => match (followX vol g a b start chain).1.torn with
    | true => (TailV.zero, 22)
    | false => ((followX vol g a b start chain).2.tail, 0)
abbrev folFr : List (Nat × AV) := [(12, .ref 7 0), (14, .ref 0 0), (15, .ref 2 0), (16, .ref 3 0), (17, .ref 4 0), (18, .ref 5 0), (19, .ref 6 0)]

theorem zero_less : LessCL [.p (.raw (.slice none 0 0)), i64 0, i64 0, i64 0] TailV.zero.cv := ⟨.inr (.inr (.inr ⟨1, rfl, rfl⟩)), .inl rfl, .inl rfl, .inl rfl, trivial⟩
theorem catX_snoc1 (l : List Bytes) (s : Bytes) : catX (l ++ [s]) = catX l ++ [[bP s]] := by simp [catX]
theorem nil_lessC (k : Nat) : LessCL [.p (.raw (.slice none 0 0))] [.msl k 1 0 0] := ⟨.inr (.inr (.inl ⟨k, 1, 0, rfl, rfl⟩)), trivial⟩

theorem zero_lessM (k : Nat) : LessCL [.p (.raw (.slice none 0 0)), i64 0, i64 0, i64 0] [.msl k 1 0 0, i64 0, i64 0, i64 0] := ⟨.inr (.inr (.inl ⟨k, 1, 0, rfl, rfl⟩)), .inl rfl, .inl rfl, .inl rfl, trivial⟩
/-- The answer, immutable or with a row of its own. -/
def FolA (fz : Bool) (z : TailV × Int) (r : AV) (H' : List ABlk) : Prop := match fz with
  | true => r = .tup [z.1.av, i64 z.2] ∧ H' = []
  | false => r = .tup [.agg [.msl 0 1 0 (catX z.1.txs).length, i64 z.1.next, i64 z.1.chain, i64 z.1.epoch], i64 z.2] ∧ H' = [.row t_s_u8 1 (catX z.1.txs)]
set_option maxHeartbeats 2000000 in
set_option maxRecDepth 20000 in
theorem ring_FollowG (fz : Bool) (a b : List Bytes) (vol : Int) (g : GeoV) (start chain : Int) (has : ∀ s ∈ a, s.length ≤ 1000000) (hbs : ∀ s ∈ b, s.length ≤ 1000000) :
    AF Tryz.prog f_ring_Follow [.p (.sl 1 (catX a)), .p (.sl 1 (catX b)), i64 vol, g.av, i64 start, i64 chain] [] (fun r H' => ∃ z, z = followB vol g a b start chain ∧ FolA fz z r H') := by
  have eB : followB vol g a b start chain = match logOk vol g a b start chain with
    | false => (TailV.zero, 1)
    | true => match (followX vol g a b start chain).1.torn with
      | true => (TailV.zero, 22)
      | false => ((followX vol g a b start chain).2.tail, 0) := rfl
  have hal := catX_len a
  have hbl := catX_len b
  have eL : logOk vol g a b start chain = (g.may && ([vol, start, chain].all wordB && (((((catX a).length : Nat) : Int) == g.w) && ((((catX b).length : Nat) : Int) == g.w)))) := by rw [hal, hbl]; rfl
  have wm := geo_May g
  have ww := ring_word [vol, start, chain] (by simp)
  generalize followB vol g a b start chain = Z at eB
  refine af_body hT F_ring_Follow rfl rfl N_ring_Follow rfl ?_
  refine aw_seq (aw_region hT ?_)
  refine aw_wk (wk_boxL 0 g.pv rfl rfl) ?_
  refine aw_cut ⟨⟨113, [(0, .p (.sl 1 (catX a))), (1, .p (.sl 1 (catX b))), (2, i64 vol), (4, i64 start), (5, i64 chain), (9, .p (.box g.pv)), (12, .ref 0 0)]⟩, [.cells t_api_Tail [.p (.raw (.slice none 0 0)), i64 0, i64 0, i64 0]]⟩ (logOk vol g a b start chain = true) (aw_seq (aw_regionF (fun k => Nat.beq 7 k) hT ?_)) ?_
  · refine callP (af_at wm _ rfl rfl) ?_
    refine boolI (fun h0 => ?_) (fun h0 => ?_)
    · have h0 : (!g.may) = true := h0
      rw [eL, (Bool.not_eq_true' _).mp h0] at eB
      refine aw_cond ?_
      refine aw_seq (aw_region hT ?_)
      cases fz with
      | true =>
        refine aw_wk (wk_cells 1 _ rfl zero_less) ?_
        refine aw_ret ?_
        exact retPick [] ⟨_, eB.symm, rfl, rfl⟩ rfl
      | false =>
        refine aw_wk (Wk.trans (wk_phantom t_s_u8 1) (wk_cells 1 _ rfl (zero_lessM 2))) ?_
        refine aw_ret ?_
        exact retPick [2] ⟨_, eB.symm, rfl, rfl⟩ rfl
    have h0 : (!g.may) = false := h0
    have h0 := (Bool.not_eq_false' _).mp h0
    refine ⟨⟨rfl, rfl⟩, ?_⟩
    refine callP (af_at ww _ rfl rfl) ?_
    refine boolI (fun h1 => ?_) (fun h1 => ?_)
    · have h1 : (![vol, start, chain].all wordB) = true := h1
      rw [eL, h0, (Bool.not_eq_true' _).mp h1] at eB
      refine aw_cond ?_
      refine aw_seq (aw_region hT ?_)
      cases fz with
      | true =>
        refine aw_wk (wk_cells 1 _ rfl zero_less) ?_
        refine aw_ret ?_
        exact retPick [] ⟨_, eB.symm, rfl, rfl⟩ rfl
      | false =>
        refine aw_wk (Wk.trans (wk_phantom t_s_u8 1) (wk_cells 1 _ rfl (zero_lessM 2))) ?_
        refine aw_ret ?_
        exact retPick [2] ⟨_, eB.symm, rfl, rfl⟩ rfl
    have h1 : (![vol, start, chain].all wordB) = false := h1
    have h1 := (Bool.not_eq_false' _).mp h1
    refine boolI (fun h2 => ?_) (fun h2 => ?_)
    · have h2 : ((((catX a).length : Nat) : Int) != g.w) = true := h2
      have h2 : ((((catX a).length : Nat) : Int) == g.w) = false := by rw [bne, Bool.not_eq_true'] at h2; exact h2
      rw [eL, h0, h1, h2] at eB
      refine aw_cond ?_
      refine aw_seq (aw_region hT ?_)
      cases fz with
      | true =>
        refine aw_wk (wk_cells 1 _ rfl zero_less) ?_
        refine aw_ret ?_
        exact retPick [] ⟨_, eB.symm, rfl, rfl⟩ rfl
      | false =>
        refine aw_wk (Wk.trans (wk_phantom t_s_u8 1) (wk_cells 1 _ rfl (zero_lessM 2))) ?_
        refine aw_ret ?_
        exact retPick [2] ⟨_, eB.symm, rfl, rfl⟩ rfl
    have h2 : ((((catX a).length : Nat) : Int) != g.w) = false := h2
    have h2 : ((((catX a).length : Nat) : Int) == g.w) = true := by rw [bne, Bool.not_eq_false'] at h2; exact h2
    refine aw_cond (boolI (fun h3 => ?_) (fun h3 => ?_))
    · have h3 : ((((catX b).length : Nat) : Int) != g.w) = true := h3
      have h3 : ((((catX b).length : Nat) : Int) == g.w) = false := by rw [bne, Bool.not_eq_true'] at h3; exact h3
      rw [eL, h0, h1, h2, h3] at eB
      refine aw_seq (aw_region hT ?_)
      cases fz with
      | true =>
        refine aw_wk (wk_cells 1 _ rfl zero_less) ?_
        refine aw_ret ?_
        exact retPick [] ⟨_, eB.symm, rfl, rfl⟩ rfl
      | false =>
        refine aw_wk (Wk.trans (wk_phantom t_s_u8 1) (wk_cells 1 _ rfl (zero_lessM 2))) ?_
        refine aw_ret ?_
        exact retPick [2] ⟨_, eB.symm, rfl, rfl⟩ rfl
    have h3 : ((((catX b).length : Nat) : Int) != g.w) = false := h3
    have h3 : ((((catX b).length : Nat) : Int) == g.w) = true := by rw [bne, Bool.not_eq_false'] at h3; exact h3
    exact aw_skip ⟨wk_pick [1] [0, 1, 2, 4, 5, 9, 12] rfl, by rw [eL, h0, h1, h2, h3]; rfl⟩
  intro hok
  rw [hok] at eB
  clear eL wm ww
  unfold logOk wordB at hok
  simp only [Bool.and_eq_true, decide_eq_true_eq, beq_iff_eq] at hok
  obtain ⟨hg, ⟨hv, hs, hc, _⟩, hA, hB⟩ := hok
  have hLog : LogOk vol g a b := ⟨hg, by unfold wordB; simp only [Bool.and_eq_true, decide_eq_true_eq]; exact hv, hA, hB, has, hbs⟩
  refine aw_cut ⟨⟨113, [(4, i64 start), (5, i64 chain), (12, .ref 0 0), (14, .ref 1 0)]⟩, [.cells t_api_Tail [.p (.raw (.slice none 0 0)), i64 0, i64 0, i64 0], rdC vol g a b (rd0 chain)]⟩ True (aw_region hT ?_) (fun _ => ?_)
  · refine ⟨Wk.trans (wk_cells 1 [i64 vol, i64 g.w, i64 g.s, i64 g.k, i64 g.m, .p (.sl 1 (catX a)), .p (.sl 1 (catX b)), i64 0, i64 0, i64 0, i64 0, i64 0, i64 0, bA [], bl false, i64 chain, bl false] rfl ⟨.inl rfl, .inl rfl, .inl rfl, .inl rfl, .inl rfl, .inl rfl, .inl rfl, .inl rfl, .inl rfl, .inl rfl, .inl rfl, .inl rfl, .inl rfl, .inr (.inr (.inr ⟨1, rfl, rfl⟩)), .inl rfl, .inl rfl, .inl rfl, trivial⟩) (wk_pick [0, 1] [4, 5, 12, 14] rfl), trivial⟩
  refine aw_cut ⟨⟨113, [(4, i64 start), (12, .ref 0 0), (14, .ref 1 0), (15, .ref 2 0)]⟩, [.cells t_api_Tail [.p (.raw (.slice none 0 0)), i64 0, i64 0, i64 0], rdC vol g a b (rd0 chain), .cells t_api_Tail [.p (.raw (.slice none 0 0)), i64 start, i64 chain, i64 0]]⟩ True (aw_region hT ?_) (fun _ => ?_)
  · exact ⟨wk_pick [0, 1, 2] [4, 12, 14, 15] rfl, trivial⟩
  refine aw_seq (aw_region hT ?_)
  refine aw_cut ⟨⟨113, [(4, i64 start), (12, .ref 6 0), (14, .ref 0 0), (15, .ref 1 0), (16, .ref 2 0), (17, .ref 3 0), (18, .ref 4 0), (19, .ref 5 0)]⟩, [rdC vol g a b (rd0 chain), .cells t_api_Tail [.msl 7 1 0 0, i64 start, i64 chain, i64 0], .cells t_s_u8 [.msl 8 1 0 0], .cells t_i64 [i64 0], .cells t_i64 [i64 0], .cells t_bool [bl false], .cells t_api_Tail [.p (.raw (.slice none 0 0)), i64 0, i64 0, i64 0], .row t_s_u8 1 [], .row t_u8 1 []]⟩ True (aw_region hT ?_) (fun _ => ?_)
  · refine ⟨Wk.trans (wk_pick [1, 2, 3, 4, 5, 6, 0] [4, 12, 14, 15, 16, 17, 18, 19] rfl) (Wk.trans (wk_phantom t_s_u8 1) (Wk.trans (wk_phantom t_u8 1) (Wk.trans (wk_cells 1 [.msl 7 1 0 0, i64 start, i64 chain, i64 0] rfl ⟨.inr (.inr (.inl ⟨7, 1, 0, rfl, rfl⟩)), .inl rfl, .inl rfl, .inl rfl, trivial⟩) (Wk.trans (wk_cells 2 _ rfl (nil_lessC 8)) (wk_pick [0, 1, 2, 3, 4, 5, 6, 7, 8] [4, 12, 14, 15, 16, 17, 18, 19] rfl))))), trivial⟩
  have eX : followX vol g a b start chain = goS vol g a b g.w.toNat start (rd0 chain, fol0 start chain) := rfl
  have hw := reader_pieces vol g a b (rd0 chain) start
  have x0 : FolOk (fol0 start chain) 0 := ⟨Nat.le_refl _, Nat.le_refl _, Int.le_refl _, Int.le_refl _⟩
  refine aw_cut2 (fun st => st = ⟨⟨113, folFr⟩, folJ vol g a b .dead (followX vol g a b start chain)⟩) (aw_seq (aw_region hT ?_)) ?_
  · refine callP (af_in [0] hw rfl rfl rfl) ?_
    refine aw_block ?_
    refine aw_rangeFunc 8 113 [0, 9, 1, 2, 3, 4, 5, 6, 10, 7, 8] [12, 14, 15, 16, 17, 18, 19, 61] (folJ vol g a b) (fun L (_ : Unit) => folJ vol g a b L (rd0 chain, fol0 start chain)) (rd0 chain, fol0 start chain) (fun x => x = followX vol g a b start chain) (fun _ _ => False) rfl rfl (fun L _ => ⟨rfl, fun _ => rfl⟩) (fun L _ => ⟨rfl, fun _ => rfl⟩) rfl ?_ ?_ ?_
    · refine AFm.mono (pieces_seq vol g a b start (rd0 chain, fol0 start chain) _ _ (belowL_dense (by rfl)) hLog (by omega) (by omega) x0 ?_) ?_
      · intro S F p s k hk hF hp
        refine AYm.mono (ay_roundL (J := folJ vol g a b) (Z := fun L (_ : Unit) => folJ vol g a b L (rd0 chain, fol0 start chain)) (a := (S, F)) (Rnd := fun x => x = (S, stepF F p s)) (Stp := fun _ _ => False) (fun L _ => ⟨rfl, fun _ => rfl⟩) (fun L _ => ⟨rfl, fun _ => rfl⟩) ?_ ?_ rfl rfl ?_) ?_
        · exact fun t u ht => pickF_lt (ks := [12, 14, 15, 16, 17, 18, 19, 61]) rfl ht
        · show ∀ p ∈ [62, 63], p < 113
          decide
        · intro B l hl
          dsimp only
          generalize RecK.mk _ _ _ = q
          refine aw_seq (aw_region hT ?_)
          refine aw_region hT ?_
          refine ⟨rfl, ?_⟩
          refine aw_block ?_
          obtain ⟨txs, next, ch, epoch, tx, index, of_, ended⟩ := F
          obtain ⟨f1, f2, f3, f4⟩ := hF
          have f1 : tx.length ≤ 200 * k := f1
          have f2 : txs.length ≤ k := f2
          have f3 : 0 ≤ index := f3
          have f4 : index ≤ k := f4
          have hpb := (p.of_may hp).2.2.2.2.2.2.2.2.2
          have eS : stepF ⟨txs, next, ch, epoch, tx, index, of_, ended⟩ p s = match odd ⟨txs, next, ch, epoch, tx, index, of_, ended⟩ p with
            | true => ⟨txs, next, ch, p.epoch, tx, index, of_, true⟩
            | false => match index + 1 == p.of_ with
              | true => ⟨txs ++ [tx ++ p.b], p.seq + 1, s, p.epoch, [], 0, p.of_, ended⟩
              | false => ⟨txs, next, ch, p.epoch, tx ++ p.b, index + 1, p.of_, ended⟩ := rfl
          refine aw_cut ⟨⟨113, [(15, .ref 2 0), (16, .ref 3 0), (17, .ref 4 0), (18, .ref 5 0), (19, .ref 6 0), (20, .ref 11 0), (21, i64 s)]⟩, folJ vol g a b (.lp q .busy none l) (S, ⟨txs, next, ch, p.epoch, tx, index, of_, ended⟩) ++ [pcC p]⟩ True (aw_region hT ?_) (fun _ => ?_)
          · exact ⟨wk_keep [15, 16, 17, 18, 19, 20, 21], trivial⟩
          refine aw_cut ⟨⟨113, [(15, .ref 2 0), (16, .ref 3 0), (17, .ref 4 0), (18, .ref 5 0), (19, .ref 6 0), (20, .ref 11 0), (21, i64 s)]⟩, folJ vol g a b (.lp q .busy none l) (S, ⟨txs, next, ch, p.epoch, tx, index, of_, ended⟩) ++ [pcC p]⟩ (odd ⟨txs, next, ch, epoch, tx, index, of_, ended⟩ p = false) (aw_seq (aw_region hT ?_)) ?_
          · refine boolI (fun h0 => ?_) (fun h0 => ?_)
            · have h0 : ended = true := h0
              refine aw_cond ?_
              refine aw_seq (aw_region hT ?_)
              refine aw_exit ?_
              exact ⟨(S, ⟨txs, next, ch, p.epoch, tx, index, of_, true⟩), ⟨113, []⟩, by rw [eS, show odd ⟨txs, next, ch, epoch, tx, index, of_, ended⟩ p = true by unfold odd; simp only; rw [h0]; rfl], wk_pickL 8 [0, 1, 2, 3, 4, 5, 6, 7, 8, 9, 10] [] _ rfl hl rfl rfl rfl⟩
            have h0 : ended = false := h0
            refine boolI (fun h1 => ?_) (fun h1 => ?_)
            · have h1 : (p.index != index) = true := h1
              refine aw_cond ?_
              refine aw_seq (aw_region hT ?_)
              refine aw_exit ?_
              exact ⟨(S, ⟨txs, next, ch, p.epoch, tx, index, of_, true⟩), ⟨113, []⟩, by rw [eS, show odd ⟨txs, next, ch, epoch, tx, index, of_, ended⟩ p = true by unfold odd; simp only; rw [h0, h1]; rfl], wk_pickL 8 [0, 1, 2, 3, 4, 5, 6, 7, 8, 9, 10] [] _ rfl hl rfl rfl rfl⟩
            have h1 : (p.index != index) = false := h1
            refine boolI (fun h2 => ?_) (fun h2 => ?_)
            · have h2 : decide (index > 0) = true := h2
              refine aw_cond (boolI (fun h3 => ?_) (fun h3 => ?_))
              · have h3 : (p.of_ != of_) = true := h3
                refine aw_seq (aw_region hT ?_)
                refine aw_exit ?_
                exact ⟨(S, ⟨txs, next, ch, p.epoch, tx, index, of_, true⟩), ⟨113, []⟩, by rw [eS, show odd ⟨txs, next, ch, epoch, tx, index, of_, ended⟩ p = true by unfold odd; simp only; rw [h0, h1, h2, h3]; rfl], wk_pickL 8 [0, 1, 2, 3, 4, 5, 6, 7, 8, 9, 10] [] _ rfl hl rfl rfl rfl⟩
              · have h3 : (p.of_ != of_) = false := h3
                exact aw_skip ⟨wk_keep [15, 16, 17, 18, 19, 20, 21], by unfold odd; simp only; rw [h0, h1, h2, h3]; rfl⟩
            · have h2 : decide (index > 0) = false := h2
              refine aw_cond ?_
              exact aw_skip ⟨wk_keep [15, 16, 17, 18, 19, 20, 21], by unfold odd; simp only; rw [h0, h1, h2]; rfl⟩
          intro hodd
          rw [hodd] at eS
          have hw1 : IntKind.i64.wrap (index + 1) = index + 1 := wrap64 _ (by omega) (by omega)
          have hw2 : IntKind.i64.wrap (p.seq + 1) = p.seq + 1 := by have := p.of_may hp; exact wrap64 _ (by omega) (by omega)
          have lt1 := bx_len tx
          have lt2 := bx_len p.b
          have lt3 := catX_len txs
          refine aw_cut ⟨⟨113, [(15, .ref 2 0), (16, .ref 3 0), (17, .ref 4 0), (18, .ref 5 0), (19, .ref 6 0), (20, .ref 11 0), (21, i64 s)]⟩, [rdC vol g a b S, .cells t_p_ring_reader [.ref 0 0], .cells t_api_Tail [.msl 9 1 0 (catX txs).length, i64 next, i64 ch, i64 p.epoch], .cells t_s_u8 [.msl 12 1 0 (bx (tx ++ p.b)).length], .cells t_i64 [i64 (IntKind.i64.wrap (index + 1))], .cells t_i64 [i64 p.of_], .cells t_bool [bl ended], .cells t_api_Tail [.p (.raw (.slice none 0 0)), i64 0, i64 0, i64 0], .lp q .busy none l, .row t_s_u8 1 (catX txs), .dead, pcC p, .row t_u8 1 (bx (tx ++ p.b))]⟩ True ?_ (fun _ => ?_)
          · refine aw_draw [3, 8, 9, 10] [] hT follows_mixed (by rfl) ?_
            refine ⟨rfl, ⟨?_, ?_⟩, ?_⟩
            · show ((bx tx).length + (bx p.b).length) * 1 ≤ _
              omega
            · show (bx tx).length + (bx p.b).length ≤ _
              omega
            repeat first | refine ⟨rfl, ?_⟩
            rw [bx_app]
            exact ⟨wk_keep [15, 16, 17, 18, 19, 20, 21], trivial⟩
          rw [hw1]
          refine aw_seq (aw_region hT ?_)
          refine aw_cond (boolI (fun h => ?_) (fun h => ?_))
          · have h : (index + 1 == p.of_) = true := h
            rw [h] at eS
            refine aw_wk (wk_frzC 12 3 0 _ rfl rfl rfl rfl) ?_
            refine aw_cut ⟨⟨113, [(16, .ref 3 0), (17, .ref 4 0)]⟩, [rdC vol g a b S, .cells t_p_ring_reader [.ref 0 0], .cells t_api_Tail [.msl 14 1 0 (catX (txs ++ [tx ++ p.b])).length, i64 (IntKind.i64.wrap (p.seq + 1)), i64 s, i64 p.epoch], .cells t_s_u8 [.p (.sl 1 (bx (tx ++ p.b)))], .cells t_i64 [i64 (index + 1)], .cells t_i64 [i64 p.of_], .cells t_bool [bl ended], .cells t_api_Tail [.p (.raw (.slice none 0 0)), i64 0, i64 0, i64 0], .lp q .busy none l, .dead, .dead, pcC p, .dead, .row t_s_u8 1 [[bP (tx ++ p.b)]], .row t_s_u8 1 (catX (txs ++ [tx ++ p.b]))]⟩ True ?_ (fun _ => ?_)
            · refine aw_draw [3, 4, 10, 12, 14] [] hT follows_mixed (by rfl) ?_
              refine ⟨rfl, ⟨?_, ?_⟩, ?_⟩
              · show ((catX txs).length + 1) * 24 ≤ _
                omega
              · show (catX txs).length + 1 ≤ _
                omega
              repeat first | refine ⟨rfl, ?_⟩
              rw [catX_snoc1]
              exact ⟨wk_keep [16, 17], trivial⟩
            rw [hw2]
            refine aw_region hT ?_
            refine ⟨(S, ⟨txs ++ [tx ++ p.b], p.seq + 1, s, p.epoch, [], 0, p.of_, ended⟩), ⟨113, []⟩, by rw [eS], ?_⟩
            exact Wk.trans (wk_phantom t_u8 1) (Wk.trans (wk_cells 3 _ rfl (nil_lessC 15)) (wk_pickL 8 [0, 1, 2, 3, 4, 5, 6, 7, 8, 14, 15] [] _ rfl hl rfl rfl rfl))
          · have h : (index + 1 == p.of_) = false := h
            rw [h] at eS
            refine aw_skip ?_
            exact ⟨(S, ⟨txs, next, ch, p.epoch, tx ++ p.b, index + 1, p.of_, ended⟩), ⟨113, []⟩, by rw [eS], wk_pickL 8 [0, 1, 2, 3, 4, 5, 6, 7, 8, 9, 12] [] _ rfl hl rfl rfl rfl⟩
        · rintro r H' (⟨hr, a', rfl, hH⟩ | ⟨hr, c, z, h3, hH⟩)
          · exact ⟨hr, hH⟩
          · exact h3.elim
      · rintro r H' rfl
        exact .inl ⟨_, rfl, rfl⟩
    · rintro x hx
      have hx : x = followX vol g a b start chain := hx
      subst hx
      exact ⟨_, wk_pick [0, 1, 2, 3, 4, 5, 6, 7, 8, 9, 10] [12, 14, 15, 16, 17, 18, 19] rfl, rfl⟩
    · intro _ _ h; exact h.elim
  rintro _ rfl
  generalize followX vol g a b start chain = X at eB
  obtain ⟨S, F⟩ := X
  obtain ⟨last, some_, sum, torn⟩ := S
  obtain ⟨txs, next, ch, epoch, tx, index, of_, ended⟩ := F
  have eB : Z = match (generalizing := false) torn with
    | true => (TailV.zero, 22)
    | false => (⟨txs, next, ch, epoch⟩, 0) := eB
  refine aw_seq (aw_seq (aw_region hT ?_))
  refine aw_cond (boolI (fun h => ?_) (fun h => ?_))
  · have h : torn = true := h
    rw [h] at eB
    refine aw_seq (aw_region hT ?_)
    cases fz with
    | true =>
      refine aw_wk (wk_cells 7 _ rfl zero_less) ?_
      refine aw_ret ?_
      exact retPick [] ⟨_, eB.symm, rfl, rfl⟩ rfl
    | false =>
      refine aw_wk (Wk.trans (wk_phantom t_s_u8 1) (wk_cells 7 _ rfl (zero_lessM 11))) ?_
      refine aw_ret ?_
      exact retPick [11] ⟨_, eB.symm, rfl, rfl⟩ rfl
  · have h : torn = false := h
    rw [h] at eB
    refine aw_skip ?_
    cases fz with
    | true =>
      refine aw_wk (wk_frzC 9 2 0 _ rfl rfl rfl rfl) ?_
      refine aw_seq (aw_region hT ?_)
      refine aw_ret ?_
      exact retPick [] ⟨_, eB.symm, rfl, rfl⟩ rfl
    | false =>
      refine aw_seq (aw_region hT ?_)
      refine aw_ret ?_
      exact retPick [9] ⟨_, eB.symm, rfl, rfl⟩ rfl
theorem ring_Follow (a b : List Bytes) (vol : Int) (g : GeoV) (start chain : Int) (has : ∀ s ∈ a, s.length ≤ 1000000) (hbs : ∀ s ∈ b, s.length ≤ 1000000) :
    AF Tryz.prog f_ring_Follow [.p (.sl 1 (catX a)), .p (.sl 1 (catX b)), i64 vol, g.av, i64 start, i64 chain] [] (Pure (.tup [(followB vol g a b start chain).1.av, i64 (followB vol g a b start chain).2]) []) :=
  AF.mono (ring_FollowG true a b vol g start chain has hbs) (by rintro r H' ⟨z, rfl, h1, h2⟩; exact ⟨h1, h2⟩)
end Go.Proofs.YtinfbclgkghgaaaGreat.AL

/- The document's layer 11: does a piece go on; is a sector clean (and what a log tells, plain). -/
namespace Go.Proofs.YtinfbclgkghgaaaGreat.AL
open Go Go.Proofs

def lastR (l : List Pc) : Pc := l.getLastD Pc.zero
def fitsR (l : List Pc) (sum : Int) (p : Pc) : Bool := match p.chain != sum with
  | true => false
  | false => match l.isEmpty with
    | true => true
    | false => match p.epoch == (lastR l).epoch with
      | true => p.frm == (lastR l).frm
      | false => decide (p.epoch > (lastR l).epoch) && p.frm == p.seq
/-- The pieces that were taken, as the reader knows them. -/
def rdOf (l : List Pc) (sum : Int) : RdS := ⟨lastR l, !l.isEmpty, sum, false⟩
theorem fitsR_eq (l : List Pc) (sum : Int) (p : Pc) (h : 0 ≤ p.epoch) : fitsR l sum p = fitsS (rdOf l sum) p := by
  unfold fitsR fitsS rdOf
  cases h1 : p.chain != sum with
  | true => rfl
  | false =>
    simp only [Bool.false_or]
    cases h2 : l.isEmpty with
    | true =>
      have : l = [] := List.isEmpty_iff.1 h2
      subst this
      rw [decide_eq_false (show ¬ p.epoch < (lastR []).epoch by show ¬ p.epoch < 0; omega)]
      rfl
    | false =>
      cases h3 : p.epoch == (lastR l).epoch with
      | true =>
        have h3 : p.epoch = (lastR l).epoch := by simpa using h3
        rw [decide_eq_false (show ¬ p.epoch < (lastR l).epoch by omega)]
        rfl
      | false =>
        have h3 : p.epoch ≠ (lastR l).epoch := by simpa using h3
        by_cases h4 : p.epoch < (lastR l).epoch
        · rw [decide_eq_true h4, decide_eq_false (show ¬ p.epoch > (lastR l).epoch by omega)]; rfl
        · rw [decide_eq_false h4, decide_eq_true (show p.epoch > (lastR l).epoch by omega)]; rfl
theorem lastR_get {l : List Pc} (h : l ≠ []) : l[l.length - 1]? = some (lastR l) := by
  unfold lastR
  rw [List.getLastD_eq_getLast?, List.getLast?_eq_getElem?]
  have : l.length - 1 < l.length := by have := List.length_pos_iff.2 h; omega
  rw [List.getElem?_eq_getElem this]; rfl
theorem lastR_snoc (l : List Pc) (p : Pc) : lastR (l ++ [p]) = p := by unfold lastR; simp

set_option maxRecDepth 20000 in
theorem ref11_fits (p : Pc) (l : List Pc) (sum : Int) (hl : l.length ≤ 1000) : AF Tryz.prog f_ref11_fits [p.av, .p (.sl 7 (pX l)), i64 sum] [] (Pure (bl (fitsR l sum p)) []) := by
  refine AF.mono (R := fun r H' => ∃ z, z = fitsR l sum p ∧ r = bl z ∧ H' = []) ?_ (by rintro r H' ⟨b, rfl, rfl, rfl⟩; exact ⟨rfl, rfl⟩)
  have eF : fitsR l sum p = match p.chain != sum with
    | true => false
    | false => match l.isEmpty with
      | true => true
      | false => match p.epoch == (lastR l).epoch with
        | true => p.frm == (lastR l).frm
        | false => decide (p.epoch > (lastR l).epoch) && p.frm == p.seq := rfl
  have hpl := pX_len l
  generalize fitsR l sum p = Z at eF
  refine af_body hT F_ref11_fits rfl rfl N_ref11_fits rfl ?_
  refine aw_seq (aw_region hT ?_)
  refine aw_wk (wk_boxL 0 p.pv rfl rfl) ?_
  refine aw_cut ⟨⟨43, [(1, .p (.sl 7 (pX l))), (3, .p (.box p.pv))]⟩, []⟩ ((p.chain != sum) = false) (aw_seq (aw_region hT ?_)) ?_
  · refine aw_cond (boolI (fun h => ?_) (fun h => ?_))
    · have h : (p.chain != sum) = true := h
      rw [h] at eF
      refine aw_seq (aw_region hT ?_)
      refine aw_ret ?_
      exact retPick [] ⟨_, eF.symm, rfl, rfl⟩ rfl
    · have h : (p.chain != sum) = false := h
      exact aw_skip ⟨wk_pick [] [1, 3] rfl, h⟩
  intro h0
  rw [h0] at eF
  refine aw_cut ⟨⟨43, [(1, .p (.sl 7 (pX l))), (3, .p (.box p.pv))]⟩, []⟩ (l ≠ []) (aw_seq (aw_region hT ?_)) ?_
  · refine aw_cond (boolI (fun h => ?_) (fun h => ?_))
    · have h : ((((pX l).length : Nat) : Int) == 0) = true := h
      have h : l.isEmpty = true := by
        have : ((pX l).length : Int) = 0 := by simpa using h
        exact List.isEmpty_iff_length_eq_zero.2 (by omega)
      rw [h] at eF
      refine aw_seq (aw_region hT ?_)
      refine aw_ret ?_
      exact retPick [] ⟨_, eF.symm, rfl, rfl⟩ rfl
    · have h : ((((pX l).length : Nat) : Int) == 0) = false := h
      refine aw_skip ⟨wk_pick [] [1, 3] rfl, fun e => ?_⟩
      rw [show ((pX l).length : Int) = 0 by rw [hpl, e]; rfl] at h
      exact absurd h (by decide)
  intro hne
  have hpos := List.length_pos_iff.2 hne
  rw [show l.isEmpty = false by cases h : l.isEmpty with | false => rfl | true => exact absurd (List.isEmpty_iff.1 h) hne] at eF
  have hw : IntKind.i64.wrap (((pX l).length : Int) - 1) = ((l.length - 1 : Nat) : Int) := by rw [hpl, wrap64 _ (by omega) (by omega)]; omega
  have hx := lastR_get hne
  generalize lastR l = q at hx eF
  have hxp : (pX l)[(IntKind.i64.wrap (((pX l).length : Int) - 1)).toNat]? = some q.pv := by rw [hw, Int.toNat_natCast]; exact pX_get hx
  refine aw_cut ⟨⟨43, [(3, .p (.box p.pv)), (7, .ref 0 0)]⟩, [pcC q]⟩ True (aw_region hT ?_) (fun _ => ?_)
  · refine ⟨by rw [hw]; exact Int.natCast_nonneg _, optI hxp ?_⟩
    exact ⟨wk_pick [0] [3, 7] rfl, trivial⟩
  refine aw_seq (aw_seq (aw_region hT ?_))
  refine aw_cond (boolI (fun h => ?_) (fun h => ?_))
  · have h : (p.epoch == q.epoch) = true := h
    rw [h] at eF
    refine aw_seq (aw_region hT ?_)
    refine aw_ret ?_
    exact retPick [] ⟨_, eF.symm, rfl, rfl⟩ rfl
  have h : (p.epoch == q.epoch) = false := h
  rw [h] at eF
  refine aw_skip ?_
  refine aw_seq (aw_region hT ?_)
  refine boolI (fun h1 => ?_) (fun h1 => ?_)
  · have h1 : decide (p.epoch > q.epoch) = true := h1
    refine aw_ret ?_
    exact retPick [] ⟨_, by rw [eF, h1]; rfl, rfl, rfl⟩ rfl
  · have h1 : decide (p.epoch > q.epoch) = false := h1
    refine aw_ret ?_
    exact retPick [] ⟨_, by rw [eF, h1]; rfl, rfl, rfl⟩ rfl

def cleanR (vol addr : Int) (s : Bytes) : Bool := (openB s).2 == 0 && ((openB s).1.vol == vol && (openB s).1.addr == addr)
theorem ref11_clean (s : Bytes) (vol addr : Int) (hs : s.length ≤ 1000000) : AF Tryz.prog f_ref11_clean [bA s, i64 vol, i64 addr] [] (Pure (bl (cleanR vol addr s)) []) := by
  refine AF.mono (R := fun r H' => ∃ z, z = cleanR vol addr s ∧ r = bl z ∧ H' = []) ?_ (by rintro r H' ⟨b, rfl, rfl, rfl⟩; exact ⟨rfl, rfl⟩)
  have wo := ref07_Open s hs
  have eC : cleanR vol addr s = ((openB s).2 == 0 && ((openB s).1.vol == vol && (openB s).1.addr == addr)) := rfl
  generalize cleanR vol addr s = Z at eC
  generalize openB s = X at wo eC
  obtain ⟨B, e⟩ := X
  have wo : AF Tryz.prog f_ref07_Open [bA s] [] (Pure (.tup [B.av, i64 e]) []) := wo
  have eC : Z = (e == 0 && (B.vol == vol && B.addr == addr)) := eC
  refine af_body hT F_ref11_clean rfl rfl N_ref11_clean rfl ?_
  refine aw_seq (aw_region hT ?_)
  refine aw_cut ⟨⟨28, [(1, i64 vol), (2, i64 addr), (7, .ref 0 0), (8, i64 e)]⟩, [blkC B]⟩ True (aw_region hT ?_) (fun _ => ?_)
  · refine callP (af_at wo _ rfl rfl) ?_
    exact ⟨wk_pick [0] [1, 2, 7, 8] rfl, trivial⟩
  refine aw_seq (aw_region hT ?_)
  refine boolI (fun h0 => ?_) (fun h0 => ?_)
  · have h0 : (e == 0) = true := h0
    refine boolI (fun h1 => ?_) (fun h1 => ?_)
    · have h1 : (B.vol == vol) = true := h1
      refine aw_ret ?_
      exact retPick [] ⟨_, by rw [eC, h0, h1]; rfl, rfl, rfl⟩ rfl
    · have h1 : (B.vol == vol) = false := h1
      refine aw_ret ?_
      exact retPick [] ⟨_, by rw [eC, h0, h1]; rfl, rfl, rfl⟩ rfl
  · have h0 : (e == 0) = false := h0
    refine aw_ret ?_
    exact retPick [] ⟨_, by rw [eC, h0]; rfl, rfl, rfl⟩ rfl

/-! What a log tells, as a list of pieces. -/
def goL (vol : Int) (g : GeoV) (a b : List Bytes) : Nat → Int → RdS → List (Pc × Int) × Bool
  | 0, _, _ => ([], false)
  | n + 1, seq, S => match pickS S (cands vol g a b seq) with
    | none => ([], (cands vol g a b seq).isEmpty && !cleanB vol g a b (seq.tmod g.w))
    | some p => ((p, sumP vol g p) :: (goL vol g a b n (seq + 1) ⟨p, true, sumP vol g p, false⟩).1, (goL vol g a b n (seq + 1) ⟨p, true, sumP vol g p, false⟩).2)
def foldF (F : Fol) : List (Pc × Int) → Fol
  | [] => F
  | x :: r => foldF (stepF F x.1 x.2) r
theorem goS_goL (vol : Int) (g : GeoV) (a b : List Bytes) : ∀ (n : Nat) (seq : Int) (S : RdS) (F : Fol), S.torn = false → (goS vol g a b n seq (S, F)).1.torn = (goL vol g a b n seq S).2 ∧ (goS vol g a b n seq (S, F)).2 = foldF F (goL vol g a b n seq S).1
  | 0, seq, S, F, h => ⟨h, rfl⟩
  | n + 1, seq, S, F, h => by
    unfold goS goL
    simp only
    cases hp : pickS S (cands vol g a b seq) with
    | none => exact ⟨rfl, rfl⟩
    | some p =>
      simp only
      rw [h]
      exact goS_goL vol g a b n (seq + 1) ⟨p, true, sumP vol g p, false⟩ _ rfl
theorem followB_eq (vol : Int) (g : GeoV) (a b : List Bytes) (start chain : Int) : followB vol g a b start chain = match logOk vol g a b start chain with
  | false => (TailV.zero, 1)
  | true => match (goL vol g a b g.w.toNat start (rd0 chain)).2 with
    | true => (TailV.zero, 22)
    | false => ((foldF (fol0 start chain) (goL vol g a b g.w.toNat start (rd0 chain)).1).tail, 0) := by
  obtain ⟨h1, h2⟩ := goS_goL vol g a b g.w.toNat start (rd0 chain) (fol0 start chain) rfl
  unfold followB followX
  rw [h1, h2] <;> rfl
end Go.Proofs.YtinfbclgkghgaaaGreat.AL

/- The document's layer 11: what both mirrors tell. -/
namespace Go.Proofs.YtinfbclgkghgaaaGreat.AL
open Go Go.Proofs

def lst (x : List (Pc × Int)) : List Pc := x.map (·.1)
def sms (x : List (Pc × Int)) : List Int := x.map (·.2)
/-- The transactions of pieces. -/
def segOk (n : Int) : List Pc → Int → Bool
  | [], _ => true
  | p :: r, k => match p.index != k || p.of_ != n with | true => false | false => segOk n r (k + 1)
def catB (l : List Pc) : Bytes := (l.map (·.b)).flatten
def lastE (l : List (Pc × Int)) : Int := match l.getLast? with | some x => x.1.epoch | none => 0
def grpL : Nat → List (Pc × Int) → TailV → TailV
  | 0, _, t => t
  | _ + 1, [], t => t
  | f + 1, (p, s) :: r, t => match decide (p.of_ > ((r.length + 1 : Nat) : Int)) || !segOk p.of_ (lst (((p, s) :: r).take p.of_.toNat)) 0 with
    | true => t
    | false => grpL f (((p, s) :: r).drop p.of_.toNat) { t with txs := t.txs ++ [catB (lst (((p, s) :: r).take p.of_.toNat))], next := (lastR (lst (((p, s) :: r).take p.of_.toNat))).seq + 1, chain := ((sms (((p, s) :: r).take p.of_.toNat)).getLastD 0) }
def groupB (l : List (Pc × Int)) (start chain : Int) : TailV := grpL l.length l ⟨[], start, chain, lastE l⟩

/-- The contract of ref11.grouped, to be proved. -/
def GroupedOk : Prop := ∀ (l : List (Pc × Int)) (start chain : Int), l.length ≤ 512 → (∀ x ∈ l, x.1.may = true) → AF Tryz.prog f_ref11_grouped [.p (.sl 7 (pX (lst l))), .p (.sl 1 (ix (sms l))), i64 start, i64 chain] [] (Pure (groupB l start chain).av [])

theorem find2 (S : RdS) (x y : Pc) : pickS S [x, y] = match fitsS S x with | true => some x | false => match fitsS S y with | true => some y | false => none := by
  unfold pickS
  rw [List.find?_cons, List.find?_cons]
  cases fitsS S x <;> cases fitsS S y <;> rfl
theorem find1 (S : RdS) (x : Pc) : pickS S [x] = match fitsS S x with | true => some x | false => none := by
  unfold pickS
  rw [List.find?_cons]
  cases fitsS S x <;> rfl

def refB (vol : Int) (g : GeoV) (a b : List Bytes) (start chain : Int) : TailV × Int := match logOk vol g a b start chain with
  | false => (TailV.zero, 1)
  | true => match (goL vol g a b g.w.toNat start (rd0 chain)).2 with
    | true => (TailV.zero, 22)
    | false => (groupB (goL vol g a b g.w.toNat start (rd0 chain)).1 start chain, 0)
theorem goL_may (vol : Int) (g : GeoV) (a b : List Bytes) : ∀ (n : Nat) (seq : Int) (S : RdS), (goL vol g a b n seq S).1.length ≤ n ∧ ∀ x ∈ (goL vol g a b n seq S).1, x.1.may = true
  | 0, _, _ => ⟨Nat.le_refl _, fun x hx => by simp [goL] at hx⟩
  | n + 1, seq, S => by
    unfold goL
    cases hp : pickS S (cands vol g a b seq) with
    | none => exact ⟨Nat.zero_le _, fun x hx => by simp at hx⟩
    | some p =>
      obtain ⟨h1, h2⟩ := goL_may vol g a b n (seq + 1) ⟨p, true, sumP vol g p, false⟩
      refine ⟨by simp only [List.length_cons]; omega, fun x hx => ?_⟩
      simp only [List.mem_cons] at hx
      rcases hx with rfl | hx
      · unfold pickS at hp
        exact (cands_may (List.mem_of_find?_eq_some hp)).1
      · exact h2 x hx

abbrev tailN : ABlk := .cells t_api_Tail [.p (.raw (.slice none 0 0)), i64 0, i64 0, i64 0]

set_option maxHeartbeats 2000000 in
set_option maxRecDepth 20000 in
theorem ref11_Follow (hgr : GroupedOk) (a b : List Bytes) (vol : Int) (g : GeoV) (start chain : Int) (has : ∀ s ∈ a, s.length ≤ 1000000) (hbs : ∀ s ∈ b, s.length ≤ 1000000) :
    AF Tryz.prog f_ref11_Follow [.p (.sl 1 (catX a)), .p (.sl 1 (catX b)), i64 vol, g.av, i64 start, i64 chain] [] (Pure (.tup [(refB vol g a b start chain).1.av, i64 (refB vol g a b start chain).2]) []) := by
  refine AF.mono (R := fun r H' => ∃ z, z = refB vol g a b start chain ∧ r = .tup [z.1.av, i64 z.2] ∧ H' = []) ?_ (by rintro r H' ⟨b, rfl, rfl, rfl⟩; exact ⟨rfl, rfl⟩)
  have eB : refB vol g a b start chain = match logOk vol g a b start chain with
    | false => (TailV.zero, 1)
    | true => match (goL vol g a b g.w.toNat start (rd0 chain)).2 with
      | true => (TailV.zero, 22)
      | false => (groupB (goL vol g a b g.w.toNat start (rd0 chain)).1 start chain, 0) := rfl
  have hal := catX_len a
  have hbl := catX_len b
  have eL : logOk vol g a b start chain = (g.may && ((wordB vol && (wordB start && (wordB chain && true))) && (((((catX a).length : Nat) : Int) == g.w) && ((((catX b).length : Nat) : Int) == g.w)))) := by rw [hal, hbl]; rfl
  have wm := ref08_May g
  have w1 := ref11_word vol
  have w2 := ref11_word start
  have w3 := ref11_word chain
  generalize refB vol g a b start chain = Z at eB
  refine af_body hT F_ref11_Follow rfl rfl N_ref11_Follow rfl ?_
  refine aw_seq (aw_region hT ?_)
  refine aw_wk (wk_boxL 0 g.pv rfl rfl) ?_
  refine aw_cut ⟨⟨201, [(0, .p (.sl 1 (catX a))), (1, .p (.sl 1 (catX b))), (2, i64 vol), (4, i64 start), (5, i64 chain), (9, .p (.box g.pv)), (12, .ref 0 0), (14, bl g.may)]⟩, [tailN]⟩ True (aw_region hT ?_) (fun _ => ?_)
  · refine callP (af_at wm _ rfl rfl) ?_
    exact ⟨wk_pick [1] [0, 1, 2, 4, 5, 9, 12, 14] rfl, trivial⟩
  refine aw_cut ⟨⟨201, [(0, .p (.sl 1 (catX a))), (1, .p (.sl 1 (catX b))), (2, i64 vol), (4, i64 start), (5, i64 chain), (9, .p (.box g.pv)), (12, .ref 0 0)]⟩, [tailN]⟩ (logOk vol g a b start chain = true) (aw_seq (aw_region hT ?_)) ?_
  · refine boolI (fun h0 => ?_) (fun h0 => ?_)
    · have h0 : (!g.may) = true := h0
      refine aw_cond ?_
      rw [eL, (Bool.not_eq_true' _).mp h0] at eB
      refine aw_seq (aw_region hT ?_)
      refine aw_wk (wk_cells 0 _ rfl zero_less) ?_
      refine aw_ret ?_
      exact retPick [] ⟨_, eB.symm, rfl, rfl⟩ rfl
    have h0 : (!g.may) = false := h0
    have h0 := (Bool.not_eq_false' _).mp h0
    refine callP (af_at w1 _ rfl rfl) ?_
    refine boolI (fun h1 => ?_) (fun h1 => ?_)
    · have h1 : (!wordB vol) = true := h1
      refine aw_cond ?_
      rw [eL, h0, (Bool.not_eq_true' _).mp h1] at eB
      refine aw_seq (aw_region hT ?_)
      refine aw_wk (wk_cells 0 _ rfl zero_less) ?_
      refine aw_ret ?_
      exact retPick [] ⟨_, eB.symm, rfl, rfl⟩ rfl
    have h1 : (!wordB vol) = false := h1
    have h1 := (Bool.not_eq_false' _).mp h1
    refine callP (af_at w2 _ rfl rfl) ?_
    refine boolI (fun h2 => ?_) (fun h2 => ?_)
    · have h2 : (!wordB start) = true := h2
      refine aw_cond ?_
      rw [eL, h0, h1, (Bool.not_eq_true' _).mp h2] at eB
      refine aw_seq (aw_region hT ?_)
      refine aw_wk (wk_cells 0 _ rfl zero_less) ?_
      refine aw_ret ?_
      exact retPick [] ⟨_, eB.symm, rfl, rfl⟩ rfl
    have h2 : (!wordB start) = false := h2
    have h2 := (Bool.not_eq_false' _).mp h2
    refine callP (af_at w3 _ rfl rfl) ?_
    refine boolI (fun h3 => ?_) (fun h3 => ?_)
    · have h3 : (!wordB chain) = true := h3
      refine aw_cond ?_
      rw [eL, h0, h1, h2, (Bool.not_eq_true' _).mp h3] at eB
      refine aw_seq (aw_region hT ?_)
      refine aw_wk (wk_cells 0 _ rfl zero_less) ?_
      refine aw_ret ?_
      exact retPick [] ⟨_, eB.symm, rfl, rfl⟩ rfl
    have h3 : (!wordB chain) = false := h3
    have h3 := (Bool.not_eq_false' _).mp h3
    refine boolI (fun h4 => ?_) (fun h4 => ?_)
    · have h4 : ((((catX a).length : Nat) : Int) != g.w) = true := h4
      have h4 : ((((catX a).length : Nat) : Int) == g.w) = false := by rw [bne, Bool.not_eq_true'] at h4; exact h4
      refine aw_cond ?_
      rw [eL, h0, h1, h2, h3, h4] at eB
      refine aw_seq (aw_region hT ?_)
      refine aw_wk (wk_cells 0 _ rfl zero_less) ?_
      refine aw_ret ?_
      exact retPick [] ⟨_, eB.symm, rfl, rfl⟩ rfl
    have h4 : ((((catX a).length : Nat) : Int) != g.w) = false := h4
    have h4 : ((((catX a).length : Nat) : Int) == g.w) = true := by rw [bne, Bool.not_eq_false'] at h4; exact h4
    refine aw_cond (boolI (fun h5 => ?_) (fun h5 => ?_))
    · have h5 : ((((catX b).length : Nat) : Int) != g.w) = true := h5
      have h5 : ((((catX b).length : Nat) : Int) == g.w) = false := by rw [bne, Bool.not_eq_true'] at h5; exact h5
      rw [eL, h0, h1, h2, h3, h4, h5] at eB
      refine aw_seq (aw_region hT ?_)
      refine aw_wk (wk_cells 0 _ rfl zero_less) ?_
      refine aw_ret ?_
      exact retPick [] ⟨_, eB.symm, rfl, rfl⟩ rfl
    have h5 : ((((catX b).length : Nat) : Int) != g.w) = false := h5
    have h5 : ((((catX b).length : Nat) : Int) == g.w) = true := by rw [bne, Bool.not_eq_false'] at h5; exact h5
    exact aw_skip ⟨wk_pick [0] [0, 1, 2, 4, 5, 9, 12] rfl, by rw [eL, h0, h1, h2, h3, h4, h5]; rfl⟩
  intro hok
  rw [hok] at eB
  clear eL wm w1 w2 w3
  unfold logOk wordB at hok
  simp only [Bool.and_eq_true, decide_eq_true_eq, beq_iff_eq] at hok
  obtain ⟨hg, ⟨hv, hs, hc, _⟩, hA, hB⟩ := hok
  have hvw : wordB vol = true := by unfold wordB; simp only [Bool.and_eq_true, decide_eq_true_eq]; exact hv
  obtain ⟨g1, g2, _⟩ := g.of_may hg
  have hwW : IntKind.i64.wrap (start + g.w) = start + g.w := wrap64 _ (by omega) (by omega)
  obtain ⟨G, hG⟩ : ∃ G, G = goL vol g a b g.w.toNat start (rd0 chain) := ⟨_, rfl⟩
  have hGm := goL_may vol g a b g.w.toNat start (rd0 chain)
  rw [← hG] at eB hGm
  have eB : Z = match G.2 with | true => (TailV.zero, 22) | false => (groupB G.1 start chain, 0) := eB
  refine aw_seq (aw_region hT ?_)
  refine aw_seq (aw_region hT ?_)
  refine aw_cut ⟨⟨201, [(0, .p (.sl 1 (catX a))), (1, .p (.sl 1 (catX b))), (2, i64 vol), (4, i64 start), (5, i64 chain), (9, .p (.box g.pv)), (12, .ref 0 0), (15, .msl 1 7 0 0), (16, .msl 2 1 0 0), (17, i64 chain)]⟩, [tailN, .row t_api_Piece 7 [], .row t_i64 1 []]⟩ True (aw_region hT ?_) (fun _ => ?_)
  · exact ⟨Wk.trans (wk_phantom t_api_Piece 7) (Wk.trans (wk_phantom t_i64 1) (Wk.trans (wk_nil 15 1 7 0 rfl) (Wk.trans (wk_nil 16 2 1 0 rfl) (wk_pick [0, 1, 2] [0, 1, 2, 4, 5, 9, 12, 15, 16, 17] rfl)))), trivial⟩
  refine aw_cut ⟨⟨201, [(4, i64 start), (5, i64 chain), (12, .ref 0 0), (15, .p (.sl 7 (pX (lst G.1)))), (16, .p (.sl 1 (ix (sms G.1))))]⟩, [tailN]⟩ (G.2 = false) (aw_seq (aw_region hT ?_)) ?_
  · refine aw_block ?_
    refine aw_loopW (fun n st => ∃ (k : Nat) (seq sm : Int) (L : List (Pc × Int)), n + k = g.w.toNat ∧ seq = start + k ∧ L.length = k ∧ G = (L ++ (goL vol g a b n seq (rdOf (lst L) sm)).1, (goL vol g a b n seq (rdOf (lst L) sm)).2) ∧ st = ⟨⟨201, [(0, .p (.sl 1 (catX a))), (1, .p (.sl 1 (catX b))), (2, i64 vol), (4, i64 start), (5, i64 chain), (9, .p (.box g.pv)), (12, .ref 0 0), (15, .msl 1 7 0 (pX (lst L)).length), (16, .msl 2 1 0 (ix (sms L)).length), (17, i64 sm), (18, i64 seq)]⟩, [tailN, .row t_api_Piece 7 (pX (lst L)), .row t_i64 1 (ix (sms L))]⟩) g.w.toNat ⟨⟨201, _⟩, _⟩ (wk_pick [0, 1, 2] [0, 1, 2, 4, 5, 9, 12, 15, 16, 17, 18] rfl) ⟨0, start, chain, [], by omega, by omega, rfl, hG, rfl⟩ ?_
    rintro n st ⟨k, seq, sm, L, hnk, hseq, hLk, hGo, rfl⟩
    have lp := pX_len (lst L)
    have hlp : (pX (lst L)).length = (pX (lst L)).length := rfl
    have ll : (lst L).length = L.length := by unfold lst; rw [List.length_map]
    have ls : (sms L).length = L.length := by unfold sms; rw [List.length_map]
    have li := ixl (sms L)
    refine aw_seq (aw_seq (aw_region hT ?_))
    refine aw_cond (boolI (fun h => ?_) (fun h => ?_))
    · have h := of_decide_eq_true (show decide (seq < IntKind.i64.wrap (start + g.w)) = true from h)
      rw [hwW] at h
      obtain ⟨n, rfl⟩ : ∃ m, n = m + 1 := ⟨n - 1, by omega⟩
      obtain ⟨s0, s1⟩ := slot_ok hg (show 0 ≤ seq by omega)
      have ha2 := atS_get s0 (by omega : seq.tmod g.w < a.length)
      have hb2 := atS_get s0 (by omega : seq.tmod g.w < b.length)
      have w0 := ref11_Told _ vol g 0 (seq.tmod g.w) (has _ ha2.2)
      have w1 := ref11_Told _ vol g 1 (seq.tmod g.w) (hbs _ hb2.2)
      have q0 := ref11_clean _ vol (IntKind.i64.wrap (4 + seq.tmod g.w)) (has _ ha2.2)
      have q1 := ref11_clean _ vol (IntKind.i64.wrap (IntKind.i64.wrap (4 + g.w) + seq.tmod g.w)) (hbs _ hb2.2)
      have eq : cleanB vol g a b (seq.tmod g.w) = (cleanR vol (IntKind.i64.wrap (4 + seq.tmod g.w)) (atS a (seq.tmod g.w)) || cleanR vol (IntKind.i64.wrap (IntKind.i64.wrap (4 + g.w) + seq.tmod g.w)) (atS b (seq.tmod g.w))) := by
        rw [wrap64 (4 + g.w) (by omega) (by omega), wrap64 (4 + g.w + seq.tmod g.w) (by omega) (by omega), wrap64 (4 + seq.tmod g.w) (by omega) (by omega)]
        unfold cleanB cleanM cleanR addrB
        rw [show 4 + 0 * g.w + seq.tmod g.w = 4 + seq.tmod g.w by omega, show 4 + 1 * g.w + seq.tmod g.w = 4 + g.w + seq.tmod g.w by omega]
      have eGo : goL vol g a b (n + 1) seq (rdOf (lst L) sm) = match pickS (rdOf (lst L) sm) (cands vol g a b seq) with
        | none => ([], (cands vol g a b seq).isEmpty && !cleanB vol g a b (seq.tmod g.w))
        | some p => ((p, sumP vol g p) :: (goL vol g a b n (seq + 1) ⟨p, true, sumP vol g p, false⟩).1, (goL vol g a b n (seq + 1) ⟨p, true, sumP vol g p, false⟩).2) := rfl
      rw [eGo] at hGo
      have eC : cands vol g a b seq = sort2 (cand1 vol g 0 a seq ++ cand1 vol g 1 b seq) := rfl
      have c0 : cand1 vol g 0 a seq = match (toldP (atS a (seq.tmod g.w)) vol g 0 (seq.tmod g.w)).2 && (toldP (atS a (seq.tmod g.w)) vol g 0 (seq.tmod g.w)).1.seq == seq with
        | true => [(toldP (atS a (seq.tmod g.w)) vol g 0 (seq.tmod g.w)).1]
        | false => [] := rfl
      have c1 : cand1 vol g 1 b seq = match (toldP (atS b (seq.tmod g.w)) vol g 1 (seq.tmod g.w)).2 && (toldP (atS b (seq.tmod g.w)) vol g 1 (seq.tmod g.w)).1.seq == seq with
        | true => [(toldP (atS b (seq.tmod g.w)) vol g 1 (seq.tmod g.w)).1]
        | false => [] := rfl
      have hCm := fun p (hp : p ∈ cands vol g a b seq) => (cands_may hp).1
      have ha3 := ha2.1
      have hb3 := hb2.1
      clear ha2 hb2 eGo
      generalize cands vol g a b seq = C at hGo eC hCm
      generalize cand1 vol g 0 a seq = C0 at eC c0
      generalize cand1 vol g 1 b seq = C1 at eC c1
      generalize cleanB vol g a b (seq.tmod g.w) = cl at eq hGo
      generalize hsl : seq.tmod g.w = slot at w0 w1 q0 q1 eq c0 c1 ha3 hb3 s0 s1
      generalize toldP (atS a slot) vol g 0 slot = X at w0 c0
      generalize toldP (atS b slot) vol g 1 slot = Y at w1 c1
      generalize cleanR vol (IntKind.i64.wrap (4 + slot)) (atS a slot) = k0 at q0 eq
      generalize cleanR vol (IntKind.i64.wrap (IntKind.i64.wrap (4 + g.w) + slot)) (atS b slot) = k1 at q1 eq
      generalize atS a slot = x at w0 ha3 q0
      generalize atS b slot = y at w1 hb3 q1
      obtain ⟨X, e⟩ := X
      obtain ⟨Y, f⟩ := Y
      have w0 : AF Tryz.prog f_ref11_Told [bA x, i64 vol, g.av, i64 0, i64 slot] [] (Pure (.tup [X.av, bl e]) []) := w0
      have w1 : AF Tryz.prog f_ref11_Told [bA y, i64 vol, g.av, i64 1, i64 slot] [] (Pure (.tup [Y.av, bl f]) []) := w1
      have c0 : C0 = match e && X.seq == seq with | true => [X] | false => [] := c0
      have c1 : C1 = match f && Y.seq == seq with | true => [Y] | false => [] := c1
      have hpk := hGo
      clear hGo
      refine aw_skip ?_
      refine aw_cut2 (fun st => ∃ (p : Pc) (sm2 : Int), p.may = true ∧ pickS (rdOf (lst L) sm) C = some p ∧ sm2 = sumP vol g p ∧ st = ⟨⟨201, [(0, .p (.sl 1 (catX a))), (1, .p (.sl 1 (catX b))), (2, i64 vol), (4, i64 start), (5, i64 chain), (9, .p (.box g.pv)), (12, .ref 0 0), (15, .msl 1 7 0 (pX (lst L ++ [p])).length), (16, .msl 2 1 0 (ix (sms L ++ [sm2])).length), (17, i64 sm2), (18, i64 seq)]⟩, [tailN, .row t_api_Piece 7 (pX (lst L ++ [p])), .row t_i64 1 (ix (sms L ++ [sm2]))]⟩) (aw_block ?_) ?_
      · refine aw_cut ⟨⟨201, [(0, .p (.sl 1 (catX a))), (1, .p (.sl 1 (catX b))), (2, i64 vol), (4, i64 start), (5, i64 chain), (9, .p (.box g.pv)), (12, .ref 0 0), (15, .msl 1 7 0 (pX (lst L)).length), (16, .msl 2 1 0 (ix (sms L)).length), (17, i64 sm), (18, i64 seq), (19, i64 slot)]⟩, [tailN, .row t_api_Piece 7 (pX (lst L)), .row t_i64 1 (ix (sms L))]⟩ True (aw_region hT ?_) (fun _ => ?_)
        · refine neI (y := g.w) (by omega) ?_
          rw [hsl]
          exact ⟨wk_pick [0, 1, 2] [0, 1, 2, 4, 5, 9, 12, 15, 16, 17, 18, 19] rfl, trivial⟩
        refine aw_cut ⟨⟨201, [(0, .p (.sl 1 (catX a))), (1, .p (.sl 1 (catX b))), (2, i64 vol), (4, i64 start), (5, i64 chain), (9, .p (.box g.pv)), (12, .ref 0 0), (15, .msl 1 7 0 (pX (lst L)).length), (16, .msl 2 1 0 (ix (sms L)).length), (17, i64 sm), (18, i64 seq), (19, i64 slot), (20, .ref 3 0), (21, bl e)]⟩, [tailN, .row t_api_Piece 7 (pX (lst L)), .row t_i64 1 (ix (sms L)), pcC X]⟩ True ?_ (fun _ => ?_)
        · refine aw_draw [11, 12] [] hT follows_mixed (by rfl) ?_
          refine ⟨s0, optI ha3 ?_⟩
          refine ⟨_, af_at w0 _ rfl rfl, ?_⟩
          repeat first | refine ⟨rfl, ?_⟩ | refine ⟨⟨_, af_at w0 _ rfl rfl, rfl⟩, ?_⟩ | refine ⟨⟨s0, optI ha3 rfl⟩, ?_⟩
          exact ⟨wk_pick [0, 1, 2, 3] [0, 1, 2, 4, 5, 9, 12, 15, 16, 17, 18, 19, 20, 21] rfl, trivial⟩
        refine aw_cut ⟨⟨201, [(0, .p (.sl 1 (catX a))), (1, .p (.sl 1 (catX b))), (2, i64 vol), (4, i64 start), (5, i64 chain), (9, .p (.box g.pv)), (12, .ref 0 0), (15, .msl 1 7 0 (pX (lst L)).length), (16, .msl 2 1 0 (ix (sms L)).length), (17, i64 sm), (18, i64 seq), (19, i64 slot), (20, .ref 3 0), (21, bl e), (22, .ref 4 0), (23, bl f)]⟩, [tailN, .row t_api_Piece 7 (pX (lst L)), .row t_i64 1 (ix (sms L)), pcC X, pcC Y]⟩ True ?_ (fun _ => ?_)
        · refine aw_draw [11, 12] [] hT follows_mixed (by rfl) ?_
          refine ⟨s0, optI hb3 ?_⟩
          refine ⟨_, af_at w1 _ rfl rfl, ?_⟩
          repeat first | refine ⟨rfl, ?_⟩ | refine ⟨⟨_, af_at w1 _ rfl rfl, rfl⟩, ?_⟩ | refine ⟨⟨s0, optI hb3 rfl⟩, ?_⟩
          exact ⟨wk_pick [0, 1, 2, 3, 4] [0, 1, 2, 4, 5, 9, 12, 15, 16, 17, 18, 19, 20, 21, 22, 23] rfl, trivial⟩
        clear w0 w1
        refine aw_cut2 (fun st => ∃ e2, C0 = (match e2 with | true => [X] | false => []) ∧ st = ⟨⟨201, [(0, .p (.sl 1 (catX a))), (1, .p (.sl 1 (catX b))), (2, i64 vol), (4, i64 start), (5, i64 chain), (9, .p (.box g.pv)), (12, .ref 0 0), (15, .msl 1 7 0 (pX (lst L)).length), (16, .msl 2 1 0 (ix (sms L)).length), (17, i64 sm), (18, i64 seq), (19, i64 slot), (20, .ref 3 0), (21, bl e2), (22, .ref 4 0), (23, bl f)]⟩, [tailN, .row t_api_Piece 7 (pX (lst L)), .row t_i64 1 (ix (sms L)), pcC X, pcC Y]⟩) (aw_region hT ?_) ?_
        · refine boolI (fun h => ?_) (fun h => ?_)
          · have h : e = true := h
            rw [h] at c0
            exact ⟨_, wk_pick [0, 1, 2, 3, 4] [0, 1, 2, 4, 5, 9, 12, 15, 16, 17, 18, 19, 20, 21, 22, 23] rfl, X.seq == seq, c0, rfl⟩
          · have h : e = false := h
            rw [h] at c0
            exact ⟨_, wk_pick [0, 1, 2, 3, 4] [0, 1, 2, 4, 5, 9, 12, 15, 16, 17, 18, 19, 20, 21, 22, 23] rfl, false, c0, rfl⟩
        rintro _ ⟨e2, c0, rfl⟩
        refine aw_cut2 (fun st => ∃ f2, C1 = (match f2 with | true => [Y] | false => []) ∧ st = ⟨⟨201, [(0, .p (.sl 1 (catX a))), (1, .p (.sl 1 (catX b))), (2, i64 vol), (4, i64 start), (5, i64 chain), (9, .p (.box g.pv)), (12, .ref 0 0), (15, .msl 1 7 0 (pX (lst L)).length), (16, .msl 2 1 0 (ix (sms L)).length), (17, i64 sm), (18, i64 seq), (19, i64 slot), (20, .ref 3 0), (21, bl e2), (22, .ref 4 0), (23, bl f2)]⟩, [tailN, .row t_api_Piece 7 (pX (lst L)), .row t_i64 1 (ix (sms L)), pcC X, pcC Y]⟩) (aw_region hT ?_) ?_
        · refine boolI (fun h => ?_) (fun h => ?_)
          · have h : f = true := h
            rw [h] at c1
            exact ⟨_, wk_pick [0, 1, 2, 3, 4] [0, 1, 2, 4, 5, 9, 12, 15, 16, 17, 18, 19, 20, 21, 22, 23] rfl, Y.seq == seq, c1, rfl⟩
          · have h : f = false := h
            rw [h] at c1
            exact ⟨_, wk_pick [0, 1, 2, 3, 4] [0, 1, 2, 4, 5, 9, 12, 15, 16, 17, 18, 19, 20, 21, 22, 23] rfl, false, c1, rfl⟩
        rintro _ ⟨f2, c1, rfl⟩
        rw [c0, c1] at eC
        clear c0 c1
        refine aw_cut ⟨⟨201, [(0, .p (.sl 1 (catX a))), (1, .p (.sl 1 (catX b))), (2, i64 vol), (4, i64 start), (5, i64 chain), (9, .p (.box g.pv)), (12, .ref 0 0), (15, .msl 1 7 0 (pX (lst L)).length), (16, .msl 2 1 0 (ix (sms L)).length), (17, i64 sm), (18, i64 seq), (20, .ref 3 0), (21, bl e2), (22, .ref 4 0), (23, bl f2)]⟩, [tailN, .row t_api_Piece 7 (pX (lst L)), .row t_i64 1 (ix (sms L)), pcC X, pcC Y]⟩ ((e2 || f2) = true) (aw_seq (aw_region hT ?_)) ?_
        · refine boolI (fun h0 => ?_) (fun h0 => ?_)
          · have h0 : (!e2) = true := h0
            have h0 := (Bool.not_eq_true' _).mp h0
            refine aw_cond (boolI (fun h1 => ?_) (fun h1 => ?_))
            · have h1 : (!f2) = true := h1
              have h1 := (Bool.not_eq_true' _).mp h1
              rw [h0, h1] at eC
              have eC : C = [] := eC
              rw [eC] at hpk
              have hpk : G = (L ++ [], !cl) := hpk
              rw [List.append_nil] at hpk
              refine aw_cut ⟨⟨201, [(0, .p (.sl 1 (catX a))), (1, .p (.sl 1 (catX b))), (2, i64 vol), (4, i64 start), (5, i64 chain), (9, .p (.box g.pv)), (12, .ref 0 0), (15, .msl 1 7 0 (pX (lst L)).length), (16, .msl 2 1 0 (ix (sms L)).length), (17, i64 sm), (18, i64 seq), (19, i64 slot), (24, bl k0)]⟩, [tailN, .row t_api_Piece 7 (pX (lst L)), .row t_i64 1 (ix (sms L))]⟩ True (aw_region hT ?_) (fun _ => ?_)
              · refine ⟨s0, optI ha3 ?_⟩
                refine callP (af_at q0 _ rfl rfl) ?_
                exact ⟨wk_pick [0, 1, 2] [0, 1, 2, 4, 5, 9, 12, 15, 16, 17, 18, 19, 24] rfl, trivial⟩
              refine aw_cut ⟨⟨201, [(0, .p (.sl 1 (catX a))), (1, .p (.sl 1 (catX b))), (2, i64 vol), (4, i64 start), (5, i64 chain), (9, .p (.box g.pv)), (12, .ref 0 0), (15, .msl 1 7 0 (pX (lst L)).length), (16, .msl 2 1 0 (ix (sms L)).length), (17, i64 sm), (18, i64 seq), (24, bl k0), (25, bl k1)]⟩, [tailN, .row t_api_Piece 7 (pX (lst L)), .row t_i64 1 (ix (sms L))]⟩ True ?_ (fun _ => ?_)
              · refine aw_draw [] [] hT follows_mixed (by rfl) ?_
                refine ⟨s0, optI hb3 ?_⟩
                refine ⟨_, af_at q1 _ rfl rfl, ?_⟩
                exact ⟨wk_pick [0, 1, 2] [0, 1, 2, 4, 5, 9, 12, 15, 16, 17, 18, 24, 25] rfl, trivial⟩
              have fin : cl = true → G.2 = false ∧ L = G.1 := fun hcl => by rw [hpk, hcl]; exact ⟨rfl, rfl⟩
              refine aw_seq (aw_seq (aw_region hT ?_))
              refine boolI (fun h2 => ?_) (fun h2 => ?_)
              · have h2 : (!k0) = true := h2
                refine aw_cond (boolI (fun h3 => ?_) (fun h3 => ?_))
                · have h3 : (!k1) = true := h3
                  have hcl : cl = false := by rw [eq, (Bool.not_eq_true' _).mp h2, (Bool.not_eq_true' _).mp h3]; rfl
                  rw [hpk, hcl] at eB
                  refine aw_seq (aw_region hT ?_)
                  refine aw_wk (wk_cells 0 _ rfl zero_less) ?_
                  refine aw_ret ?_
                  exact retPick [] ⟨_, eB.symm, rfl, rfl⟩ rfl
                · have h3 : (!k1) = false := h3
                  have hcl : cl = true := by rw [eq, (Bool.not_eq_false' _).mp h3, Bool.or_true]
                  refine aw_skip ?_
                  refine aw_exit ?_
                  exact ⟨Wk.trans (wk_frzN 15 1 7 _ (by rw [(fin hcl).2]) rfl rfl rfl) (Wk.trans (wk_frzN 16 2 1 _ (by rw [(fin hcl).2]) rfl rfl rfl) (wk_pick [0] [4, 5, 12, 15, 16] rfl)), (fin hcl).1⟩
              · have h2 : (!k0) = false := h2
                have hcl : cl = true := by rw [eq, (Bool.not_eq_false' _).mp h2]; rfl
                refine aw_cond ?_
                refine aw_skip ?_
                refine aw_exit ?_
                exact ⟨Wk.trans (wk_frzN 15 1 7 _ (by rw [(fin hcl).2]) rfl rfl rfl) (Wk.trans (wk_frzN 16 2 1 _ (by rw [(fin hcl).2]) rfl rfl rfl) (wk_pick [0] [4, 5, 12, 15, 16] rfl)), (fin hcl).1⟩
            · have h1 : (!f2) = false := h1
              exact aw_skip ⟨wk_pick [0, 1, 2, 3, 4] [0, 1, 2, 4, 5, 9, 12, 15, 16, 17, 18, 20, 21, 22, 23] rfl, by rw [(Bool.not_eq_false' _).mp h1, Bool.or_true]⟩
          · have h0 : (!e2) = false := h0
            refine aw_cond ?_
            exact aw_skip ⟨wk_pick [0, 1, 2, 3, 4] [0, 1, 2, 4, 5, 9, 12, 15, 16, 17, 18, 20, 21, 22, 23] rfl, by rw [(Bool.not_eq_false' _).mp h0]; rfl⟩
        intro hone
        clear q0 q1 eq ha3 hb3
        refine aw_cut2 (fun st => ∃ (X2 Y2 : Pc) (w : Bool), C = (X2 :: match w with | true => [Y2] | false => []) ∧ st = ⟨⟨201, [(0, .p (.sl 1 (catX a))), (1, .p (.sl 1 (catX b))), (2, i64 vol), (4, i64 start), (5, i64 chain), (9, .p (.box g.pv)), (12, .ref 0 0), (15, .msl 1 7 0 (pX (lst L)).length), (16, .msl 2 1 0 (ix (sms L)).length), (17, i64 sm), (18, i64 seq), (20, .ref 3 0), (22, .ref 4 0), (23, bl w)]⟩, [tailN, .row t_api_Piece 7 (pX (lst L)), .row t_i64 1 (ix (sms L)), pcC X2, pcC Y2]⟩) (aw_seq (aw_region hT ?_)) ?_
        · have swap : ∀ w, C = (Y :: match w with | true => [X] | false => []) → e2 = w → True := fun _ _ _ => trivial
          refine boolI (fun h0 => ?_) (fun h0 => ?_)
          · have h0 : f2 = true := h0
            refine boolI (fun h1 => ?_) (fun h1 => ?_)
            · have h1 : (!e2) = true := h1
              have h1 := (Bool.not_eq_true' _).mp h1
              rw [h0, h1] at eC
              refine aw_cond ?_
              refine aw_seq (aw_region hT ?_)
              refine aw_seq (aw_region hT ?_)
              refine aw_seq (aw_region hT ?_)
              refine aw_seq (aw_region hT ?_)
              refine aw_seq (aw_region hT ?_)
              refine aw_region hT ?_
              exact ⟨_, wk_pick [0, 1, 2, 3, 4] [0, 1, 2, 4, 5, 9, 12, 15, 16, 17, 18, 20, 22, 23] rfl, Y, X, e2, by rw [eC, h1]; rfl, rfl⟩
            · have h1 : (!e2) = false := h1
              have h1 := (Bool.not_eq_false' _).mp h1
              rw [h0, h1] at eC
              have eC : C = sort2 [X, Y] := eC
              rw [sort2_eq] at eC
              refine aw_cond (boolI (fun h2 => ?_) (fun h2 => ?_))
              · have h2 : decide (Y.epoch > X.epoch) = true := h2
                rw [h2] at eC
                refine aw_seq (aw_region hT ?_)
                refine aw_seq (aw_region hT ?_)
                refine aw_seq (aw_region hT ?_)
                refine aw_seq (aw_region hT ?_)
                refine aw_seq (aw_region hT ?_)
                refine aw_region hT ?_
                exact ⟨_, wk_pick [0, 1, 2, 3, 4] [0, 1, 2, 4, 5, 9, 12, 15, 16, 17, 18, 20, 22, 23] rfl, Y, X, e2, by rw [eC, h1], rfl⟩
              · have h2 : decide (Y.epoch > X.epoch) = false := h2
                rw [h2] at eC
                exact aw_skip ⟨_, wk_pick [0, 1, 2, 3, 4] [0, 1, 2, 4, 5, 9, 12, 15, 16, 17, 18, 20, 22, 23] rfl, X, Y, f2, by rw [eC, h0], rfl⟩
          · have h0 : f2 = false := h0
            rw [h0, Bool.or_false] at hone
            rw [h0, hone] at eC
            refine aw_cond ?_
            exact aw_skip ⟨_, wk_pick [0, 1, 2, 3, 4] [0, 1, 2, 4, 5, 9, 12, 15, 16, 17, 18, 20, 22, 23] rfl, X, Y, f2, by rw [eC, h0]; rfl, rfl⟩
        rintro _ ⟨X2, Y2, w, hC2, rfl⟩
        clear eC hone
        have hX2 : X2.may = true := hCm X2 (by rw [hC2]; exact List.mem_cons_self ..)
        have hY2 : w = true → Y2.may = true := fun hw => hCm Y2 (by rw [hC2, hw]; exact List.mem_cons_of_mem _ (List.mem_cons_self ..))
        have fX := ref11_fits X2 (lst L) sm (by omega)
        rw [fitsR_eq _ _ _ (X2.of_may hX2).2.1.1] at fX
        have fY : w = true → AF Tryz.prog f_ref11_fits [Y2.av, .p (.sl 7 (pX (lst L))), i64 sm] [] (Pure (bl (fitsS (rdOf (lst L) sm) Y2)) []) := fun hw => by
          have fY := ref11_fits Y2 (lst L) sm (by omega)
          rwa [fitsR_eq _ _ _ (Y2.of_may (hY2 hw)).2.1.1] at fY
        have flat0 : flatH ([] : List ABlk) := fun k hk => by simp at hk
        have hCe : C.isEmpty = false := by rw [hC2]; rfl
        have nofit : pickS (rdOf (lst L) sm) C = none → G.2 = false ∧ L = G.1 := fun hn => by
          rw [hn] at hpk
          have hpk : G = (L ++ [], C.isEmpty && !cl) := hpk
          rw [hpk, hCe, List.append_nil]; exact ⟨rfl, rfl⟩
        refine aw_cut2 (fun st => ∃ (p : Pc), p.may = true ∧ pickS (rdOf (lst L) sm) C = some p ∧ st = ⟨⟨201, [(0, .p (.sl 1 (catX a))), (1, .p (.sl 1 (catX b))), (2, i64 vol), (4, i64 start), (5, i64 chain), (9, .p (.box g.pv)), (12, .ref 0 0), (15, .msl 1 7 0 (pX (lst L)).length), (16, .msl 2 1 0 (ix (sms L)).length), (17, i64 sm), (18, i64 seq), (20, .ref 3 0)]⟩, [tailN, .row t_api_Piece 7 (pX (lst L)), .row t_i64 1 (ix (sms L)), pcC p]⟩) (aw_seq (aw_region hT ?_)) ?_
        · refine callP (af_lent fX 1 rfl ⟨.inl ⟨rfl, rfl⟩, .inr (.inl ⟨rfl, rfl⟩), .inl ⟨rfl, rfl⟩, trivial⟩ rfl flat0) ?_
          refine aw_cond (boolI (fun h0 => ?_) (fun h0 => ?_))
          · have h0 : (!fitsS (rdOf (lst L) sm) X2) = true := h0
            have h0 := (Bool.not_eq_true' _).mp h0
            refine aw_seq (aw_seq (aw_region hT ?_))
            refine boolI (fun h1 => ?_) (fun h1 => ?_)
            · have h1 : (!w) = true := h1
              have h1 := (Bool.not_eq_true' _).mp h1
              have hn : pickS (rdOf (lst L) sm) C = none := by rw [hC2, h1]; show pickS _ [X2] = _; rw [find1, h0]
              refine aw_cond ?_
              refine aw_exit ?_
              exact ⟨Wk.trans (wk_frzN 15 1 7 _ (by rw [(nofit hn).2]) rfl rfl rfl) (Wk.trans (wk_frzN 16 2 1 _ (by rw [(nofit hn).2]) rfl rfl rfl) (wk_pick [0] [4, 5, 12, 15, 16] rfl)), (nofit hn).1⟩
            · have h1 : (!w) = false := h1
              have h1 := (Bool.not_eq_false' _).mp h1
              have fY := fY h1
              refine callP (af_lent fY 1 rfl ⟨.inl ⟨rfl, rfl⟩, .inr (.inl ⟨rfl, rfl⟩), .inl ⟨rfl, rfl⟩, trivial⟩ rfl flat0) ?_
              have h2p := find2 (rdOf (lst L) sm) X2 Y2
              rw [h0] at h2p
              have hCC : C = [X2, Y2] := by rw [hC2, h1]
              rw [← hCC] at h2p
              refine aw_cond (boolI (fun h2 => ?_) (fun h2 => ?_))
              · have h2 : (!fitsS (rdOf (lst L) sm) Y2) = true := h2
                rw [(Bool.not_eq_true' _).mp h2] at h2p
                have hn : pickS (rdOf (lst L) sm) C = none := h2p
                refine aw_exit ?_
                exact ⟨Wk.trans (wk_frzN 15 1 7 _ (by rw [(nofit hn).2]) rfl rfl rfl) (Wk.trans (wk_frzN 16 2 1 _ (by rw [(nofit hn).2]) rfl rfl rfl) (wk_pick [0] [4, 5, 12, 15, 16] rfl)), (nofit hn).1⟩
              · have h2 : (!fitsS (rdOf (lst L) sm) Y2) = false := h2
                rw [(Bool.not_eq_false' _).mp h2] at h2p
                refine aw_skip ?_
                refine aw_region hT ?_
                exact ⟨_, wk_pick [0, 1, 2, 3] [0, 1, 2, 4, 5, 9, 12, 15, 16, 17, 18, 20] rfl, Y2, hY2 h1, h2p, rfl⟩
          · have h0 : (!fitsS (rdOf (lst L) sm) X2) = false := h0
            have h0 := (Bool.not_eq_false' _).mp h0
            refine aw_skip ⟨_, wk_pick [0, 1, 2, 3] [0, 1, 2, 4, 5, 9, 12, 15, 16, 17, 18, 20] rfl, X2, hX2, ?_, rfl⟩
            rw [hC2]
            unfold pickS
            rw [List.find?_cons, h0]
        rintro _ ⟨p, hp, hpick, rfl⟩
        clear fX fY nofit hC2 hX2 hY2 hpk
        have ws := ref11_Sector vol g 0 p
        have wsl : (p.sector vol g 0).1.length ≤ 1000000 := by
          rw [(sectorP_ok hp hg hvw (Int.le_refl 0) (by omega)).1]
          show (sealB _).length ≤ _
          rw [sealB_len, all_len _ (by show (pcB p).length ≤ 228; have := pcB_len hp; omega)]; omega
        have wsum := ref04_Sum (p.sector vol g 0).1 wsl
        have esum : ((Crc.sum (p.sector vol g 0).1).toNat : Int) = sumP vol g p := rfl
        rw [esum] at wsum
        generalize p.sector vol g 0 = Y at ws wsum
        obtain ⟨t, f⟩ := Y
        have ws : AF Tryz.prog f_ref11_Sector [i64 vol, g.av, i64 0, p.av] [] (Pure (.tup [bA t, i64 f]) []) := ws
        have wsum : AF Tryz.prog f_ref04_Sum [bA t] [] (Pure (i64 (sumP vol g p)) []) := wsum
        refine aw_cut ⟨⟨201, [(0, .p (.sl 1 (catX a))), (1, .p (.sl 1 (catX b))), (2, i64 vol), (4, i64 start), (5, i64 chain), (9, .p (.box g.pv)), (12, .ref 0 0), (15, .msl 1 7 0 (pX (lst L ++ [p])).length), (16, .msl 2 1 0 (ix (sms L)).length), (17, i64 sm), (18, i64 seq), (20, .ref 3 0)]⟩, [tailN, .row t_api_Piece 7 (pX (lst L ++ [p])), .row t_i64 1 (ix (sms L)), pcC p]⟩ True (aw_regionF (fun k => Nat.beq 2 k) hT ?_) (fun _ => ?_)
        · refine ⟨⟨rfl, rfl⟩, ?_⟩
          refine ⟨rfl, ⟨?_, ?_⟩, ?_⟩
          · show ((pX (lst L)).length + 1) * 72 ≤ _
            omega
          · show (pX (lst L)).length + 1 ≤ _
            omega
          rw [pX_snoc]
          exact ⟨wk_pick [0, 4, 2, 3] [0, 1, 2, 4, 5, 9, 12, 15, 16, 17, 18, 20] rfl, trivial⟩
        generalize hsm : sumP vol g p = sm2 at wsum
        refine aw_cut ⟨⟨201, [(0, .p (.sl 1 (catX a))), (1, .p (.sl 1 (catX b))), (2, i64 vol), (4, i64 start), (5, i64 chain), (9, .p (.box g.pv)), (12, .ref 0 0), (15, .msl 1 7 0 (pX (lst L ++ [p])).length), (16, .msl 2 1 0 (ix (sms L)).length), (17, i64 sm), (18, i64 seq), (20, .ref 3 0), (28, bA t)]⟩, [tailN, .row t_api_Piece 7 (pX (lst L ++ [p])), .row t_i64 1 (ix (sms L)), pcC p]⟩ True (aw_region hT ?_) (fun _ => ?_)
        · refine callP (af_at ws _ rfl rfl) ?_
          exact ⟨wk_pick [0, 1, 2, 3] [0, 1, 2, 4, 5, 9, 12, 15, 16, 17, 18, 20, 28] rfl, trivial⟩
        refine aw_cut ⟨⟨201, [(0, .p (.sl 1 (catX a))), (1, .p (.sl 1 (catX b))), (2, i64 vol), (4, i64 start), (5, i64 chain), (9, .p (.box g.pv)), (12, .ref 0 0), (15, .msl 1 7 0 (pX (lst L ++ [p])).length), (16, .msl 2 1 0 (ix (sms L)).length), (17, i64 sm2), (18, i64 seq)]⟩, [tailN, .row t_api_Piece 7 (pX (lst L ++ [p])), .row t_i64 1 (ix (sms L))]⟩ True (aw_region hT ?_) (fun _ => ?_)
        · refine callP (af_at wsum _ rfl rfl) ?_
          exact ⟨wk_pick [0, 1, 2] [0, 1, 2, 4, 5, 9, 12, 15, 16, 17, 18] rfl, trivial⟩
        refine aw_regionF (fun k => Nat.beq 2 k) hT ?_
        refine ⟨⟨rfl, rfl⟩, ?_⟩
        refine ⟨rfl, ⟨?_, ?_⟩, ?_⟩
        · show ((ix (sms L)).length + 1) * 8 ≤ _
          omega
        · show (ix (sms L)).length + 1 ≤ _
          omega
        refine ⟨_, wk_pick [0, 1, 3] [0, 1, 2, 4, 5, 9, 12, 15, 16, 17, 18] rfl, p, sm2, hp, hpick, hsm.symm, ?_⟩
        rw [ix_snoc]; rfl
      · rintro _ ⟨p, sm2, hp, hpick, rfl, rfl⟩
        rw [hpick] at hpk
        refine aw_region hT ?_
        refine ⟨n, by omega, _, wk_pick [0, 1, 2] [0, 1, 2, 4, 5, 9, 12, 15, 16, 17, 18] rfl, k + 1, IntKind.i64.wrap (seq + 1), sumP vol g p, L ++ [(p, sumP vol g p)], by omega, ?_, by rw [List.length_append]; simp; omega, ?_, ?_⟩
        · rw [wrap64 _ (by omega) (by omega), hseq]; omega
        · rw [wrap64 _ (by omega) (by omega)]
          have e1 : lst (L ++ [(p, sumP vol g p)]) = lst L ++ [p] := by unfold lst; rw [List.map_append]; rfl
          have e2 : rdOf (lst (L ++ [(p, sumP vol g p)])) (sumP vol g p) = ⟨p, true, sumP vol g p, false⟩ := by
            unfold rdOf; rw [e1, lastR_snoc]; cases lst L <;> rfl
          rw [e2, List.append_assoc]
          exact hpk
        · unfold lst sms
          rw [List.map_append, List.map_append]; rfl
    · have h := of_decide_eq_false (show decide (seq < IntKind.i64.wrap (start + g.w)) = false from h)
      rw [hwW] at h
      have hn : n = 0 := by omega
      subst hn
      have hGo : G = (L ++ [], false) := hGo
      rw [List.append_nil] at hGo
      have f1 : L = G.1 := by rw [hGo]
      refine aw_exit ?_
      exact ⟨Wk.trans (wk_frzN 15 1 7 _ (by rw [f1]) rfl rfl rfl) (Wk.trans (wk_frzN 16 2 1 _ (by rw [f1]) rfl rfl rfl) (wk_pick [0] [4, 5, 12, 15, 16] rfl)), by rw [hGo]⟩
  intro hG2
  rw [hG2] at eB
  have wg := hgr G.1 start chain (by omega) hGm.2
  generalize groupB G.1 start chain = t at wg eB
  obtain ⟨t1, t2, t3, t4⟩ := t
  refine aw_seq (aw_region hT ?_)
  refine callP (af_at wg _ rfl rfl) ?_
  refine aw_ret ?_
  exact retPick [] ⟨_, eB.symm, rfl, rfl⟩ rfl
end Go.Proofs.YtinfbclgkghgaaaGreat.AL

/- The document's layer 11: the transactions of pieces. -/
namespace Go.Proofs.YtinfbclgkghgaaaGreat.AL
open Go Go.Proofs

theorem lst_get {l : List (Pc × Int)} {i : Nat} {x : Pc × Int} (h : l[i]? = some x) : (pX (lst l))[i]? = some x.1.pv ∧ (ix (sms l))[i]? = some [.raw (.int .i64 x.2)] := by
  constructor
  · refine pX_get ?_
    unfold lst; rw [List.getElem?_map, h]; rfl
  · refine ixg ?_
    unfold sms; rw [List.getElem?_map, h]; rfl
theorem segOk_drop (n : Int) (l : List Pc) (k : Nat) (p : Pc) (j : Int) (h : l[k]? = some p) : segOk n (l.drop k) j = match p.index != j || p.of_ != n with | true => false | false => segOk n (l.drop (k + 1)) (j + 1) := by
  obtain ⟨hi, rfl⟩ := List.getElem?_eq_some_iff.1 h
  rw [List.drop_eq_getElem_cons hi]; rfl
theorem catB_snoc (l : List Pc) (p : Pc) : catB (l ++ [p]) = catB l ++ p.b := by unfold catB; simp
theorem grpL_cons (f : Nat) (p : Pc) (s : Int) (r : List (Pc × Int)) (t : TailV) : grpL (f + 1) ((p, s) :: r) t = match decide (p.of_ > ((r.length + 1 : Nat) : Int)) || !segOk p.of_ (lst (((p, s) :: r).take p.of_.toNat)) 0 with
    | true => t
    | false => grpL f (((p, s) :: r).drop p.of_.toNat) { t with txs := t.txs ++ [catB (lst (((p, s) :: r).take p.of_.toNat))], next := (lastR (lst (((p, s) :: r).take p.of_.toNat))).seq + 1, chain := ((sms (((p, s) :: r).take p.of_.toNat)).getLastD 0) } := rfl
theorem grpL_nil (f : Nat) (t : TailV) : grpL f [] t = t := by cases f <;> rfl
theorem lastE_get {l : List (Pc × Int)} {x : Pc × Int} (h : l[l.length - 1]? = some x) : lastE l = x.1.epoch := by
  unfold lastE
  rw [List.getLast?_eq_getElem?, h]

set_option maxHeartbeats 2000000 in
set_option maxRecDepth 20000 in
theorem grouped_ok : GroupedOk := by
  intro l start chain hl hm
  refine AF.mono (R := fun r H' => ∃ z, z = groupB l start chain ∧ r = z.av ∧ H' = []) ?_ (by rintro r H' ⟨b, rfl, rfl, rfl⟩; exact ⟨rfl, rfl⟩)
  have lp := pX_len (lst l)
  have ll : (lst l).length = l.length := by unfold lst; rw [List.length_map]
  have ls : (sms l).length = l.length := by unfold sms; rw [List.length_map]
  have li := ixl (sms l)
  obtain ⟨Z, hZ⟩ : ∃ Z, Z = groupB l start chain := ⟨_, rfl⟩
  rw [← hZ]
  unfold groupB at hZ
  refine af_body hT F_ref11_grouped rfl rfl N_ref11_grouped rfl ?_
  refine aw_seq (aw_region hT ?_)
  refine aw_cut ⟨⟨95, [(0, .p (.sl 7 (pX (lst l)))), (1, .p (.sl 1 (ix (sms l)))), (8, .ref 0 0), (9, .ref 1 0)]⟩, [tailN, .cells t_api_Tail [.msl 2 1 0 0, i64 start, i64 chain, i64 0], .row t_s_u8 1 []]⟩ True (aw_region hT ?_) (fun _ => ?_)
  · exact ⟨Wk.trans (wk_phantom t_s_u8 1) (Wk.trans (wk_cells 1 [.msl 2 1 0 0, i64 start, i64 chain, i64 0] rfl ⟨.inr (.inr (.inl ⟨2, 1, 0, rfl, rfl⟩)), .inl rfl, .inl rfl, .inl rfl, trivial⟩) (wk_pick [0, 1, 2] [0, 1, 8, 9] rfl)), trivial⟩
  refine aw_cut2 (fun st => ∃ ep, ep = lastE l ∧ st = ⟨⟨95, [(0, .p (.sl 7 (pX (lst l)))), (1, .p (.sl 1 (ix (sms l)))), (8, .ref 0 0), (9, .ref 1 0)]⟩, [tailN, .cells t_api_Tail [.msl 2 1 0 0, i64 start, i64 chain, i64 ep], .row t_s_u8 1 []]⟩) (aw_seq (aw_region hT ?_)) ?_
  · refine aw_cond (boolI (fun h => ?_) (fun h => ?_))
    · have h := of_decide_eq_true (show decide ((((pX (lst l)).length : Nat) : Int) > 0) = true from h)
      have hw : IntKind.i64.wrap (((pX (lst l)).length : Int) - 1) = ((l.length - 1 : Nat) : Int) := by rw [lp, ll, wrap64 _ (by omega) (by omega)]; omega
      have hx := List.getElem?_eq_getElem (show l.length - 1 < l.length by omega)
      generalize l[l.length - 1]'(by omega) = x at hx
      have hxp : (pX (lst l))[(IntKind.i64.wrap (((pX (lst l)).length : Int) - 1)).toNat]? = some x.1.pv := by rw [hw, Int.toNat_natCast]; exact (lst_get hx).1
      refine aw_region hT ?_
      refine ⟨by rw [hw]; exact Int.natCast_nonneg _, optI hxp ?_⟩
      exact ⟨_, wk_pick [0, 1, 2] [0, 1, 8, 9] rfl, x.1.epoch, (lastE_get hx).symm, rfl⟩
    · have h := of_decide_eq_false (show decide ((((pX (lst l)).length : Nat) : Int) > 0) = false from h)
      have hnil : l = [] := List.length_eq_zero_iff.1 (by omega)
      refine aw_skip ⟨_, wk_pick [0, 1, 2] [0, 1, 8, 9] rfl, 0, by rw [hnil]; rfl, rfl⟩
  rintro _ ⟨ep, hep, rfl⟩
  rw [← hep] at hZ
  clear hep
  refine aw_seq (aw_region hT ?_)
  have fin : ∀ (T : TailV), Z = T → AW Tryz.prog none 0 (.skip) ⟨⟨0, []⟩, []⟩ (fun _ _ => True) := fun _ _ => aw_skip trivial
  refine aw_cut2 (fun st => ∃ T : TailV, T = Z ∧ st = ⟨⟨95, [(8, .ref 0 0), (9, .ref 1 0)]⟩, [tailN, .cells t_api_Tail [.msl 2 1 0 (catX T.txs).length, i64 T.next, i64 T.chain, i64 T.epoch], .row t_s_u8 1 (catX T.txs)]⟩) (aw_block ?_) ?_
  · refine aw_loopW (fun n st => ∃ (i : Nat) (j : Int) (f : Nat) (T : TailV), n + i = l.length ∧ j = i ∧ n ≤ f ∧ T.txs.length ≤ i ∧ Z = grpL f (l.drop i) T ∧ st = ⟨⟨95, [(0, .p (.sl 7 (pX (lst l)))), (1, .p (.sl 1 (ix (sms l)))), (8, .ref 0 0), (9, .ref 1 0), (10, i64 j)]⟩, [tailN, .cells t_api_Tail [.msl 2 1 0 (catX T.txs).length, i64 T.next, i64 T.chain, i64 T.epoch], .row t_s_u8 1 (catX T.txs)]⟩) l.length ⟨⟨95, _⟩, _⟩ (wk_pick [0, 1, 2] [0, 1, 8, 9, 10] rfl) ⟨0, 0, l.length, ⟨[], start, chain, ep⟩, rfl, rfl, Nat.le_refl _, Nat.le_refl _, hZ, rfl⟩ ?_
    rintro n st ⟨i, j, f, T, hni, hj, hnf, hTl, hgo, rfl⟩
    have lc := catX_len T.txs
    refine aw_seq (aw_seq (aw_region hT ?_))
    refine aw_cond (boolI (fun h => ?_) (fun h => ?_))
    · have h := of_decide_eq_true (show decide (j < (((pX (lst l)).length : Nat) : Int)) = true from h)
      have hi : i < l.length := by omega
      obtain ⟨f, rfl⟩ : ∃ g, f = g + 1 := ⟨f - 1, by omega⟩
      have hx := List.getElem?_eq_getElem hi
      have hxm := hm _ (List.getElem_mem hi)
      have hd := List.drop_eq_getElem_cons hi
      generalize l[i] = x at hx hxm hd
      obtain ⟨p, s⟩ := x
      have hpm := p.of_may hxm
      have hxp : (pX (lst l))[j.toNat]? = some p.pv := by rw [hj, Int.toNat_natCast]; exact (lst_get hx).1
      obtain ⟨m, hmn⟩ : ∃ m : Nat, p.of_ = m := ⟨p.of_.toNat, by omega⟩
      have hgo2 : Z = match decide (p.of_ > ((l.length - i : Nat) : Int)) || !segOk p.of_ (lst ((l.drop i).take p.of_.toNat)) 0 with
        | true => T
        | false => grpL f ((l.drop i).drop p.of_.toNat) { T with txs := T.txs ++ [catB (lst ((l.drop i).take p.of_.toNat))], next := (lastR (lst ((l.drop i).take p.of_.toNat))).seq + 1, chain := ((sms ((l.drop i).take p.of_.toNat)).getLastD 0) } := by
        rw [hgo, hd, grpL_cons, show (l.drop (i + 1)).length + 1 = l.length - i by rw [List.length_drop]; omega]
      clear hgo hd
      rw [hmn, Int.toNat_natCast] at hgo2
      obtain ⟨seg, hseg⟩ : ∃ seg, seg = (l.drop i).take m := ⟨_, rfl⟩
      rw [← hseg] at hgo2
      have hwn : IntKind.i64.wrap (j + p.of_) = ((i + m : Nat) : Int) := by rw [wrap64 _ (by omega) (by omega)]; omega
      refine aw_skip ?_
      have bad : (decide ((m : Int) > ((l.length - i : Nat) : Int)) || !segOk (m : Int) (lst seg) 0) = true → T = Z := fun hb => by rw [hb] at hgo2; exact hgo2.symm
      refine aw_block ?_
      refine aw_cut ⟨⟨95, [(0, .p (.sl 7 (pX (lst l)))), (1, .p (.sl 1 (ix (sms l)))), (8, .ref 0 0), (9, .ref 1 0), (10, i64 j), (11, i64 m)]⟩, [tailN, .cells t_api_Tail [.msl 2 1 0 (catX T.txs).length, i64 T.next, i64 T.chain, i64 T.epoch], .row t_s_u8 1 (catX T.txs)]⟩ True (aw_region hT ?_) (fun _ => ?_)
      · refine ⟨by omega, optI hxp ?_⟩
        rw [← hmn]
        exact ⟨wk_pick [0, 1, 2] [0, 1, 8, 9, 10, 11] rfl, trivial⟩
      rw [hmn] at hwn
      refine aw_cut ⟨⟨95, [(0, .p (.sl 7 (pX (lst l)))), (1, .p (.sl 1 (ix (sms l)))), (8, .ref 0 0), (9, .ref 1 0), (10, i64 j), (11, i64 m)]⟩, [tailN, .cells t_api_Tail [.msl 2 1 0 (catX T.txs).length, i64 T.next, i64 T.chain, i64 T.epoch], .row t_s_u8 1 (catX T.txs)]⟩ (i + m ≤ l.length) (aw_seq (aw_region hT ?_)) ?_
      · refine aw_cond (boolI (fun h1 => ?_) (fun h1 => ?_))
        · have h1 := of_decide_eq_true (show decide (IntKind.i64.wrap (j + m) > (((pX (lst l)).length : Nat) : Int)) = true from h1)
          rw [hwn] at h1
          have hTZ := bad (by rw [decide_eq_true (show (m : Int) > ((l.length - i : Nat) : Int) by omega)]; rfl)
          refine aw_wk (wk_frzC 2 1 0 _ rfl rfl rfl rfl) ?_
          refine aw_seq (aw_region hT ?_)
          refine aw_ret ?_
          exact retPick [] ⟨T, hTZ, rfl, rfl⟩ rfl
        · have h1 := of_decide_eq_false (show decide (IntKind.i64.wrap (j + m) > (((pX (lst l)).length : Nat) : Int)) = false from h1)
          rw [hwn] at h1
          exact aw_skip ⟨wk_pick [0, 1, 2] [0, 1, 8, 9, 10, 11] rfl, by omega⟩
      intro him
      rw [decide_eq_false (show ¬ (m : Int) > ((l.length - i : Nat) : Int) by omega), Bool.false_or] at hgo2 bad
      have hsl : seg.length = m := by rw [hseg, List.length_take, List.length_drop]; omega
      have hsg : ∀ k, k < m → seg[k]? = l[i + k]? := fun k hk => by rw [hseg, List.getElem?_take_of_lt hk, List.getElem?_drop]
      have hlst : (lst seg).length = m := by unfold lst; rw [List.length_map, hsl]
      refine aw_cut ⟨⟨95, [(0, .p (.sl 7 (pX (lst l)))), (1, .p (.sl 1 (ix (sms l)))), (8, .ref 0 0), (9, .ref 1 0), (10, i64 j), (11, i64 m), (12, .msl 3 1 0 0)]⟩, [tailN, .cells t_api_Tail [.msl 2 1 0 (catX T.txs).length, i64 T.next, i64 T.chain, i64 T.epoch], .row t_s_u8 1 (catX T.txs), .row t_u8 1 []]⟩ True (aw_region hT ?_) (fun _ => ?_)
      · exact ⟨Wk.trans (wk_phantom t_u8 1) (Wk.trans (wk_nil 12 3 1 0 rfl) (wk_pick [0, 1, 2, 3] [0, 1, 8, 9, 10, 11, 12] rfl)), trivial⟩
      refine aw_cut ⟨⟨95, [(0, .p (.sl 7 (pX (lst l)))), (1, .p (.sl 1 (ix (sms l)))), (8, .ref 0 0), (9, .ref 1 0), (10, i64 j), (11, i64 m), (12, .p (.sl 1 (bx (catB (lst seg)))))]⟩, [tailN, .cells t_api_Tail [.msl 2 1 0 (catX T.txs).length, i64 T.next, i64 T.chain, i64 T.epoch], .row t_s_u8 1 (catX T.txs)]⟩ (segOk (m : Int) (lst seg) 0 = true) (aw_seq (aw_region hT ?_)) ?_
      · refine aw_block ?_
        refine aw_loopW (fun n2 st => ∃ (k : Nat) (jk : Int) (X : Bytes), n2 + k = m ∧ jk = k ∧ X = catB ((lst seg).take k) ∧ X.length ≤ 200 * k ∧ segOk (m : Int) (lst seg) 0 = segOk (m : Int) ((lst seg).drop k) k ∧ st = ⟨⟨95, [(0, .p (.sl 7 (pX (lst l)))), (1, .p (.sl 1 (ix (sms l)))), (8, .ref 0 0), (9, .ref 1 0), (10, i64 j), (11, i64 m), (12, .msl 3 1 0 (bx X).length), (13, i64 jk)]⟩, [tailN, .cells t_api_Tail [.msl 2 1 0 (catX T.txs).length, i64 T.next, i64 T.chain, i64 T.epoch], .row t_s_u8 1 (catX T.txs), .row t_u8 1 (bx X)]⟩) m ⟨⟨95, _⟩, _⟩ (wk_pick [0, 1, 2, 3] [0, 1, 8, 9, 10, 11, 12, 13] rfl) ⟨0, 0, [], rfl, rfl, rfl, Nat.le_refl _, rfl, rfl⟩ ?_
        rintro n2 st ⟨k, jk, X, hnk, hjk, hX, hXl, hsk, rfl⟩
        have lX := bx_len X
        refine aw_seq (aw_seq (aw_region hT ?_))
        refine aw_cond (boolI (fun h2 => ?_) (fun h2 => ?_))
        · have h2 := of_decide_eq_true (show decide (jk < (m : Int)) = true from h2)
          have hk : k < m := by omega
          have hy := List.getElem?_eq_getElem (show i + k < l.length by omega)
          have hym := hm _ (List.getElem_mem (show i + k < l.length by omega))
          have hyg := hsg k hk
          rw [hy] at hyg
          generalize l[i + k]'(by omega) = y at hy hym hyg
          obtain ⟨q, qs⟩ := y
          have hqb := (q.of_may hym).2.2.2.2.2.2.2.2.2
          have hyl : (lst seg)[k]? = some q := by unfold lst; rw [List.getElem?_map, hyg]; rfl
          rw [segOk_drop _ _ _ _ _ hyl] at hsk
          have hwk : IntKind.i64.wrap (j + jk) = ((i + k : Nat) : Int) := by rw [wrap64 _ (by omega) (by omega)]; omega
          have hyp : (pX (lst l))[(IntKind.i64.wrap (j + jk)).toNat]? = some q.pv := by rw [hwk, Int.toNat_natCast]; exact (lst_get hy).1
          have hX2 : catB ((lst seg).take (k + 1)) = X ++ q.b := by rw [List.take_add_one, hyl, hX]; exact catB_snoc _ _
          have lq := bx_len q.b
          rw [← hjk] at hsk
          refine aw_skip ?_
          refine aw_cut ⟨⟨95, [(0, .p (.sl 7 (pX (lst l)))), (1, .p (.sl 1 (ix (sms l)))), (8, .ref 0 0), (9, .ref 1 0), (10, i64 j), (11, i64 m), (12, .msl 3 1 0 (bx (X ++ q.b)).length), (13, i64 jk)]⟩, [tailN, .cells t_api_Tail [.msl 2 1 0 (catX T.txs).length, i64 T.next, i64 T.chain, i64 T.epoch], .row t_s_u8 1 (catX T.txs), .row t_u8 1 (bx (X ++ q.b))]⟩ (segOk (m : Int) (lst seg) 0 = segOk (m : Int) ((lst seg).drop (k + 1)) (jk + 1)) (aw_block ?_) (fun hsk => ?_)
          · refine aw_cut ⟨⟨95, [(0, .p (.sl 7 (pX (lst l)))), (1, .p (.sl 1 (ix (sms l)))), (8, .ref 0 0), (9, .ref 1 0), (10, i64 j), (11, i64 m), (12, .msl 3 1 0 (bx X).length), (13, i64 jk), (14, .ref 4 0)]⟩, [tailN, .cells t_api_Tail [.msl 2 1 0 (catX T.txs).length, i64 T.next, i64 T.chain, i64 T.epoch], .row t_s_u8 1 (catX T.txs), .row t_u8 1 (bx X), pcC q]⟩ True (aw_region hT ?_) (fun _ => ?_)
            · refine ⟨by rw [hwk]; exact Int.natCast_nonneg _, optI hyp ?_⟩
              exact ⟨wk_pick [0, 1, 2, 3, 4] [0, 1, 8, 9, 10, 11, 12, 13, 14] rfl, trivial⟩
            refine aw_cut ⟨⟨95, [(0, .p (.sl 7 (pX (lst l)))), (1, .p (.sl 1 (ix (sms l)))), (8, .ref 0 0), (9, .ref 1 0), (10, i64 j), (11, i64 m), (12, .msl 3 1 0 (bx X).length), (13, i64 jk), (14, .ref 4 0)]⟩, [tailN, .cells t_api_Tail [.msl 2 1 0 (catX T.txs).length, i64 T.next, i64 T.chain, i64 T.epoch], .row t_s_u8 1 (catX T.txs), .row t_u8 1 (bx X), pcC q]⟩ (segOk (m : Int) (lst seg) 0 = segOk (m : Int) ((lst seg).drop (k + 1)) (jk + 1)) (aw_seq (aw_region hT ?_)) (fun hsk => ?_)
            · refine boolI (fun h3 => ?_) (fun h3 => ?_)
              · have h3 : (q.index != jk) = true := h3
                rw [h3] at hsk
                have hTZ := bad (by rw [show segOk (m : Int) (lst seg) 0 = false from hsk]; rfl)
                refine aw_cond ?_
                refine aw_wk (wk_frzC 2 1 0 _ rfl rfl rfl rfl) ?_
                refine aw_seq (aw_region hT ?_)
                refine aw_ret ?_
                exact retPick [] ⟨T, hTZ, rfl, rfl⟩ rfl
              · have h3 : (q.index != jk) = false := h3
                refine aw_cond (boolI (fun h4 => ?_) (fun h4 => ?_))
                · have h4 : (q.of_ != (m : Int)) = true := h4
                  rw [h3, h4] at hsk
                  have hTZ := bad (by rw [show segOk (m : Int) (lst seg) 0 = false from hsk]; rfl)
                  refine aw_wk (wk_frzC 2 1 0 _ rfl rfl rfl rfl) ?_
                  refine aw_seq (aw_region hT ?_)
                  refine aw_ret ?_
                  exact retPick [] ⟨T, hTZ, rfl, rfl⟩ rfl
                · have h4 : (q.of_ != (m : Int)) = false := h4
                  rw [h3, h4] at hsk
                  exact aw_skip ⟨wk_pick [0, 1, 2, 3, 4] [0, 1, 8, 9, 10, 11, 12, 13, 14] rfl, hsk⟩
            refine aw_region hT ?_
            refine ⟨rfl, ⟨?_, ?_⟩, ?_⟩
            · show ((bx X).length + (bx q.b).length) * 1 ≤ _
              omega
            · show (bx X).length + (bx q.b).length ≤ _
              omega
            rw [bx_app]
            exact ⟨wk_pick [0, 1, 2, 5] [0, 1, 8, 9, 10, 11, 12, 13] rfl, hsk⟩
          · refine aw_region hT ?_
            refine ⟨n2 - 1, by omega, _, wk_pick [0, 1, 2, 3] [0, 1, 8, 9, 10, 11, 12, 13] rfl, k + 1, IntKind.i64.wrap (jk + 1), X ++ q.b, by omega, ?_, hX2.symm, by rw [List.length_append]; omega, ?_, rfl⟩
            · rw [wrap64 _ (by omega) (by omega), hjk]; rfl
            · rw [hsk, hjk]; rfl
        · have h2 := of_decide_eq_false (show decide (jk < (m : Int)) = false from h2)
          have hk : k = m := by omega
          rw [hk, List.take_of_length_le (by omega)] at hX
          rw [hk, List.drop_eq_nil_of_le (by omega)] at hsk
          refine aw_exit ?_
          exact ⟨Wk.trans (wk_frzE 12 3 _ (by rw [hX]) rfl rfl rfl) (wk_pick [0, 1, 2] [0, 1, 8, 9, 10, 11, 12] rfl), hsk⟩
      intro hsk
      rw [hsk] at hgo2
      have hz := List.getElem?_eq_getElem (show i + m - 1 < l.length by omega)
      have hzm := hm _ (List.getElem_mem (show i + m - 1 < l.length by omega))
      have hzg := hsg (m - 1) (by omega)
      rw [show i + (m - 1) = i + m - 1 by omega, hz] at hzg
      generalize l[i + m - 1]'(by omega) = y at hz hzm hzg
      obtain ⟨q, qs⟩ := y
      have hqm := q.of_may hzm
      have el1 : lastR (lst seg) = q := by
        have h3 : lst seg ≠ [] := fun e => by rw [e] at hlst; simp at hlst; omega
        have h4 := lastR_get h3
        rw [hlst] at h4
        have h5 : (lst seg)[m - 1]? = some q := by unfold lst; rw [List.getElem?_map, hzg]; rfl
        rw [h5] at h4
        exact (Option.some.inj h4).symm
      have el2 : (sms seg).getLastD 0 = qs := by
        rw [List.getLastD_eq_getLast?, List.getLast?_eq_getElem?]
        have h5 : (sms seg)[(sms seg).length - 1]? = some qs := by
          unfold sms; rw [List.length_map, hsl, List.getElem?_map, hzg]; rfl
        rw [h5]; rfl
      rw [el1, el2] at hgo2
      have hgo2 : Z = grpL f ((l.drop i).drop m) { T with txs := T.txs ++ [catB (lst seg)], next := q.seq + 1, chain := qs } := hgo2
      rw [List.drop_drop] at hgo2
      generalize catB (lst seg) = tx at hgo2
      have hj2 : IntKind.i64.wrap (j + m) = ((i + m : Nat) : Int) := hwn
      refine aw_cut ⟨⟨95, [(0, .p (.sl 7 (pX (lst l)))), (1, .p (.sl 1 (ix (sms l)))), (8, .ref 0 0), (9, .ref 1 0), (10, i64 ((i + m : Nat) : Int)), (12, .p (.sl 1 (bx tx)))]⟩, [tailN, .cells t_api_Tail [.msl 2 1 0 (catX T.txs).length, i64 T.next, i64 T.chain, i64 T.epoch], .row t_s_u8 1 (catX T.txs)]⟩ True (aw_region hT ?_) (fun _ => ?_)
      · rw [← hj2]
        exact ⟨wk_pick [0, 1, 2] [0, 1, 8, 9, 10, 12] rfl, trivial⟩
      refine aw_cut ⟨⟨95, [(0, .p (.sl 7 (pX (lst l)))), (1, .p (.sl 1 (ix (sms l)))), (8, .ref 0 0), (9, .ref 1 0), (10, i64 ((i + m : Nat) : Int))]⟩, [tailN, .cells t_api_Tail [.msl 2 1 0 (catX (T.txs ++ [tx])).length, i64 T.next, i64 T.chain, i64 T.epoch], .row t_s_u8 1 (catX (T.txs ++ [tx]))]⟩ True (aw_regionF (fun k => Nat.beq 3 k) hT ?_) (fun _ => ?_)
      · refine ⟨⟨rfl, rfl⟩, ?_⟩
        refine ⟨rfl, ⟨?_, ?_⟩, ?_⟩
        · show ((catX T.txs).length + 1) * 24 ≤ _
          omega
        · show (catX T.txs).length + 1 ≤ _
          omega
        rw [catX_snoc1]
        exact ⟨wk_pick [0, 1, 3] [0, 1, 8, 9, 10] rfl, trivial⟩
      have hw1 : IntKind.i64.wrap (((i + m : Nat) : Int) - 1) = ((i + m - 1 : Nat) : Int) := by rw [wrap64 _ (by omega) (by omega)]; omega
      have hzp : (pX (lst l))[(IntKind.i64.wrap (((i + m : Nat) : Int) - 1)).toNat]? = some q.pv := by rw [hw1, Int.toNat_natCast]; exact (lst_get hz).1
      have hzs : (ix (sms l))[(IntKind.i64.wrap (((i + m : Nat) : Int) - 1)).toNat]? = some [.raw (.int .i64 qs)] := by rw [hw1, Int.toNat_natCast]; exact (lst_get hz).2
      have hsq : IntKind.i64.wrap (q.seq + 1) = q.seq + 1 := wrap64 _ (by omega) (by omega)
      obtain ⟨jm, hjm⟩ : ∃ jm : Int, jm = ((i + m : Nat) : Int) := ⟨_, rfl⟩
      rw [← hjm] at hzp hzs hw1 ⊢
      refine aw_seq (aw_region hT ?_)
      refine ⟨by rw [hw1]; exact Int.natCast_nonneg _, optI hzp ?_⟩
      refine aw_region hT ?_
      refine ⟨by rw [hw1]; exact Int.natCast_nonneg _, optI hzs ?_⟩
      refine ⟨n - m, by omega, _, wk_pick [0, 1, 2] [0, 1, 8, 9, 10] rfl, i + m, jm, f, ⟨T.txs ++ [tx], IntKind.i64.wrap (q.seq + 1), qs, T.epoch⟩, by omega, hjm, by omega, by rw [List.length_append]; simp; omega, ?_, rfl⟩
      rw [hgo2, hsq]
    · have h := of_decide_eq_false (show decide (j < (((pX (lst l)).length : Nat) : Int)) = false from h)
      have hi : i = l.length := by omega
      rw [hi, List.drop_length, grpL_nil] at hgo
      refine aw_exit ?_
      exact ⟨_, wk_pick [0, 1, 2] [8, 9] rfl, T, hgo.symm, rfl⟩
  rintro _ ⟨T, hTZ, rfl⟩
  refine aw_wk (wk_frzC 2 1 0 _ rfl rfl rfl rfl) ?_
  refine aw_seq (aw_region hT ?_)
  refine aw_ret ?_
  exact retPick [] ⟨T, hTZ, rfl, rfl⟩ rfl
end Go.Proofs.YtinfbclgkghgaaaGreat.AL

/- The layer 11, plain: what is told as one goes along is what is told of all. -/
namespace Go.Proofs.YtinfbclgkghgaaaGreat.AL
open Go Go.Proofs

def Fol.tri (F : Fol) : List Bytes × Int × Int := (F.txs, F.next, F.chain)
def TailV.tri (t : TailV) : List Bytes × Int × Int := (t.txs, t.next, t.chain)
theorem stepF_epoch (F : Fol) (p : Pc) (s : Int) : (stepF F p s).epoch = p.epoch := by
  unfold stepF; split
  · rfl
  · split <;> rfl
theorem foldF_epoch : ∀ (l : List (Pc × Int)) (F : Fol), (foldF F l).epoch = match l.getLast? with | some x => x.1.epoch | none => F.epoch
  | [], F => rfl
  | [x], F => stepF_epoch F x.1 x.2
  | x :: y :: r, F => by
    have := foldF_epoch (y :: r) (stepF F x.1 x.2)
    show (foldF (stepF F x.1 x.2) (y :: r)).epoch = _
    rw [this, List.getLast?_cons_cons]
    cases h : (y :: r).getLast? with
    | some z => rfl
    | none => simp at h
theorem fold_ended : ∀ (l : List (Pc × Int)) (F : Fol), F.ended = true → (foldF F l).tri = F.tri
  | [], F, _ => rfl
  | x :: r, F, h => by
    have ho : odd F x.1 = true := by unfold odd; rw [h]; rfl
    have hs : stepF F x.1 x.2 = { F with epoch := x.1.epoch, ended := true } := by unfold stepF; rw [ho]
    show (foldF (stepF F x.1 x.2) r).tri = _
    rw [fold_ended r _ (by rw [hs]), hs]; rfl
theorem step_odd {F : Fol} {p : Pc} (s : Int) (h : odd F p = true) : (stepF F p s).ended = true ∧ (stepF F p s).tri = F.tri := by
  unfold stepF; rw [h]; exact ⟨rfl, rfl⟩
theorem fold_odd {F : Fol} {x : Pc × Int} (r : List (Pc × Int)) (h : odd F x.1 = true) : (foldF F (x :: r)).tri = F.tri := by
  obtain ⟨h1, h2⟩ := step_odd x.2 h
  show (foldF (stepF F x.1 x.2) r).tri = _
  rw [fold_ended r _ h1, h2]

/-- In the midst of a transaction. -/
theorem fold_mid : ∀ (l : List (Pc × Int)) (F : Fol) (k d : Nat), 0 < k → F.index = k → F.of_ = ((k + d : Nat) : Int) → F.ended = false → 0 < d →
    if d ≤ l.length ∧ segOk F.of_ (lst (l.take d)) k = true then
      foldF F l = foldF ⟨F.txs ++ [F.tx ++ catB (lst (l.take d))], (lastR (lst (l.take d))).seq + 1, (sms (l.take d)).getLastD 0, (lastR (lst (l.take d))).epoch, [], 0, F.of_, false⟩ (l.drop d)
    else (foldF F l).tri = F.tri
  | [], F, k, d, _, _, _, _, hd => by
    rw [if_neg (fun h => by have := h.1; simp at this; omega)]; rfl
  | (p, s) :: r, F, k, d, hk, hi, hof, he, hd => by
    obtain ⟨d, rfl⟩ : ∃ e, d = e + 1 := ⟨d - 1, by omega⟩
    have hseg : segOk F.of_ (lst (((p, s) :: r).take (d + 1))) k = match p.index != (k : Int) || p.of_ != F.of_ with | true => false | false => segOk F.of_ (lst (r.take d)) ((k : Int) + 1) := rfl
    have hodd : odd F p = (p.index != (k : Int) || p.of_ != F.of_) := by
      unfold odd
      rw [he, hi, decide_eq_true (show (k : Int) > 0 by omega), Bool.false_or, Bool.true_and]
    cases ho : p.index != (k : Int) || p.of_ != F.of_ with
    | true =>
      rw [ho] at hseg
      rw [if_neg (fun h => by rw [hseg] at h; exact Bool.noConfusion (show false = true from h.2))]
      exact fold_odd r (hodd.trans ho)
    | false =>
      rw [ho] at hseg hodd
      have hpo : p.of_ = F.of_ := by
        rw [Bool.or_eq_false_iff] at ho
        simpa using ho.2
      cases hd0 : d with
      | zero =>
        subst hd0
        rw [if_pos ⟨by simp, by rw [hseg]; rfl⟩]
        have hst : stepF F p s = ⟨F.txs ++ [F.tx ++ p.b], p.seq + 1, s, p.epoch, [], 0, p.of_, F.ended⟩ := by
          unfold stepF
          rw [hodd, hi, hpo, hof, show ((k : Int) + 1 == ((k + 1 : Nat) : Int)) = true by simp]
        show foldF (stepF F p s) r = foldF ⟨F.txs ++ [F.tx ++ catB [p]], p.seq + 1, s, p.epoch, [], 0, F.of_, false⟩ r
        rw [hst, hpo, he, show catB [p] = p.b by simp [catB]]
      | succ d' =>
        rw [← hd0]
        have hst : stepF F p s = { F with epoch := p.epoch, tx := F.tx ++ p.b, of_ := p.of_, index := F.index + 1 } := by
          unfold stepF
          rw [hodd, hi, hpo, hof, show ((k : Int) + 1 == ((k + (d + 1) : Nat) : Int)) = false by
            rw [beq_eq_false_iff_ne]; omega]
        have ih := fold_mid r (stepF F p s) (k + 1) d (by omega) (by rw [hst]; show F.index + 1 = _; rw [hi]; rfl) (by rw [hst]; show p.of_ = _; rw [hpo, hof]; congr 1; omega) (by rw [hst]; exact he) (by omega)
        have h1 : (stepF F p s).of_ = F.of_ := by rw [hst]; exact hpo
        have h2 : (stepF F p s).txs = F.txs := by rw [hst]
        have h3 : (stepF F p s).tx = F.tx ++ p.b := by rw [hst]
        have h4 : (stepF F p s).tri = F.tri := by rw [hst]; rfl
        rw [h1, h2, h3, h4] at ih
        have e0 : (((k + 1 : Nat) : Int)) = (k : Int) + 1 := rfl
        rw [e0] at ih
        have ht : ((p, s) :: r).take (d + 1) = (p, s) :: r.take d := rfl
        by_cases hc : d ≤ r.length ∧ segOk F.of_ (lst (r.take d)) ((k : Int) + 1) = true
        · rw [if_pos hc] at ih
          rw [if_pos ⟨by simp; omega, by rw [hseg]; exact hc.2⟩]
          show foldF (stepF F p s) r = _
          rw [ih, ht]
          have hne : r.take d ≠ [] := fun e => by have := congrArg List.length e; rw [List.length_take] at this; simp only [List.length_nil] at this; have := hc.1; omega
          obtain ⟨y, t, hyt⟩ := List.exists_cons_of_ne_nil hne
          have e1 : lastR (lst ((p, s) :: r.take d)) = lastR (lst (r.take d)) := by rw [hyt]; rfl
          have e2 : (sms ((p, s) :: r.take d)).getLastD 0 = (sms (r.take d)).getLastD 0 := by rw [hyt]; rfl
          have e3 : catB (lst ((p, s) :: r.take d)) = p.b ++ catB (lst (r.take d)) := rfl
          rw [e1, e2, e3, List.append_assoc]
          rfl
        · rw [if_neg hc] at ih
          rw [if_neg (fun h => hc ⟨by have := h.1; simp at this; omega, by have := h.2; rw [hseg] at this; exact this⟩)]
          exact ih

theorem grpL_epoch : ∀ (f : Nat) (l : List (Pc × Int)) (t : TailV), (grpL f l t).epoch = t.epoch
  | 0, _, _ => rfl
  | f + 1, [], _ => rfl
  | f + 1, (p, s) :: r, t => by
    rw [grpL_cons]
    split
    · rfl
    · exact grpL_epoch f _ _
theorem segOk_head {n : Int} {p : Pc} {s : Int} {r : List (Pc × Int)} {m : Nat} (hm : 0 < m) (h : (p.index != 0) = true) : segOk n (lst (((p, s) :: r).take m)) 0 = false := by
  obtain ⟨m, rfl⟩ : ∃ e, m = e + 1 := ⟨m - 1, by omega⟩
  show (match p.index != 0 || p.of_ != n with | true => false | false => _) = false
  rw [h]; rfl
theorem fold_grp : ∀ (f : Nat) (l : List (Pc × Int)) (F : Fol) (t : TailV), l.length ≤ f → (∀ x ∈ l, x.1.may = true) → F.index = 0 → F.ended = false → F.tx = [] → t.tri = F.tri → (foldF F l).tri = (grpL f l t).tri
  | f, [], F, t, _, _, _, _, _, ht => by rw [grpL_nil, ht]; rfl
  | 0, _ :: _, _, _, h, _, _, _, _, _ => by simp at h
  | f + 1, (p, s) :: r, F, t, hl, hm, hi, he, hx, ht => by
    have hpm := p.of_may (show p.may = true from hm (p, s) (List.mem_cons_self ..))
    have hr : r.length ≤ f := by simp at hl; omega
    obtain ⟨m, hmn⟩ : ∃ m : Nat, p.of_ = ((m + 1 : Nat) : Int) := ⟨p.of_.toNat - 1, by omega⟩
    have hodd : odd F p = (p.index != 0) := by
      unfold odd
      rw [he, hi]; simp
    rw [grpL_cons, hmn, Int.toNat_natCast]
    have htri : t.txs = F.txs ∧ t.next = F.next ∧ t.chain = F.chain := by
      unfold TailV.tri Fol.tri at ht
      simp only [Prod.mk.injEq] at ht; exact ht
    cases ho : p.index != 0 with
    | true =>
      rw [segOk_head (by omega) ho, Bool.not_false, Bool.or_true]
      rw [fold_odd r (hodd.trans ho)]
      exact ht.symm
    | false =>
      rw [ho] at hodd
      have hp0 : p.index = 0 := by simpa using ho
      have hseg : segOk ((m + 1 : Nat) : Int) (lst (((p, s) :: r).take (m + 1))) 0 = segOk ((m + 1 : Nat) : Int) (lst (r.take m)) 1 := by
        show (match p.index != 0 || p.of_ != ((m + 1 : Nat) : Int) with | true => false | false => segOk ((m + 1 : Nat) : Int) (lst (r.take m)) (0 + 1)) = _
        rw [ho, hmn, show (((m + 1 : Nat) : Int) != ((m + 1 : Nat) : Int)) = false by simp]
        rfl
      rw [hseg]
      by_cases hm0 : m = 0
      · subst hm0
        rw [decide_eq_false (show ¬ ((0 + 1 : Nat) : Int) > ((r.length + 1 : Nat) : Int) by omega)]
        have hst : stepF F p s = ⟨F.txs ++ [F.tx ++ p.b], p.seq + 1, s, p.epoch, [], 0, p.of_, F.ended⟩ := by
          unfold stepF
          rw [hodd, hi, hmn]; rfl
        show (foldF (stepF F p s) r).tri = (grpL f r { t with txs := t.txs ++ [catB [p]], next := p.seq + 1, chain := s }).tri
        refine fold_grp f r _ _ hr (fun x hx => hm x (List.mem_cons_of_mem _ hx)) (by rw [hst]) (by rw [hst]; exact he) (by rw [hst]) ?_
        rw [hst]
        show (t.txs ++ [catB [p]], p.seq + 1, s) = (F.txs ++ [F.tx ++ p.b], p.seq + 1, s)
        rw [htri.1, hx, show catB [p] = p.b by simp [catB]]; rfl
      · have hst : stepF F p s = { F with epoch := p.epoch, tx := F.tx ++ p.b, of_ := p.of_, index := F.index + 1 } := by
          unfold stepF
          rw [hodd, hi, hmn, show ((0 : Int) + 1 == ((m + 1 : Nat) : Int)) = false by rw [beq_eq_false_iff_ne]; omega]
        have ih := fold_mid r (stepF F p s) 1 m (by omega) (by rw [hst]; show F.index + 1 = _; rw [hi]; rfl) (by rw [hst]; show p.of_ = _; rw [hmn]; congr 1; omega) (by rw [hst]; exact he) (by omega)
        have h1 : (stepF F p s).of_ = ((m + 1 : Nat) : Int) := by rw [hst]; exact hmn
        have h2 : (stepF F p s).txs = F.txs := by rw [hst]
        have h3 : (stepF F p s).tx = p.b := by rw [hst]; show F.tx ++ p.b = _; rw [hx]; rfl
        have h4 : (stepF F p s).tri = F.tri := by rw [hst]; rfl
        rw [h1, h2, h3, h4] at ih
        have ht2 : ((p, s) :: r).take (m + 1) = (p, s) :: r.take m := rfl
        by_cases hc : m ≤ r.length ∧ segOk ((m + 1 : Nat) : Int) (lst (r.take m)) ((1 : Nat) : Int) = true
        · rw [if_pos hc] at ih
          rw [decide_eq_false (show ¬ ((m + 1 : Nat) : Int) > ((r.length + 1 : Nat) : Int) by omega), show segOk ((m + 1 : Nat) : Int) (lst (r.take m)) 1 = true from hc.2]
          show (foldF (stepF F p s) r).tri = (grpL f (r.drop m) { t with txs := t.txs ++ [catB (lst (((p, s) :: r).take (m + 1)))], next := (lastR (lst (((p, s) :: r).take (m + 1)))).seq + 1, chain := ((sms (((p, s) :: r).take (m + 1))).getLastD 0) }).tri
          rw [ih, ht2]
          have hne : r.take m ≠ [] := fun e => by have := congrArg List.length e; rw [List.length_take] at this; simp only [List.length_nil] at this; have := hc.1; omega
          obtain ⟨y, tt, hyt⟩ := List.exists_cons_of_ne_nil hne
          have e1 : lastR (lst ((p, s) :: r.take m)) = lastR (lst (r.take m)) := by rw [hyt]; rfl
          have e2 : (sms ((p, s) :: r.take m)).getLastD 0 = (sms (r.take m)).getLastD 0 := by rw [hyt]; rfl
          have e3 : catB (lst ((p, s) :: r.take m)) = p.b ++ catB (lst (r.take m)) := rfl
          rw [e1, e2, e3]
          refine fold_grp f (r.drop m) _ _ (by rw [List.length_drop]; omega) (fun x hx => hm x (List.mem_cons_of_mem _ (List.mem_of_mem_drop hx))) rfl rfl rfl ?_
          show (t.txs ++ [_], _, _) = (F.txs ++ [_], _, _)
          rw [htri.1]
        · rw [if_neg hc] at ih
          have : (decide (((m + 1 : Nat) : Int) > ((r.length + 1 : Nat) : Int)) || !segOk ((m + 1 : Nat) : Int) (lst (r.take m)) 1) = true := by
            by_cases hlen : m ≤ r.length
            · cases hsg : segOk ((m + 1 : Nat) : Int) (lst (r.take m)) 1 with
              | true => exact absurd ⟨hlen, hsg⟩ hc
              | false => rw [Bool.not_false, Bool.or_true]
            · rw [decide_eq_true (show ((m + 1 : Nat) : Int) > ((r.length + 1 : Nat) : Int) by omega)]; rfl
          rw [this]
          show (foldF (stepF F p s) r).tri = t.tri
          rw [ih, ht]

theorem tail_group (l : List (Pc × Int)) (start chain : Int) (hm : ∀ x ∈ l, x.1.may = true) : (foldF (fol0 start chain) l).tail = groupB l start chain := by
  have h1 := fold_grp l.length l (fol0 start chain) ⟨[], start, chain, lastE l⟩ (Nat.le_refl _) hm rfl rfl rfl rfl
  have h2 := foldF_epoch l (fol0 start chain)
  have h3 := grpL_epoch l.length l ⟨[], start, chain, lastE l⟩
  unfold groupB
  generalize foldF (fol0 start chain) l = A at h1 h2
  generalize grpL l.length l ⟨[], start, chain, lastE l⟩ = B at h1 h3
  obtain ⟨a1, a2, a3, a4, _, _, _, _⟩ := A
  obtain ⟨b1, b2, b3, b4⟩ := B
  unfold Fol.tri TailV.tri at h1
  simp only [Prod.mk.injEq] at h1
  obtain ⟨rfl, rfl, rfl⟩ := h1
  have h3 : b4 = lastE l := h3
  have h2 : a4 = _ := h2
  show (⟨a1, a2, a3, a4⟩ : TailV) = ⟨a1, a2, a3, b4⟩
  rw [h2, h3]; rfl
theorem follow_ref (vol : Int) (g : GeoV) (a b : List Bytes) (start chain : Int) : followB vol g a b start chain = refB vol g a b start chain := by
  rw [followB_eq]
  unfold refB
  rw [tail_group _ _ _ (goL_may vol g a b g.w.toNat start (rd0 chain)).2] <;> rfl
end Go.Proofs.YtinfbclgkghgaaaGreat.AL
