/- A part of the proof. -/
import Derived.Test.YtinfbclgkghgaaaGreatHalfI
/- The layer 11 (ring): a piece's sector is made. -/
namespace Go.Proofs.YtinfbclgkghgaaaGreat.AL
open Go Go.Proofs

abbrev Pc.four (p : Pc) : List Int := [p.frm, p.chain, p.index, p.of_]
theorem pcB_eq (p : Pc) : pcB p = numsD p.four ++ bytesD p.b := by
  unfold pcB numsD
  simp [List.append_assoc]

set_option maxRecDepth 20000 in
theorem ring_Sector (vol : Int) (g : GeoV) (m : Int) (p : Pc) : AF Tryz.prog f_ring_Sector [i64 vol, g.av, i64 m, p.av] [] (Pure (.tup [bA (p.sector vol g m).1, i64 (p.sector vol g m).2]) []) := by
  refine AF.mono (R := fun r H' => ∃ z, z = p.sector vol g m ∧ r = .tup [bA z.1, i64 z.2] ∧ H' = []) ?_ (by rintro r H' ⟨b, rfl, rfl, rfl⟩; exact ⟨rfl, rfl⟩)
  have w1 := ring_May p
  have w2 := geo_May g
  have w3 := ring_word [vol] (by simp)
  have ew : [vol].all wordB = wordB vol := by simp
  rw [ew] at w3
  have bad : (p.may && (g.may && (wordB vol && (!decide (m < 0) && !decide (m ≥ 2))))) = false → (([], 1) : Bytes × Int) = p.sector vol g m := fun h => by unfold Pc.sector; rw [h]
  refine af_body hT F_ring_Sector rfl rfl N_ring_Sector rfl ?_
  refine aw_seq (aw_region hT ?_)
  refine aw_wk (wk_boxL 0 g.pv rfl rfl) ?_
  refine aw_wk (wk_boxL 1 p.pv rfl rfl) ?_
  refine aw_cut ⟨⟨73, [(0, i64 vol), (2, i64 m), (5, .p (.box g.pv)), (7, .p (.box p.pv))]⟩, []⟩ (p.may = true ∧ g.may = true ∧ wordB vol = true ∧ 0 ≤ m ∧ m < 2) (aw_seq (aw_regionF (fun k => Nat.beq 10 k) hT ?_)) ?_
  · refine callP (af_at w1 _ rfl rfl) ?_
    refine boolI (fun h0 => ?_) (fun h0 => ?_)
    · have h0 : (!p.may) = true := h0
      refine aw_cond ?_
      refine aw_seq (aw_region hT ?_)
      refine aw_wk (wk_nilP 8 1 rfl) ?_
      refine aw_ret ?_
      exact retPick [] ⟨_, bad (by rw [(Bool.not_eq_true' _).mp h0]; rfl), rfl, rfl⟩ rfl
    have h0 : (!p.may) = false := h0
    have h0 := (Bool.not_eq_false' _).mp h0
    refine callP (af_at w2 _ rfl rfl) ?_
    refine boolI (fun h1 => ?_) (fun h1 => ?_)
    · have h1 : (!g.may) = true := h1
      refine aw_cond ?_
      refine aw_seq (aw_region hT ?_)
      refine aw_wk (wk_nilP 8 1 rfl) ?_
      refine aw_ret ?_
      exact retPick [] ⟨_, bad (by rw [h0, (Bool.not_eq_true' _).mp h1]; rfl), rfl, rfl⟩ rfl
    have h1 : (!g.may) = false := h1
    have h1 := (Bool.not_eq_false' _).mp h1
    refine ⟨⟨rfl, rfl⟩, ?_⟩
    refine callP (af_at w3 _ rfl rfl) ?_
    refine boolI (fun h2 => ?_) (fun h2 => ?_)
    · have h2 : (!wordB vol) = true := h2
      refine aw_cond ?_
      refine aw_seq (aw_region hT ?_)
      refine aw_wk (wk_nilP 8 1 rfl) ?_
      refine aw_ret ?_
      exact retPick [] ⟨_, bad (by rw [h0, h1, (Bool.not_eq_true' _).mp h2]; rfl), rfl, rfl⟩ rfl
    have h2 : (!wordB vol) = false := h2
    have h2 := (Bool.not_eq_false' _).mp h2
    refine boolI (fun h3 => ?_) (fun h3 => ?_)
    · have h3 : decide (m < 0) = true := h3
      refine aw_cond ?_
      refine aw_seq (aw_region hT ?_)
      refine aw_wk (wk_nilP 8 1 rfl) ?_
      refine aw_ret ?_
      exact retPick [] ⟨_, bad (by rw [h0, h1, h2, h3]; rfl), rfl, rfl⟩ rfl
    have h3 : decide (m < 0) = false := h3
    refine aw_cond (boolI (fun h4 => ?_) (fun h4 => ?_))
    · have h4 : decide (m ≥ 2) = true := h4
      refine aw_seq (aw_region hT ?_)
      refine aw_wk (wk_nilP 8 1 rfl) ?_
      refine aw_ret ?_
      exact retPick [] ⟨_, bad (by rw [h0, h1, h2, h3, h4]; rfl), rfl, rfl⟩ rfl
    have h4 : decide (m ≥ 2) = false := h4
    have h3 := of_decide_eq_false h3
    have h4 := of_decide_eq_false h4
    exact aw_skip ⟨wk_pick [] [0, 2, 5, 7] rfl, h0, h1, h2, by omega, by omega⟩
  rintro ⟨hp, hg, hv, m0, m2⟩
  have e : p.sector vol g m = (p.blk vol g m).sld := by
    unfold Pc.sector; rw [hp, hg, hv, decide_eq_false (show ¬ m < 0 by omega), decide_eq_false (show ¬ m ≥ 2 by omega)]; rfl
  clear bad w1 w2 w3 ew
  obtain ⟨q1, q2, q3, q4, q5, q6, q7, q8, q9, q10⟩ := p.of_may hp
  obtain ⟨g1, g2, _⟩ := g.of_may hg
  have hmg : 0 ≤ m * g.w ∧ m * g.w ≤ 512 := by
    have : m = 0 ∨ m = 1 := by omega
    rcases this with rfl | rfl <;> omega
  have hmod0 := Int.tmod_nonneg (a := p.seq) g.w (by omega)
  have hmod1 := Int.tmod_lt_of_pos p.seq (show 0 < g.w by omega)
  have ws := block_Seal (p.blk vol g m)
  rw [← e] at ws
  have wr := ring_addr g m (p.seq.tmod g.w) (by omega) (by omega) (by omega) (by omega)
  have hbody := pcB_len hp
  unfold Pc.blk at ws
  generalize addrB g m (p.seq.tmod g.w) = ad at ws wr
  generalize p.sector vol g m = Z at ws
  rw [pcB_eq] at ws hbody
  have hn : ∀ n ∈ p.four, 0 ≤ n ∧ n < 9223372036854775808 := by
    intro n hn
    simp only [List.mem_cons, List.not_mem_nil, or_false] at hn
    rcases hn with rfl | rfl | rfl | rfl <;> omega
  have h4 : p.four.length = 4 := rfl
  have hpre : ∀ k, (numsD (p.four.take k)).length ≤ 214 := fun k => by
    have : (numsD p.four).length ≤ 214 := by rw [List.length_append] at hbody; omega
    have e2 : numsD p.four = numsD (p.four.take k) ++ numsD (p.four.drop k) := by unfold numsD; rw [← List.flatMap_append, List.take_append_drop]
    rw [e2, List.length_append] at this; omega
  generalize hF : p.four = F at ws hbody hn h4 hpre
  refine aw_cut ⟨⟨73, [(0, i64 vol), (2, i64 m), (5, .p (.box g.pv)), (7, .p (.box p.pv)), (10, .ref 0 0)]⟩, outH []⟩ True (aw_region hT ?_) (fun _ => ?_)
  · exact ⟨Wk.trans (wk_phantom t_u8 1) (Wk.trans (wk_cells 0 [.msl 1 1 0 0] rfl ⟨.inr (.inr (.inl ⟨1, 1, 0, rfl, rfl⟩)), trivial⟩) (wk_pick [0, 1] [0, 2, 5, 7, 10] rfl)), trivial⟩
  refine aw_cut ⟨⟨73, [(0, i64 vol), (2, i64 m), (5, .p (.box g.pv)), (7, .p (.box p.pv)), (10, .ref 0 0)]⟩, outH (numsD F)⟩ True ?_ (fun _ => ?_)
  · refine aw_cut ⟨⟨73, [(0, i64 vol), (2, i64 m), (5, .p (.box g.pv)), (7, .p (.box p.pv)), (10, .ref 0 0), (43, .p (.sl 1 (ix F))), (44, i64 4), (45, i64 0)]⟩, outH []⟩ True (aw_regionF (fun k => Nat.beq 8 k) hT ?_) (fun _ => ?_)
    · refine ⟨⟨rfl, rfl⟩, ?_⟩
      rw [← hF]
      exact ⟨wk_pick [0, 1] [0, 2, 5, 7, 10, 43, 44, 45] rfl, trivial⟩
    refine aw_block ?_
    refine aw_loopW (fun n s => ∃ (k : Nat) (j : Int) (B : Bytes), n + k = 4 ∧ j = k ∧ B = numsD (F.take k) ∧ s = ⟨⟨73, [(0, i64 vol), (2, i64 m), (5, .p (.box g.pv)), (7, .p (.box p.pv)), (10, .ref 0 0), (43, .p (.sl 1 (ix F))), (44, i64 4), (45, i64 j)]⟩, outH B⟩) 4 ⟨⟨73, _⟩, _⟩ (wk_pick [0, 1] [0, 2, 5, 7, 10, 43, 44, 45] rfl) ⟨0, 0, [], rfl, rfl, rfl, rfl⟩ ?_
    rintro n s ⟨k, j, B, hnk, rfl, hB, rfl⟩
    refine aw_seq (aw_region hT ?_)
    refine aw_seq (aw_cond (boolI (fun h => ?_) (fun h => ?_)))
    · have hk := of_decide_eq_true (show decide ((k : Int) < 4) = true from h)
      have hx := List.getElem?_eq_getElem (show k < F.length by omega)
      have hm := hn _ (List.getElem_mem (show k < F.length by omega))
      generalize F[k]'(by omega) = v at hx hm
      have hxp : (ix F)[((k : Nat) : Int).toNat]? = some [.raw (.int .i64 v)] := by rw [Int.toNat_natCast]; exact ixg hx
      have hBl : B.length ≤ 214 := by rw [hB]; exact hpre k
      have hsn : numsD (F.take (k + 1)) = B ++ numD v.toNat := by rw [List.take_add_one, hx, hB]; exact numsD_snoc _ _
      have w := Out_Num B v.toNat (by omega) (by omega)
      rw [show ((v.toNat : Nat) : Int) = v by omega] at w
      generalize B ++ numD v.toNat = B' at w hsn
      refine aw_skip ?_
      refine aw_cut ⟨⟨73, [(0, i64 vol), (2, i64 m), (5, .p (.box g.pv)), (7, .p (.box p.pv)), (10, .ref 0 0), (43, .p (.sl 1 (ix F))), (44, i64 4), (45, i64 k)]⟩, outH B'⟩ True (aw_block (aw_seq (aw_region hT ?_))) (fun _ => ?_)
      · refine ⟨Int.natCast_nonneg _, optI hxp ?_⟩
        refine aw_region hT ?_
        refine callP (af_in [0, 1] w rfl rfl rfl) ?_
        exact ⟨wk_pick [0, 2] [0, 2, 5, 7, 10, 43, 44, 45] rfl, trivial⟩
      · refine aw_region hT ?_
        refine ⟨n - 1, by omega, _, wk_pick [0, 1] [0, 2, 5, 7, 10, 43, 44, 45] rfl, k + 1, IntKind.i64.wrap ((k : Int) + 1), B', by omega, ?_, hsn.symm, rfl⟩
        rw [wrap64 _ (by omega) (by omega)]; rfl
    · have hk : ¬ (k : Int) < 4 := of_decide_eq_false h
      rw [List.take_of_length_le (by omega)] at hB
      rw [← hB]
      refine aw_exit ?_
      exact ⟨wk_pick [0, 1] [0, 2, 5, 7, 10] rfl, trivial⟩
  have wb := Out_Bytes (numsD F) p.b (by have := hpre 4; rw [List.take_of_length_le (by omega)] at this; omega) (by omega)
  have wa := Out_All (numsD F ++ bytesD p.b) (by omega)
  generalize numsD F ++ bytesD p.b = B at wb wa ws
  refine aw_cut ⟨⟨73, [(0, i64 vol), (2, i64 m), (5, .p (.box g.pv)), (7, .p (.box p.pv)), (10, .ref 0 0)]⟩, outH B⟩ True (aw_region hT ?_) (fun _ => ?_)
  · refine callP (af_in [0, 1] wb rfl rfl rfl) ?_
    exact ⟨wk_pick [0, 2] [0, 2, 5, 7, 10] rfl, trivial⟩
  refine aw_seq ?_
  refine aw_draw [] [] hT follows_mixed (by rfl) ?_
  refine neI (y := g.w) (by omega) ?_
  refine ⟨_, af_at wr _ rfl rfl, ?_⟩
  refine ⟨_, af_in [0, 1] wa rfl rfl rfl, ?_⟩
  refine ⟨_, af_at ws _ rfl rfl, ?_⟩
  refine aw_ret ?_
  exact retPick [] ⟨Z, rfl, rfl, rfl⟩ rfl

set_option maxRecDepth 20000 in
theorem ref11_Sector (vol : Int) (g : GeoV) (m : Int) (p : Pc) : AF Tryz.prog f_ref11_Sector [i64 vol, g.av, i64 m, p.av] [] (Pure (.tup [bA (p.sector vol g m).1, i64 (p.sector vol g m).2]) []) := by
  refine AF.mono (R := fun r H' => ∃ z, z = p.sector vol g m ∧ r = .tup [bA z.1, i64 z.2] ∧ H' = []) ?_ (by rintro r H' ⟨b, rfl, rfl, rfl⟩; exact ⟨rfl, rfl⟩)
  have w1 := ref11_May p
  have w2 := ref08_May g
  have w3 := ref11_word vol
  have bad : (p.may && (g.may && (wordB vol && (!decide (m < 0) && !decide (m > 1))))) = false → (([], 1) : Bytes × Int) = p.sector vol g m := fun h => by unfold Pc.sector; rw [show decide (m ≥ 2) = decide (m > 1) from decide_eq_decide.mpr (by omega), h]
  refine af_body hT F_ref11_Sector rfl rfl N_ref11_Sector rfl ?_
  refine aw_seq (aw_region hT ?_)
  refine aw_wk (wk_boxL 0 g.pv rfl rfl) ?_
  refine aw_wk (wk_boxL 1 p.pv rfl rfl) ?_
  refine aw_seq (aw_region hT ?_)
  refine callP (af_at w1 _ rfl rfl) ?_
  refine aw_seq (aw_region hT ?_)
  refine callP (af_at w2 _ rfl rfl) ?_
  refine aw_cut ⟨⟨86, [(0, i64 vol), (2, i64 m), (5, .p (.box g.pv)), (7, .p (.box p.pv))]⟩, []⟩ (p.may = true ∧ g.may = true ∧ wordB vol = true ∧ 0 ≤ m ∧ m < 2) (aw_seq (aw_region hT ?_)) ?_
  · refine boolI (fun h0 => ?_) (fun h0 => ?_)
    · have h0 : (!p.may) = true := h0
      refine aw_cond ?_
      refine aw_seq (aw_region hT ?_)
      refine aw_wk (wk_nilP 8 1 rfl) ?_
      refine aw_ret ?_
      exact retPick [] ⟨_, bad (by rw [(Bool.not_eq_true' _).mp h0]; rfl), rfl, rfl⟩ rfl
    have h0 : (!p.may) = false := h0
    have h0 := (Bool.not_eq_false' _).mp h0
    refine boolI (fun h1 => ?_) (fun h1 => ?_)
    · have h1 : (!g.may) = true := h1
      refine aw_cond ?_
      refine aw_seq (aw_region hT ?_)
      refine aw_wk (wk_nilP 8 1 rfl) ?_
      refine aw_ret ?_
      exact retPick [] ⟨_, bad (by rw [h0, (Bool.not_eq_true' _).mp h1]; rfl), rfl, rfl⟩ rfl
    have h1 : (!g.may) = false := h1
    have h1 := (Bool.not_eq_false' _).mp h1
    refine callP (af_at w3 _ rfl rfl) ?_
    refine boolI (fun h2 => ?_) (fun h2 => ?_)
    · have h2 : (!wordB vol) = true := h2
      refine aw_cond ?_
      refine aw_seq (aw_region hT ?_)
      refine aw_wk (wk_nilP 8 1 rfl) ?_
      refine aw_ret ?_
      exact retPick [] ⟨_, bad (by rw [h0, h1, (Bool.not_eq_true' _).mp h2]; rfl), rfl, rfl⟩ rfl
    have h2 : (!wordB vol) = false := h2
    have h2 := (Bool.not_eq_false' _).mp h2
    refine boolI (fun h3 => ?_) (fun h3 => ?_)
    · have h3 : decide (m < 0) = true := h3
      refine aw_cond ?_
      refine aw_seq (aw_region hT ?_)
      refine aw_wk (wk_nilP 8 1 rfl) ?_
      refine aw_ret ?_
      exact retPick [] ⟨_, bad (by rw [h0, h1, h2, h3]; rfl), rfl, rfl⟩ rfl
    have h3 : decide (m < 0) = false := h3
    refine aw_cond (boolI (fun h4 => ?_) (fun h4 => ?_))
    · have h4 : decide (m > 1) = true := h4
      refine aw_seq (aw_region hT ?_)
      refine aw_wk (wk_nilP 8 1 rfl) ?_
      refine aw_ret ?_
      exact retPick [] ⟨_, bad (by rw [h0, h1, h2, h3, h4]; rfl), rfl, rfl⟩ rfl
    have h4 : decide (m > 1) = false := h4
    have h3 := of_decide_eq_false h3
    have h4 := of_decide_eq_false h4
    exact aw_skip ⟨wk_pick [] [0, 2, 5, 7] rfl, h0, h1, h2, by omega, by omega⟩
  rintro ⟨hp, hg, hv, m0, m2⟩
  have e : p.sector vol g m = (p.blk vol g m).sld := by
    unfold Pc.sector; rw [hp, hg, hv, decide_eq_false (show ¬ m < 0 by omega), decide_eq_false (show ¬ m ≥ 2 by omega)]; rfl
  clear bad w1 w2 w3
  obtain ⟨q1, q2, q3, q4, q5, q6, q7, q8, q9, q10⟩ := p.of_may hp
  obtain ⟨g1, g2, _⟩ := g.of_may hg
  have hmg : 0 ≤ m * g.w ∧ m * g.w ≤ 512 := by
    have : m = 0 ∨ m = 1 := by omega
    rcases this with rfl | rfl <;> omega
  have hmod0 := Int.tmod_nonneg (a := p.seq) g.w (by omega)
  have hmod1 := Int.tmod_lt_of_pos p.seq (show 0 < g.w by omega)
  have had : IntKind.i64.wrap (IntKind.i64.wrap (4 + IntKind.i64.wrap (m * g.w)) + p.seq.tmod g.w) = addrB g m (p.seq.tmod g.w) := by
    rw [wrap64 (m * g.w) (by omega) (by omega), wrap64 (4 + m * g.w) (by omega) (by omega), wrap64 _ (by omega) (by omega)]; rfl
  have ws := ref07_Seal (p.blk vol g m)
  rw [← e] at ws
  have hbody := pcB_len hp
  unfold Pc.blk at ws
  rw [← had] at ws
  generalize p.sector vol g m = Z at ws
  unfold pcB at ws hbody
  have hN : ∀ v : Int, 0 ≤ v → v ≤ 4294967295 → AF Tryz.prog f_ref05_Num [i64 v] [] (Pure (bA (numD v.toNat)) []) := fun v h0 h1 => by
    have := ref05_Num v.toNat (by omega)
    rwa [show ((v.toNat : Nat) : Int) = v by omega] at this
  have n1 := ref05_NumM p.frm.toNat (by omega)
  rw [show ((p.frm.toNat : Nat) : Int) = p.frm by omega] at n1
  have n2 := hN p.chain (by omega) (by omega)
  have n3 := hN p.index (by omega) (by omega)
  have n4 := hN p.of_ (by omega) (by omega)
  have n5 := af_frzT (ref05_BytesM p.b (by omega)) rfl rfl
  clear hN had
  generalize numD p.frm.toNat = A1 at n1 ws hbody
  generalize numD p.chain.toNat = A2 at n2 ws hbody
  generalize numD p.index.toNat = A3 at n3 ws hbody
  generalize numD p.of_.toNat = A4 at n4 ws hbody
  generalize bytesD p.b = A5 at n5 ws hbody
  simp only [List.length_append] at hbody
  have l1 := bx_len A1
  have l2 := bx_len A2
  have l3 := bx_len A3
  have l4 := bx_len A4
  have l5 := bx_len A5
  refine aw_cut ⟨⟨86, [(0, i64 vol), (2, i64 m), (5, .p (.box g.pv)), (7, .p (.box p.pv)), (12, .msl 0 1 0 (bx A1).length)]⟩, [.row t_u8 1 (bx A1)]⟩ True (aw_region hT ?_) (fun _ => ?_)
  · refine callP n1 ?_
    exact ⟨wk_pick [0] [0, 2, 5, 7, 12] rfl, trivial⟩
  refine aw_cut ⟨⟨86, [(0, i64 vol), (2, i64 m), (5, .p (.box g.pv)), (7, .p (.box p.pv)), (12, .msl 0 1 0 (bx A1 ++ bx A2).length)]⟩, [.row t_u8 1 (bx A1 ++ bx A2)]⟩ True (aw_region hT ?_) (fun _ => ?_)
  · refine callP (af_at n2 _ rfl rfl) ?_
    refine ⟨rfl, ⟨?_, ?_⟩, ?_⟩
    · show ((bx A1).length + (bx A2).length) * 1 ≤ _
      omega
    · show (bx A1).length + (bx A2).length ≤ _
      omega
    exact ⟨wk_pick [1] [0, 2, 5, 7, 12] rfl, trivial⟩
  rw [← bx_app]
  generalize hB2 : A1 ++ A2 = B2
  have lb2 := bx_len B2
  have lc2 : B2.length ≤ 214 := by rw [← hB2, List.length_append]; omega
  refine aw_cut ⟨⟨86, [(0, i64 vol), (2, i64 m), (5, .p (.box g.pv)), (7, .p (.box p.pv)), (12, .msl 0 1 0 (bx B2 ++ bx A3).length)]⟩, [.row t_u8 1 (bx B2 ++ bx A3)]⟩ True (aw_region hT ?_) (fun _ => ?_)
  · refine callP (af_at n3 _ rfl rfl) ?_
    refine ⟨rfl, ⟨?_, ?_⟩, ?_⟩
    · show ((bx B2).length + (bx A3).length) * 1 ≤ _
      omega
    · show (bx B2).length + (bx A3).length ≤ _
      omega
    exact ⟨wk_pick [1] [0, 2, 5, 7, 12] rfl, trivial⟩
  rw [← bx_app]
  generalize hB3 : B2 ++ A3 = B3
  have lb3 := bx_len B3
  have lc3 : B3.length ≤ 428 := by rw [← hB3, List.length_append]; omega
  refine aw_cut ⟨⟨86, [(0, i64 vol), (2, i64 m), (5, .p (.box g.pv)), (7, .p (.box p.pv)), (12, .msl 0 1 0 (bx B3 ++ bx A4).length)]⟩, [.row t_u8 1 (bx B3 ++ bx A4)]⟩ True (aw_region hT ?_) (fun _ => ?_)
  · refine callP (af_at n4 _ rfl rfl) ?_
    refine ⟨rfl, ⟨?_, ?_⟩, ?_⟩
    · show ((bx B3).length + (bx A4).length) * 1 ≤ _
      omega
    · show (bx B3).length + (bx A4).length ≤ _
      omega
    exact ⟨wk_pick [1] [0, 2, 5, 7, 12] rfl, trivial⟩
  rw [← bx_app]
  generalize hB4 : B3 ++ A4 = B4
  have lb4 := bx_len B4
  have lc4 : B4.length ≤ 642 := by rw [← hB4, List.length_append]; omega
  refine aw_cut ⟨⟨86, [(0, i64 vol), (2, i64 m), (5, .p (.box g.pv)), (7, .p (.box p.pv)), (12, .msl 0 1 0 (bx B4).length), (13, bA A5)]⟩, [.row t_u8 1 (bx B4)]⟩ True (aw_region hT ?_) (fun _ => ?_)
  · refine callP (af_at n5 _ rfl rfl) ?_
    exact ⟨wk_pick [0] [0, 2, 5, 7, 12, 13] rfl, trivial⟩
  refine aw_cut ⟨⟨86, [(0, i64 vol), (2, i64 m), (5, .p (.box g.pv)), (7, .p (.box p.pv)), (12, bA (B4 ++ A5))]⟩, []⟩ True (aw_region hT ?_) (fun _ => ?_)
  · refine ⟨rfl, ⟨?_, ?_⟩, ?_⟩
    · show ((bx B4).length + (bx A5).length) * 1 ≤ _
      omega
    · show (bx B4).length + (bx A5).length ≤ _
      omega
    exact ⟨Wk.trans (wk_frzE 12 1 _ (bx_app B4 A5).symm rfl rfl rfl) (wk_pick [] [0, 2, 5, 7, 12] rfl), trivial⟩
  have hB : A1 ++ (A2 ++ (A3 ++ (A4 ++ A5))) = B4 ++ A5 := by rw [← hB4, ← hB3, ← hB2]; simp only [List.append_assoc]
  rw [hB] at ws
  refine aw_seq ?_
  refine aw_draw [] [] hT follows_mixed (by rfl) ?_
  refine neI (y := g.w) (by omega) ?_
  refine ⟨_, af_at ws _ rfl rfl, ?_⟩
  refine aw_ret ?_
  exact retPick [] ⟨Z, rfl, rfl, rfl⟩ rfl
end Go.Proofs.YtinfbclgkghgaaaGreat.AL

/- The layer 11 (ring), plain: which piece a sector tells. -/
namespace Go.Proofs.YtinfbclgkghgaaaGreat.AL
open Go Go.Proofs Go.Proofs.YtinfbclgkghgaaaGreat.AL.Crc

def Pc.zero : Pc := ⟨0, 0, 0, 0, 0, 0, []⟩
def pcOf (B : Blk) : Pc := ⟨B.seq, B.epoch, nv B.body 0, nv B.body 1, nv B.body 2, nv B.body 3, (bytesS (rst B.body 4)).1⟩
def toldP (s : Bytes) (vol : Int) (g : GeoV) (m slot : Int) : Pc × Bool := match (openB s).2 != 0 || (!g.may || (openB s).1.seq.tmod g.w != slot) with
  | true => (Pc.zero, false)
  | false => match ((pcOf (openB s).1).sector vol g m).2 != 0 || !(s == ((pcOf (openB s).1).sector vol g m).1) with
    | true => (Pc.zero, false)
    | false => (pcOf (openB s).1, true)

theorem addr_word {g : GeoV} (hg : g.may = true) {m : Int} (m0 : 0 ≤ m) (m2 : m < 2) {q : Int} (q0 : 0 ≤ q) : 4 ≤ addrB g m (q.tmod g.w) ∧ addrB g m (q.tmod g.w) < 4 + 2 * g.w ∧ wordB (addrB g m (q.tmod g.w)) = true := by
  obtain ⟨g1, g2, _⟩ := g.of_may hg
  have h1 := Int.tmod_nonneg (a := q) g.w (by omega)
  have h2 := Int.tmod_lt_of_pos q (show 0 < g.w by omega)
  unfold addrB wordB
  have : m = 0 ∨ m = 1 := by omega
  rcases this with rfl | rfl
  · refine ⟨by omega, by omega, ?_⟩
    simp only [Bool.and_eq_true, decide_eq_true_eq]; omega
  · refine ⟨by omega, by omega, ?_⟩
    simp only [Bool.and_eq_true, decide_eq_true_eq]; omega
theorem sectorP_ok {p : Pc} {vol : Int} {g : GeoV} {m : Int} (hp : p.may = true) (hg : g.may = true) (hv : wordB vol = true) (m0 : 0 ≤ m) (m2 : m < 2) :
    p.sector vol g m = (sealB (p.blk vol g m).all, 0) ∧ openB (sealB (p.blk vol g m).all) = (p.blk vol g m, 0) := by
  have hl := pcB_len hp
  obtain ⟨h1, h2, _⟩ := p.of_may hp
  have hn : (p.blk vol g m).nums = true := by
    unfold Blk.nums Pc.blk
    have ha := (addr_word hg m0 m2 (q := p.seq) h1.1).2.2
    simp only [List.all_cons, List.all_nil, Bool.and_eq_true, decide_eq_true_eq]
    have w1 : wordB p.epoch = true := by unfold wordB; simp only [Bool.and_eq_true, decide_eq_true_eq]; omega
    have w2 : wordB p.seq = true := by unfold wordB; simp only [Bool.and_eq_true, decide_eq_true_eq]; omega
    exact ⟨by decide, hv, ha, w1, w2, trivial⟩
  have hb : (p.blk vol g m).body.length ≤ 228 := by show (pcB p).length ≤ 228; omega
  refine ⟨?_, open_seal hn hb⟩
  unfold Pc.sector
  rw [hp, hg, hv, decide_eq_false (show ¬ m < 0 by omega), decide_eq_false (show ¬ m ≥ 2 by omega)]
  show (p.blk vol g m).sld = _
  unfold Blk.sld
  rw [hn, decide_eq_false (show ¬ (p.blk vol g m).body.length > 228 by omega)]
theorem sectorP_inv {p : Pc} {vol : Int} {g : GeoV} {m : Int} (h : (p.sector vol g m).2 = 0) : p.may = true ∧ g.may = true ∧ wordB vol = true ∧ 0 ≤ m ∧ m < 2 := by
  unfold Pc.sector at h
  cases hg : p.may && (g.may && (wordB vol && (!decide (m < 0) && !decide (m ≥ 2)))) with
  | false => rw [hg] at h; simp at h
  | true =>
    simp only [Bool.and_eq_true, Bool.not_eq_true', decide_eq_false_iff_not] at hg
    exact ⟨hg.1, hg.2.1, hg.2.2.1, by omega, by omega⟩

theorem four_ok {p : Pc} (hp : p.may = true) : ∀ n ∈ p.four, 0 ≤ n ∧ n < 9223372036854775808 := by
  obtain ⟨h1, h2, h3, h4, h5, h6, h7, h8, h9, h10⟩ := p.of_may hp
  intro n hn
  simp only [List.mem_cons, List.not_mem_nil, or_false] at hn
  rcases hn with rfl | rfl | rfl | rfl <;> omega
theorem rst_app (l : List Int) (r : Bytes) (h : ∀ n ∈ l, 0 ≤ n ∧ n < 9223372036854775808) : ∀ i, i ≤ l.length → rst (numsD l ++ r) i = numsD (l.drop i) ++ r
  | 0, _ => rfl
  | i + 1, hi => by
    have hm := h _ (List.getElem_mem (show i < l.length by omega))
    have hd : l.drop i = l[i] :: l.drop (i + 1) := List.drop_eq_getElem_cons (by omega)
    generalize l[i] = v at hm hd
    show (rst (numsD l ++ r) i).drop (numS (rst (numsD l ++ r) i)).2.1 = _
    rw [rst_app l r h i (by omega), hd]
    show ((numD v.toNat ++ numsD (l.drop (i + 1))) ++ r).drop (numS ((numD v.toNat ++ numsD (l.drop (i + 1))) ++ r)).2.1 = _
    rw [List.append_assoc, numS_numD _ _ (by omega)]
    exact List.drop_left
theorem nv_app (l : List Int) (r : Bytes) (h : ∀ n ∈ l, 0 ≤ n ∧ n < 9223372036854775808) (i : Nat) (v : Int) (hv : l[i]? = some v) : nv (numsD l ++ r) i = v ∧ (numS (rst (numsD l ++ r) i)).2.2 = 0 := by
  have hi := (List.getElem?_eq_some_iff.1 hv).1
  have hd : l.drop i = l[i] :: l.drop (i + 1) := List.drop_eq_getElem_cons hi
  have e : l[i] = v := (List.getElem?_eq_some_iff.1 hv).2
  have hm := h _ (List.getElem_mem hi)
  rw [e] at hd hm
  have e2 : numS (rst (numsD l ++ r) i) = (v.toNat, (numD v.toNat).length, 0) := by
    rw [rst_app l r h i (by omega), hd]
    show numS ((numD v.toNat ++ numsD (l.drop (i + 1))) ++ r) = _
    rw [List.append_assoc]
    exact numS_numD _ _ (by omega)
  unfold nv
  rw [e2]
  exact ⟨by show ((v.toNat : Nat) : Int) = v; omega, rfl⟩
theorem pcB_read {p : Pc} (hp : p.may = true) : (nv (pcB p) 0 = p.frm ∧ nv (pcB p) 1 = p.chain ∧ nv (pcB p) 2 = p.index ∧ nv (pcB p) 3 = p.of_) ∧ bytesS (rst (pcB p) 4) = (p.b, [], 0) ∧ ∀ k, k < 4 → (numS (rst (pcB p) k)).2.2 = 0 := by
  have h := four_ok hp
  rw [pcB_eq]
  refine ⟨⟨(nv_app _ _ h 0 _ rfl).1, (nv_app _ _ h 1 _ rfl).1, (nv_app _ _ h 2 _ rfl).1, (nv_app _ _ h 3 _ rfl).1⟩, ?_, fun k hk => ?_⟩
  · rw [rst_app _ _ h 4 (Nat.le_refl _)]
    have := bytesS_bytesD p.b [] (by have := (p.of_may hp).2.2.2.2.2.2.2.2.2; omega)
    rw [List.append_nil] at this
    exact this
  · exact (nv_app _ _ h k _ (List.getElem?_eq_getElem (show k < p.four.length from hk))).2
theorem pcOf_blk {p : Pc} (hp : p.may = true) (vol : Int) (g : GeoV) (m : Int) : pcOf (p.blk vol g m) = p := by
  obtain ⟨⟨a, b, c, d⟩, e, _⟩ := pcB_read hp
  show (⟨p.seq, p.epoch, nv (pcB p) 0, nv (pcB p) 1, nv (pcB p) 2, nv (pcB p) 3, (bytesS (rst (pcB p) 4)).1⟩ : Pc) = p
  rw [a, b, c, d, e]

theorem toldP_sector {p : Pc} {vol : Int} {g : GeoV} {m : Int} (hp : p.may = true) (hg : g.may = true) (hv : wordB vol = true) (m0 : 0 ≤ m) (m2 : m < 2) : toldP (p.sector vol g m).1 vol g m (p.seq.tmod g.w) = (p, true) := by
  obtain ⟨e1, e2⟩ := sectorP_ok hp hg hv m0 m2
  unfold toldP
  rw [e1]
  simp only
  rw [e2]
  simp only
  rw [pcOf_blk hp, e1, hg]
  show (match (0 : Int) != 0 || (!true || p.seq.tmod g.w != p.seq.tmod g.w) with
    | true => (Pc.zero, false)
    | false => match (0 : Int) != 0 || !(sealB (p.blk vol g m).all == sealB (p.blk vol g m).all) with
      | true => (Pc.zero, false)
      | false => (p, true) : Pc × Bool) = _
  rw [beq_self_eq_true, show (p.seq.tmod g.w != p.seq.tmod g.w) = false by simp]; rfl
/-- What is the sector of what it tells is whole. -/
theorem toldP_cond {s : Bytes} {vol : Int} {g : GeoV} {m : Int} (h : (((pcOf (openB s).1).sector vol g m).2 != 0 || !(s == ((pcOf (openB s).1).sector vol g m).1)) = false) :
    ((pcOf (openB s).1).may = true ∧ g.may = true ∧ wordB vol = true ∧ 0 ≤ m ∧ m < 2) ∧ s = ((pcOf (openB s).1).sector vol g m).1 ∧ (openB s).1.body = pcB (pcOf (openB s).1) ∧ (∀ k, k < 4 → (numS (rst (openB s).1.body k)).2.2 = 0) ∧ (bytesS (rst (openB s).1.body 4)).2.2 = 0 := by
  rw [Bool.or_eq_false_iff] at h
  have h1 : ((pcOf (openB s).1).sector vol g m).2 = 0 := by simpa using h.1
  have h2 : s = ((pcOf (openB s).1).sector vol g m).1 := by simpa using h.2
  obtain ⟨hp, hg, hv, m0, m2⟩ := sectorP_inv h1
  obtain ⟨e1, e2⟩ := sectorP_ok hp hg hv m0 m2
  refine ⟨⟨hp, hg, hv, m0, m2⟩, h2, ?_⟩
  generalize hX : pcOf (openB s).1 = p at h2 hp e1 e2
  rw [e1] at h2
  have h2 : s = sealB (p.blk vol g m).all := h2
  have hb : (openB s).1.body = pcB p := by rw [h2, e2]; rfl
  rw [hb]
  obtain ⟨_, e, f⟩ := pcB_read hp
  exact ⟨rfl, f, by rw [e]⟩
theorem toldP_true {s : Bytes} {vol : Int} {g : GeoV} {m slot : Int} {p : Pc} (h : toldP s vol g m slot = (p, true)) : (p.may = true ∧ g.may = true ∧ wordB vol = true ∧ 0 ≤ m ∧ m < 2) ∧ s = (p.sector vol g m).1 ∧ p.seq.tmod g.w = slot := by
  unfold toldP at h
  cases h1 : (openB s).2 != 0 || (!g.may || (openB s).1.seq.tmod g.w != slot) with
  | true => rw [h1] at h; simp at h
  | false =>
    rw [h1] at h
    cases h2 : ((pcOf (openB s).1).sector vol g m).2 != 0 || !(s == ((pcOf (openB s).1).sector vol g m).1) with
    | true => rw [h2] at h; simp at h
    | false =>
      rw [h2] at h
      obtain ⟨a1, a2, a3, a4, _⟩ := toldP_cond h2
      have h : pcOf (openB s).1 = p := (Prod.mk.injEq _ _ _ _ ▸ h).1
      rw [h] at a1 a2
      refine ⟨a1, a2, ?_⟩
      simp only [Bool.or_eq_false_iff, bne_eq_false_iff_eq] at h1
      have := h1.2.2
      have e : (openB s).1.seq = p.seq := by rw [← h]; rfl
      rw [e] at this; exact this
theorem toldP_false {s : Bytes} {vol : Int} {g : GeoV} {m slot : Int} (h : (toldP s vol g m slot).2 = false) : toldP s vol g m slot = (Pc.zero, false) := by
  unfold toldP at h ⊢
  cases h1 : (openB s).2 != 0 || (!g.may || (openB s).1.seq.tmod g.w != slot) with
  | true => rfl
  | false =>
    rw [h1] at h
    cases h2 : ((pcOf (openB s).1).sector vol g m).2 != 0 || !(s == ((pcOf (openB s).1).sector vol g m).1) with
    | true => rfl
    | false => rw [h2] at h; simp at h
end Go.Proofs.YtinfbclgkghgaaaGreat.AL

/- The layer 11 (ring): which piece a sector tells. -/
namespace Go.Proofs.YtinfbclgkghgaaaGreat.AL
open Go Go.Proofs

abbrev pcC (p : Pc) : ABlk := .cells t_api_Piece p.cv
theorem less_pcN (a b c d e f : Int) : LessCL [i64 a, i64 b, i64 c, i64 d, i64 e, i64 f, .p (.raw (.slice none 0 0))] [i64 a, i64 b, i64 c, i64 d, i64 e, i64 f, bA []] := ⟨.inl rfl, .inl rfl, .inl rfl, .inl rfl, .inl rfl, .inl rfl, .inr (.inr (.inr ⟨1, rfl, rfl⟩)), trivial⟩
abbrev blkC (B : Blk) : ABlk := .cells t_api_Block [i64 B.kind, i64 B.vol, i64 B.addr, i64 B.epoch, i64 B.seq, bA B.body]
def pcK (B : Blk) : Nat → Pc
  | 0 => ⟨B.seq, B.epoch, 0, 0, 0, 0, []⟩
  | 1 => ⟨B.seq, B.epoch, nv B.body 0, 0, 0, 0, []⟩
  | 2 => ⟨B.seq, B.epoch, nv B.body 0, nv B.body 1, 0, 0, []⟩
  | 3 => ⟨B.seq, B.epoch, nv B.body 0, nv B.body 1, nv B.body 2, 0, []⟩
  | _ => ⟨B.seq, B.epoch, nv B.body 0, nv B.body 1, nv B.body 2, nv B.body 3, []⟩

set_option maxRecDepth 20000 in
theorem ring_Told (s : Bytes) (vol : Int) (g : GeoV) (m slot : Int) (hs : s.length ≤ 1000000) : AF Tryz.prog f_ring_Told [bA s, i64 vol, g.av, i64 m, i64 slot] [] (Pure (.tup [(toldP s vol g m slot).1.av, bl (toldP s vol g m slot).2]) []) := by
  refine AF.mono (R := fun r H' => ∃ z, z = toldP s vol g m slot ∧ r = .tup [z.1.av, bl z.2] ∧ H' = []) ?_ (by rintro r H' ⟨b, rfl, rfl, rfl⟩; exact ⟨rfl, rfl⟩)
  have wo := block_Open s hs
  have hbl := openB_len s
  have eT : toldP s vol g m slot = match (openB s).2 != 0 || (!g.may || (openB s).1.seq.tmod g.w != slot) with
    | true => (Pc.zero, false)
    | false => match ((pcOf (openB s).1).sector vol g m).2 != 0 || !(s == ((pcOf (openB s).1).sector vol g m).1) with
      | true => (Pc.zero, false)
      | false => (pcOf (openB s).1, true) := rfl
  generalize toldP s vol g m slot = Z at eT
  generalize openB s = O at wo hbl eT
  obtain ⟨B, e⟩ := O
  have wo : AF Tryz.prog f_block_Open [bA s] [] (Pure (.tup [B.av, i64 e]) []) := wo
  have hbl : B.body.length ≤ s.length := hbl
  have eT : Z = match e != 0 || (!g.may || B.seq.tmod g.w != slot) with
    | true => (Pc.zero, false)
    | false => match ((pcOf B).sector vol g m).2 != 0 || !(s == ((pcOf B).sector vol g m).1) with
      | true => (Pc.zero, false)
      | false => (pcOf B, true) := eT
  have wm := geo_May g
  refine af_body hT F_ring_Told rfl rfl N_ring_Told rfl ?_
  refine aw_seq (aw_region hT ?_)
  refine aw_wk (wk_boxL 0 g.pv rfl rfl) ?_
  refine aw_wk (wk_cells 1 _ rfl (less_pcN 0 0 0 0 0 0)) ?_
  refine aw_cut ⟨⟨92, [(0, bA s), (1, i64 vol), (3, i64 m), (4, i64 slot), (7, .p (.box g.pv)), (10, .ref 0 0), (12, .ref 1 0), (13, i64 e)]⟩, [pcC Pc.zero, blkC B]⟩ True (aw_region hT ?_) (fun _ => ?_)
  · refine callP (af_at wo _ rfl rfl) ?_
    exact ⟨wk_pick [1, 2] [0, 1, 3, 4, 7, 10, 12, 13] rfl, trivial⟩
  refine aw_cut ⟨⟨92, [(0, bA s), (1, i64 vol), (3, i64 m), (7, .p (.box g.pv)), (10, .ref 0 0), (12, .ref 1 0)]⟩, [pcC Pc.zero, blkC B]⟩ ((e != 0 || (!g.may || B.seq.tmod g.w != slot)) = false) (aw_seq (aw_region hT ?_)) ?_
  · refine boolI (fun h0 => ?_) (fun h0 => ?_)
    · have h0 : (e != 0) = true := h0
      rw [h0] at eT
      refine aw_cond ?_
      refine aw_seq (aw_region hT ?_)
      refine aw_wk (wk_cells 0 _ rfl (less_pcN 0 0 0 0 0 0)) ?_
      refine aw_ret ?_
      exact retPick [] ⟨_, eT.symm, rfl, rfl⟩ rfl
    have h0 : (e != 0) = false := h0
    refine callP (af_at wm _ rfl rfl) ?_
    refine boolI (fun h1 => ?_) (fun h1 => ?_)
    · have h1 : (!g.may) = true := h1
      rw [h0, h1] at eT
      refine aw_cond ?_
      refine aw_seq (aw_region hT ?_)
      refine aw_wk (wk_cells 0 _ rfl (less_pcN 0 0 0 0 0 0)) ?_
      refine aw_ret ?_
      exact retPick [] ⟨_, eT.symm, rfl, rfl⟩ rfl
    have h1 : (!g.may) = false := h1
    have hg := g.of_may ((Bool.not_eq_false' _).mp h1)
    refine neI (y := g.w) (by omega) ?_
    refine aw_cond (boolI (fun h2 => ?_) (fun h2 => ?_))
    · have h2 : (B.seq.tmod g.w != slot) = true := h2
      rw [h0, h1, h2] at eT
      refine aw_seq (aw_region hT ?_)
      refine aw_wk (wk_cells 0 _ rfl (less_pcN 0 0 0 0 0 0)) ?_
      refine aw_ret ?_
      exact retPick [] ⟨_, eT.symm, rfl, rfl⟩ rfl
    have h2 : (B.seq.tmod g.w != slot) = false := h2
    exact aw_skip ⟨wk_pick [0, 1] [0, 1, 3, 7, 10, 12] rfl, by rw [h0, h1, h2]; rfl⟩
  intro hc
  rw [hc] at eT
  refine aw_cut ⟨⟨92, [(0, bA s), (1, i64 vol), (3, i64 m), (7, .p (.box g.pv)), (10, .ref 0 0), (12, .ref 1 0), (14, .ref 2 0)]⟩, [pcC Pc.zero, blkC B, pcC (pcK B 0)]⟩ True (aw_region hT ?_) (fun _ => ?_)
  · refine ⟨Wk.trans (wk_cells 2 _ rfl (less_pcN B.seq B.epoch 0 0 0 0)) (wk_pick [0, 1, 2] [0, 1, 3, 7, 10, 12, 14] rfl), trivial⟩
  have wn := code_NewIn B.body (by omega)
  refine aw_cut ⟨⟨92, [(0, bA s), (1, i64 vol), (3, i64 m), (7, .p (.box g.pv)), (10, .ref 0 0), (14, .ref 1 0), (15, .ref 2 0)]⟩, [pcC Pc.zero, pcC (pcK B 0), inC B.body]⟩ True (aw_region hT ?_) (fun _ => ?_)
  · refine callP (af_lift wn _ rfl) ?_
    exact ⟨wk_pick [0, 2, 3] [0, 1, 3, 7, 10, 14, 15] rfl, trivial⟩
  have rl := rst_len B.body
  refine aw_cut ⟨⟨92, [(0, bA s), (1, i64 vol), (3, i64 m), (7, .p (.box g.pv)), (10, .ref 0 0), (14, .ref 1 0), (15, .ref 2 0)]⟩, [pcC Pc.zero, pcC (pcK B 4), inC (rst B.body 4)]⟩ True ?_ (fun _ => ?_)
  · refine aw_cut ⟨⟨92, [(0, bA s), (1, i64 vol), (3, i64 m), (7, .p (.box g.pv)), (10, .ref 0 0), (14, .ref 1 0), (15, .ref 2 0), (54, .msl 3 1 0 4), (55, i64 4), (56, i64 0)]⟩, [pcC Pc.zero, pcC (pcK B 0), inC B.body, .cells t_p_i64 [.ref 1 2, .ref 1 3, .ref 1 4, .ref 1 5]]⟩ True (aw_region hT ?_) (fun _ => ?_)
    · exact ⟨wk_pick [0, 1, 2, 3] [0, 1, 3, 7, 10, 14, 15, 54, 55, 56] rfl, trivial⟩
    refine aw_block ?_
    refine aw_loopW (fun n st => ∃ (k : Nat) (j : Int) (P : Pc) (R : Bytes), n + k = 4 ∧ j = k ∧ P = pcK B k ∧ R = rst B.body k ∧ st = ⟨⟨92, [(0, bA s), (1, i64 vol), (3, i64 m), (7, .p (.box g.pv)), (10, .ref 0 0), (14, .ref 1 0), (15, .ref 2 0), (54, .msl 3 1 0 4), (55, i64 4), (56, i64 j)]⟩, [pcC Pc.zero, pcC P, inC R, .cells t_p_i64 [.ref 1 2, .ref 1 3, .ref 1 4, .ref 1 5]]⟩) 4 ⟨⟨92, _⟩, _⟩ (wk_pick [0, 1, 2, 3] [0, 1, 3, 7, 10, 14, 15, 54, 55, 56] rfl) ⟨0, 0, _, _, rfl, rfl, rfl, rfl, rfl⟩ ?_
    rintro n st ⟨k, j, P, R, hnk, rfl, hP, hR, rfl⟩
    refine aw_seq (aw_region hT ?_)
    refine aw_seq (aw_cond (boolI (fun h => ?_) (fun h => ?_)))
    · have hk := of_decide_eq_true (show decide ((k : Int) < 4) = true from h)
      have w := In_Num R (by have := rl k; rw [hR]; omega)
      have eR : rst B.body (k + 1) = R.drop (numS R).2.1 := by rw [hR]; rfl
      have eV : nv B.body k = ((numS R).1 : Int) := by rw [hR]; rfl
      generalize numS R = Y at w eR eV
      obtain ⟨v, q, f⟩ := Y
      have w : AFm Tryz.prog 1 f_code_In_Num [.ref 0 0] [inC R] (Pure (.tup [i64 v, i64 f]) [inC (R.drop q)]) := w
      have eR : rst B.body (k + 1) = R.drop q := eR
      have eV : nv B.body k = (v : Int) := eV
      generalize R.drop q = R' at w eR
      refine aw_skip ?_
      refine aw_cut2 (fun st => ∃ P', P' = pcK B (k + 1) ∧ st = ⟨⟨92, [(0, bA s), (1, i64 vol), (3, i64 m), (7, .p (.box g.pv)), (10, .ref 0 0), (14, .ref 1 0), (15, .ref 2 0), (54, .msl 3 1 0 4), (55, i64 4), (56, i64 k)]⟩, [pcC Pc.zero, pcC P', inC R', .cells t_p_i64 [.ref 1 2, .ref 1 3, .ref 1 4, .ref 1 5]]⟩) (aw_block ?_) ?_
      · have hk4 : k = 0 ∨ k = 1 ∨ k = 2 ∨ k = 3 := by omega
        rcases hk4 with rfl | rfl | rfl | rfl
        · refine aw_seq (aw_region hT ?_)
          refine ⟨⟨Int.natCast_nonneg _, by omega⟩, ?_⟩
          refine aw_region hT ?_
          refine callP (af_in [2] w rfl rfl rfl) ?_
          refine ⟨_, wk_pick [0, 1, 2, 3] [0, 1, 3, 7, 10, 14, 15, 54, 55, 56] rfl, ⟨P.seq, P.epoch, (v : Int), P.chain, P.index, P.of_, P.b⟩, ?_, rfl⟩
          rw [← eV, hP]; rfl
        · refine aw_seq (aw_region hT ?_)
          refine ⟨⟨Int.natCast_nonneg _, by omega⟩, ?_⟩
          refine aw_region hT ?_
          refine callP (af_in [2] w rfl rfl rfl) ?_
          refine ⟨_, wk_pick [0, 1, 2, 3] [0, 1, 3, 7, 10, 14, 15, 54, 55, 56] rfl, ⟨P.seq, P.epoch, P.frm, (v : Int), P.index, P.of_, P.b⟩, ?_, rfl⟩
          rw [← eV, hP]; rfl
        · refine aw_seq (aw_region hT ?_)
          refine ⟨⟨Int.natCast_nonneg _, by omega⟩, ?_⟩
          refine aw_region hT ?_
          refine callP (af_in [2] w rfl rfl rfl) ?_
          refine ⟨_, wk_pick [0, 1, 2, 3] [0, 1, 3, 7, 10, 14, 15, 54, 55, 56] rfl, ⟨P.seq, P.epoch, P.frm, P.chain, (v : Int), P.of_, P.b⟩, ?_, rfl⟩
          rw [← eV, hP]; rfl
        · refine aw_seq (aw_region hT ?_)
          refine ⟨⟨Int.natCast_nonneg _, by omega⟩, ?_⟩
          refine aw_region hT ?_
          refine callP (af_in [2] w rfl rfl rfl) ?_
          refine ⟨_, wk_pick [0, 1, 2, 3] [0, 1, 3, 7, 10, 14, 15, 54, 55, 56] rfl, ⟨P.seq, P.epoch, P.frm, P.chain, P.index, (v : Int), P.b⟩, ?_, rfl⟩
          rw [← eV, hP]; rfl
      · rintro _ ⟨P', hP', rfl⟩
        refine aw_region hT ?_
        refine ⟨n - 1, by omega, _, wk_pick [0, 1, 2, 3] [0, 1, 3, 7, 10, 14, 15, 54, 55, 56] rfl, k + 1, IntKind.i64.wrap ((k : Int) + 1), P', R', by omega, ?_, hP', eR.symm, rfl⟩
        rw [wrap64 _ (by omega) (by omega)]; rfl
    · have hk : ¬ (k : Int) < 4 := of_decide_eq_false h
      have hk4 : k = 4 := by omega
      rw [hk4] at hP hR
      rw [← hP, ← hR]
      refine aw_exit ?_
      exact ⟨wk_pick [0, 1, 2] [0, 1, 3, 7, 10, 14, 15] rfl, trivial⟩
  have wb := In_Bytes (rst B.body 4) (by have := rl 4; omega)
  have eP : pcOf B = ⟨B.seq, B.epoch, nv B.body 0, nv B.body 1, nv B.body 2, nv B.body 3, (bytesS (rst B.body 4)).1⟩ := rfl
  generalize bytesS (rst B.body 4) = Y at wb eP
  obtain ⟨x, y, f⟩ := Y
  have wb : AFm Tryz.prog 1 f_code_In_Bytes [.ref 0 0] [inC (rst B.body 4)] (Pure (.tup [bA x, i64 f]) [inC y]) := wb
  have eP : pcOf B = ⟨B.seq, B.epoch, nv B.body 0, nv B.body 1, nv B.body 2, nv B.body 3, x⟩ := eP
  generalize rst B.body 4 = R at wb
  generalize pcOf B = P at eP eT
  refine aw_cut ⟨⟨92, [(0, bA s), (1, i64 vol), (3, i64 m), (7, .p (.box g.pv)), (10, .ref 0 0), (14, .ref 1 0)]⟩, [pcC Pc.zero, pcC P]⟩ True (aw_region hT ?_) (fun _ => ?_)
  · refine callP (af_in [2] wb rfl rfl rfl) ?_
    rw [eP]
    exact ⟨wk_pick [0, 1] [0, 1, 3, 7, 10, 14] rfl, trivial⟩
  have wS := ring_Sector vol g m P
  generalize P.sector vol g m = Y at wS eT
  obtain ⟨t, f⟩ := Y
  have wS : AF Tryz.prog f_ring_Sector [i64 vol, g.av, i64 m, P.av] [] (Pure (.tup [bA t, i64 f]) []) := wS
  have eT : Z = match f != 0 || !(s == t) with
    | true => (Pc.zero, false)
    | false => (P, true) := eT
  have wE := bytes_Equal s t
  refine aw_cut ⟨⟨92, [(10, .ref 0 0), (14, .ref 1 0)]⟩, [pcC Pc.zero, pcC P]⟩ ((f != 0 || !(s == t)) = false) (aw_seq (aw_region hT ?_)) ?_
  · refine callP (af_at wS _ rfl rfl) ?_
    refine aw_seq (aw_region hT ?_)
    refine boolI (fun h0 => ?_) (fun h0 => ?_)
    · have h0 : (f != 0) = true := h0
      rw [h0] at eT
      refine aw_cond ?_
      refine aw_seq (aw_region hT ?_)
      refine aw_wk (wk_cells 0 _ rfl (less_pcN 0 0 0 0 0 0)) ?_
      refine aw_ret ?_
      exact retPick [] ⟨_, eT.symm, rfl, rfl⟩ rfl
    have h0 : (f != 0) = false := h0
    refine callP (af_at wE _ rfl rfl) ?_
    refine aw_cond (boolI (fun h1 => ?_) (fun h1 => ?_))
    · have h1 : (!(s == t)) = true := h1
      rw [h0, h1] at eT
      refine aw_seq (aw_region hT ?_)
      refine aw_wk (wk_cells 0 _ rfl (less_pcN 0 0 0 0 0 0)) ?_
      refine aw_ret ?_
      exact retPick [] ⟨_, eT.symm, rfl, rfl⟩ rfl
    have h1 : (!(s == t)) = false := h1
    exact aw_skip ⟨wk_pick [0, 1] [10, 14] rfl, by rw [h0, h1]; rfl⟩
  intro hc
  rw [hc] at eT
  refine aw_seq (aw_region hT ?_)
  refine aw_ret ?_
  exact retPick [] ⟨_, eT.symm, rfl, rfl⟩ rfl
end Go.Proofs.YtinfbclgkghgaaaGreat.AL

/- The document's layer 11: which piece a sector tells. -/
namespace Go.Proofs.YtinfbclgkghgaaaGreat.AL
open Go Go.Proofs

set_option maxHeartbeats 200000 in
set_option maxRecDepth 20000 in
theorem ref11_Told (s : Bytes) (vol : Int) (g : GeoV) (m slot : Int) (hs : s.length ≤ 1000000) : AF Tryz.prog f_ref11_Told [bA s, i64 vol, g.av, i64 m, i64 slot] [] (Pure (.tup [(toldP s vol g m slot).1.av, bl (toldP s vol g m slot).2]) []) := by
  refine AF.mono (R := fun r H' => ∃ z, z = toldP s vol g m slot ∧ r = .tup [z.1.av, bl z.2] ∧ H' = []) ?_ (by rintro r H' ⟨b, rfl, rfl, rfl⟩; exact ⟨rfl, rfl⟩)
  have wo := ref07_Open s hs
  have hbl := openB_len s
  have hC : (((pcOf (openB s).1).sector vol g m).2 != 0 || !(s == ((pcOf (openB s).1).sector vol g m).1)) = false → (∀ k, k < 4 → (numS (rst (openB s).1.body k)).2.2 = 0) ∧ (bytesS (rst (openB s).1.body 4)).2.2 = 0 := fun h => (toldP_cond h).2.2.2
  have eT : toldP s vol g m slot = match (openB s).2 != 0 || (!g.may || (openB s).1.seq.tmod g.w != slot) with
    | true => (Pc.zero, false)
    | false => match ((pcOf (openB s).1).sector vol g m).2 != 0 || !(s == ((pcOf (openB s).1).sector vol g m).1) with
      | true => (Pc.zero, false)
      | false => (pcOf (openB s).1, true) := rfl
  generalize toldP s vol g m slot = Z at eT
  generalize openB s = O at wo hbl eT hC
  obtain ⟨B, e⟩ := O
  have wo : AF Tryz.prog f_ref07_Open [bA s] [] (Pure (.tup [B.av, i64 e]) []) := wo
  have hbl : B.body.length ≤ s.length := hbl
  dsimp only at hC
  have eT : Z = match e != 0 || (!g.may || B.seq.tmod g.w != slot) with
    | true => (Pc.zero, false)
    | false => match ((pcOf B).sector vol g m).2 != 0 || !(s == ((pcOf B).sector vol g m).1) with
      | true => (Pc.zero, false)
      | false => (pcOf B, true) := eT
  have wm := ref08_May g
  refine af_body hT F_ref11_Told rfl rfl N_ref11_Told rfl ?_
  refine aw_seq (aw_region hT ?_)
  refine aw_wk (wk_boxL 0 g.pv rfl rfl) ?_
  refine aw_wk (wk_cells 1 _ rfl (less_pcN 0 0 0 0 0 0)) ?_
  refine aw_cut ⟨⟨117, [(0, bA s), (1, i64 vol), (3, i64 m), (4, i64 slot), (7, .p (.box g.pv)), (10, .ref 0 0), (12, .ref 1 0), (13, i64 e)]⟩, [pcC Pc.zero, blkC B]⟩ True (aw_region hT ?_) (fun _ => ?_)
  · refine callP (af_at wo _ rfl rfl) ?_
    exact ⟨wk_pick [1, 2] [0, 1, 3, 4, 7, 10, 12, 13] rfl, trivial⟩
  refine aw_seq (aw_region hT ?_)
  refine callP (af_at wm _ rfl rfl) ?_
  refine aw_cut ⟨⟨117, [(0, bA s), (1, i64 vol), (3, i64 m), (7, .p (.box g.pv)), (10, .ref 0 0), (12, .ref 1 0)]⟩, [pcC Pc.zero, blkC B]⟩ ((e != 0 || (!g.may || B.seq.tmod g.w != slot)) = false) (aw_seq (aw_region hT ?_)) ?_
  · refine boolI (fun h0 => ?_) (fun h0 => ?_)
    · have h0 : (e != 0) = true := h0
      rw [h0] at eT
      refine aw_cond ?_
      refine aw_seq (aw_region hT ?_)
      refine aw_wk (wk_cells 0 _ rfl (less_pcN 0 0 0 0 0 0)) ?_
      refine aw_ret ?_
      exact retPick [] ⟨_, eT.symm, rfl, rfl⟩ rfl
    have h0 : (e != 0) = false := h0
    refine boolI (fun h1 => ?_) (fun h1 => ?_)
    · have h1 : (!g.may) = true := h1
      rw [h0, h1] at eT
      refine aw_cond ?_
      refine aw_seq (aw_region hT ?_)
      refine aw_wk (wk_cells 0 _ rfl (less_pcN 0 0 0 0 0 0)) ?_
      refine aw_ret ?_
      exact retPick [] ⟨_, eT.symm, rfl, rfl⟩ rfl
    have h1 : (!g.may) = false := h1
    have hg := g.of_may ((Bool.not_eq_false' _).mp h1)
    refine neI (y := g.w) (by omega) ?_
    refine aw_cond (boolI (fun h2 => ?_) (fun h2 => ?_))
    · have h2 : (B.seq.tmod g.w != slot) = true := h2
      rw [h0, h1, h2] at eT
      refine aw_seq (aw_region hT ?_)
      refine aw_wk (wk_cells 0 _ rfl (less_pcN 0 0 0 0 0 0)) ?_
      refine aw_ret ?_
      exact retPick [] ⟨_, eT.symm, rfl, rfl⟩ rfl
    have h2 : (B.seq.tmod g.w != slot) = false := h2
    exact aw_skip ⟨wk_pick [0, 1] [0, 1, 3, 7, 10, 12] rfl, by rw [h0, h1, h2]; rfl⟩
  intro hc
  rw [hc] at eT
  generalize hcc : (((pcOf B).sector vol g m).2 != 0 || !(s == ((pcOf B).sector vol g m).1)) = c at hC eT
  have bad : ∀ k, k < 4 → (numS (rst B.body k)).2.2 ≠ 0 → (Pc.zero, false) = Z := fun k hk hne => by
    cases c with
    | true => exact eT.symm
    | false => exact absurd ((hC rfl).1 k hk) hne
  have bad2 : (bytesS (rst B.body 4)).2.2 ≠ 0 → (Pc.zero, false) = Z := fun hne => by
    cases c with
    | true => exact eT.symm
    | false => exact absurd (hC rfl).2 hne
  refine aw_cut ⟨⟨117, [(0, bA s), (1, i64 vol), (3, i64 m), (7, .p (.box g.pv)), (10, .ref 0 0), (12, .ref 1 0), (15, .msl 2 1 0 0)]⟩, [pcC Pc.zero, blkC B, .row t_i64 1 []]⟩ True (aw_region hT ?_) (fun _ => ?_)
  · exact ⟨Wk.trans (wk_phantom t_i64 1) (Wk.trans (wk_nil 15 2 1 0 rfl) (wk_pick [0, 1, 2] [0, 1, 3, 7, 10, 12, 15] rfl)), trivial⟩
  refine aw_cut ⟨⟨117, [(0, bA s), (1, i64 vol), (3, i64 m), (7, .p (.box g.pv)), (10, .ref 0 0), (12, .ref 1 0), (15, .msl 2 1 0 0), (16, bA B.body)]⟩, [pcC Pc.zero, blkC B, .row t_i64 1 []]⟩ True (aw_region hT ?_) (fun _ => ?_)
  · exact ⟨wk_pick [0, 1, 2] [0, 1, 3, 7, 10, 12, 15, 16] rfl, trivial⟩
  refine aw_cut ⟨⟨117, [(0, bA s), (1, i64 vol), (3, i64 m), (7, .p (.box g.pv)), (10, .ref 0 0), (12, .ref 1 0), (15, .p (.sl 1 (ix [nv B.body 0, nv B.body 1, nv B.body 2, nv B.body 3]))), (16, bA (rst B.body 4))]⟩, [pcC Pc.zero, blkC B]⟩ True (aw_seq (aw_region hT ?_)) (fun _ => ?_)
  · refine aw_block ?_
    refine aw_loopW (fun n st => ∃ (k : Nat) (j : Int) (L : List Int) (R : Bytes), n + k = 4 ∧ j = k ∧ L = (List.range k).map (nv B.body) ∧ R = rst B.body k ∧ st = ⟨⟨117, [(0, bA s), (1, i64 vol), (3, i64 m), (7, .p (.box g.pv)), (10, .ref 0 0), (12, .ref 1 0), (15, .msl 2 1 0 (ix L).length), (16, bA R), (17, i64 j)]⟩, [pcC Pc.zero, blkC B, .row t_i64 1 (ix L)]⟩) 4 ⟨⟨117, _⟩, [_, _, _]⟩ (wk_pick [0, 1, 2] [0, 1, 3, 7, 10, 12, 15, 16, 17] rfl) ⟨0, 0, [], _, rfl, rfl, rfl, rfl, rfl⟩ ?_
    rintro n st ⟨k, j, L, R, hnk, rfl, hL, hR, rfl⟩
    have hLl : L.length = k := by rw [hL]; simp
    have hil := ixl L
    have hRl := rst_len B.body k
    rw [← hR] at hRl
    refine aw_seq (aw_seq (aw_region hT ?_))
    refine aw_cond (boolI (fun h => ?_) (fun h => ?_))
    · have hk : k < 4 := by
        have := of_decide_eq_true (show decide ((k : Int) < 4) = true from h)
        omega
      have w := ref05_GetNum R (by omega)
      have bad := bad k hk
      rw [← hR] at bad
      have eR : rst B.body (k + 1) = R.drop (numS R).2.1 := by rw [hR]; rfl
      have eL : (List.range (k + 1)).map (nv B.body) = L ++ [((numS R).1 : Int)] := by rw [List.range_succ, List.map_append, hL, hR]; rfl
      generalize numS R = Y at w bad eR eL
      obtain ⟨v, q, f⟩ := Y
      have w : AF Tryz.prog f_ref05_GetNum [bA R] [] (Pure (.tup [i64 v, bA (R.drop q), i64 f]) []) := w
      have bad : f ≠ 0 → (Pc.zero, false) = Z := bad
      have eR : rst B.body (k + 1) = R.drop q := eR
      have eL : (List.range (k + 1)).map (nv B.body) = L ++ [(v : Int)] := eL
      generalize R.drop q = R' at w eR
      refine aw_skip ?_
      refine aw_cut ⟨⟨117, [(0, bA s), (1, i64 vol), (3, i64 m), (7, .p (.box g.pv)), (10, .ref 0 0), (12, .ref 1 0), (15, .msl 2 1 0 (ix (L ++ [(v : Int)])).length), (16, bA R'), (17, i64 k)]⟩, [pcC Pc.zero, blkC B, .row t_i64 1 (ix (L ++ [(v : Int)]))]⟩ True (aw_block (aw_seq (aw_region hT ?_))) (fun _ => ?_)
      · refine callP (af_at w _ rfl rfl) ?_
        refine aw_cut ⟨⟨117, [(0, bA s), (1, i64 vol), (3, i64 m), (7, .p (.box g.pv)), (10, .ref 0 0), (12, .ref 1 0), (15, .msl 2 1 0 (ix L).length), (17, i64 k), (18, i64 v), (19, bA R')]⟩, [pcC Pc.zero, blkC B, .row t_i64 1 (ix L)]⟩ True (aw_seq (aw_region hT ?_)) (fun _ => ?_)
        · refine aw_cond (boolI (fun h => ?_) (fun h => ?_))
          · have h : (f != 0) = true := h
            refine aw_seq (aw_region hT ?_)
            refine aw_wk (wk_cells 0 _ rfl (less_pcN 0 0 0 0 0 0)) ?_
            refine aw_ret ?_
            exact retPick [] ⟨_, bad (by simpa using h), rfl, rfl⟩ rfl
          · exact aw_skip ⟨wk_pick [0, 1, 2] [0, 1, 3, 7, 10, 12, 15, 17, 18, 19] rfl, trivial⟩
        refine aw_seq (aw_regionF (fun k => Nat.beq 2 k) hT ?_)
        refine ⟨⟨rfl, rfl⟩, ?_⟩
        refine ⟨rfl, ⟨?_, ?_⟩, ?_⟩
        · show ((ix L).length + 1) * 8 ≤ 140737488355328
          omega
        · show (ix L).length + 1 ≤ 140737488355328
          omega
        refine aw_region hT ?_
        rw [ix_snoc]
        exact ⟨wk_pick [0, 1, 3] [0, 1, 3, 7, 10, 12, 15, 16, 17] rfl, trivial⟩
      · refine aw_region hT ?_
        refine ⟨n - 1, by omega, _, wk_pick [0, 1, 2] [0, 1, 3, 7, 10, 12, 15, 16, 17] rfl, k + 1, IntKind.i64.wrap ((k : Int) + 1), L ++ [(v : Int)], R', by omega, ?_, eL.symm, eR.symm, rfl⟩
        rw [wrap64 _ (by omega) (by omega)]; rfl
    · have hk : ¬ (k : Int) < 4 := of_decide_eq_false h
      have hk4 : k = 4 := by omega
      have hL4 : L = [nv B.body 0, nv B.body 1, nv B.body 2, nv B.body 3] := by rw [hL, hk4]; rfl
      rw [hk4] at hR
      rw [← hR]
      refine aw_exit ?_
      refine ⟨Wk.trans (wk_frzE 15 2 _ (by rw [hL4]) rfl rfl rfl) (wk_pick [0, 1] [0, 1, 3, 7, 10, 12, 15, 16] rfl), trivial⟩
  have wb := ref05_GetBytes (rst B.body 4) (by have := rst_len B.body 4; omega)
  have eP : pcOf B = ⟨B.seq, B.epoch, nv B.body 0, nv B.body 1, nv B.body 2, nv B.body 3, (bytesS (rst B.body 4)).1⟩ := rfl
  generalize bytesS (rst B.body 4) = Y at wb eP bad2
  obtain ⟨x, y, f⟩ := Y
  have wb : AF Tryz.prog f_ref05_GetBytes [bA (rst B.body 4)] [] (Pure (.tup [bA x, bA y, i64 f]) []) := wb
  have bad2 : f ≠ 0 → (Pc.zero, false) = Z := bad2
  have eP : pcOf B = ⟨B.seq, B.epoch, nv B.body 0, nv B.body 1, nv B.body 2, nv B.body 3, x⟩ := eP
  generalize rst B.body 4 = R at wb
  generalize pcOf B = P at eP eT hcc
  clear bad hC
  generalize nv B.body 0 = a0 at eP
  generalize nv B.body 1 = a1 at eP
  generalize nv B.body 2 = a2 at eP
  generalize nv B.body 3 = a3 at eP
  refine aw_seq (aw_region hT ?_)
  refine callP (af_at wb _ rfl rfl) ?_
  refine aw_cut ⟨⟨117, [(0, bA s), (1, i64 vol), (3, i64 m), (7, .p (.box g.pv)), (10, .ref 0 0), (12, .ref 1 0), (15, .p (.sl 1 (ix [a0, a1, a2, a3]))), (21, bA x)]⟩, [pcC Pc.zero, blkC B]⟩ True (aw_seq (aw_region hT ?_)) (fun _ => ?_)
  · refine aw_cond (boolI (fun h => ?_) (fun h => ?_))
    · have h : (f != 0) = true := h
      refine aw_seq (aw_region hT ?_)
      refine aw_wk (wk_cells 0 _ rfl (less_pcN 0 0 0 0 0 0)) ?_
      refine aw_ret ?_
      exact retPick [] ⟨_, bad2 (by simpa using h), rfl, rfl⟩ rfl
    · exact aw_skip ⟨wk_pick [0, 1] [0, 1, 3, 7, 10, 12, 15, 21] rfl, trivial⟩
  have wS := ref11_Sector vol g m P
  generalize P.sector vol g m = Y at wS hcc
  obtain ⟨t, f⟩ := Y
  have wS : AF Tryz.prog f_ref11_Sector [i64 vol, g.av, i64 m, P.av] [] (Pure (.tup [bA t, i64 f]) []) := wS
  have hcc : (f != 0 || !(s == t)) = c := hcc
  have wM := ref04_Same s t hs
  refine aw_cut ⟨⟨117, [(0, bA s), (1, i64 vol), (3, i64 m), (7, .p (.box g.pv)), (10, .ref 0 0), (24, .ref 1 0)]⟩, [pcC Pc.zero, pcC P]⟩ True ?_ (fun _ => ?_)
  · refine aw_draw [18, 19] [] hT follows_mixed (by rfl) ?_
    refine ⟨by decide, optI rfl ?_⟩
    refine ⟨by decide, optI rfl ?_⟩
    refine ⟨by decide, optI rfl ?_⟩
    refine ⟨by decide, optI rfl ?_⟩
    repeat refine ⟨rfl, ?_⟩
    rw [eP]
    exact ⟨wk_pick [0, 2] [0, 1, 3, 7, 10, 24] rfl, trivial⟩
  refine aw_cut ⟨⟨117, [(0, bA s), (10, .ref 0 0), (24, .ref 1 0), (25, bA t), (26, i64 f)]⟩, [pcC Pc.zero, pcC P]⟩ True (aw_region hT ?_) (fun _ => ?_)
  · refine callP (af_at wS _ rfl rfl) ?_
    exact ⟨wk_pick [0, 1] [0, 10, 24, 25, 26] rfl, trivial⟩
  refine aw_cut ⟨⟨117, [(10, .ref 0 0), (24, .ref 1 0), (26, i64 f), (27, bl (s == t))]⟩, [pcC Pc.zero, pcC P]⟩ True (aw_region hT ?_) (fun _ => ?_)
  · refine callP (af_at wM _ rfl rfl) ?_
    exact ⟨wk_pick [0, 1] [10, 24, 26, 27] rfl, trivial⟩
  refine aw_cut ⟨⟨117, [(10, .ref 0 0), (24, .ref 1 0)]⟩, [pcC Pc.zero, pcC P]⟩ (c = false) (aw_seq (aw_region hT ?_)) ?_
  · refine boolI (fun h0 => ?_) (fun h0 => ?_)
    · have h0 : (f != 0) = true := h0
      rw [← hcc, h0] at eT
      refine aw_cond ?_
      refine aw_seq (aw_region hT ?_)
      refine aw_wk (wk_cells 0 _ rfl (less_pcN 0 0 0 0 0 0)) ?_
      refine aw_ret ?_
      exact retPick [] ⟨_, eT.symm, rfl, rfl⟩ rfl
    have h0 : (f != 0) = false := h0
    refine aw_cond (boolI (fun h1 => ?_) (fun h1 => ?_))
    · have h1 : (!(s == t)) = true := h1
      rw [← hcc, h0, h1] at eT
      refine aw_seq (aw_region hT ?_)
      refine aw_wk (wk_cells 0 _ rfl (less_pcN 0 0 0 0 0 0)) ?_
      refine aw_ret ?_
      exact retPick [] ⟨_, eT.symm, rfl, rfl⟩ rfl
    have h1 : (!(s == t)) = false := h1
    exact aw_skip ⟨wk_pick [0, 1] [10, 24] rfl, by rw [← hcc, h0, h1]; rfl⟩
  intro hc
  rw [hc] at eT
  refine aw_seq (aw_region hT ?_)
  refine aw_ret ?_
  exact retPick [] ⟨_, eT.symm, rfl, rfl⟩ rfl
end Go.Proofs.YtinfbclgkghgaaaGreat.AL

/- The layer 11 (ring): at most two pieces are sorted. -/
namespace Go.Proofs.YtinfbclgkghgaaaGreat.AL
open Go Go.Proofs

def pX (l : List Pc) : List (List PV) := l.map Pc.pv
theorem pX_len (l : List Pc) : (pX l).length = l.length := by simp [pX]
theorem pX_get {l : List Pc} {i : Nat} {p : Pc} (h : l[i]? = some p) : (pX l)[i]? = some p.pv := by rw [pX, List.getElem?_map, h]; rfl
def sort2 : List Pc → List Pc
  | [x, y] => match decide (y.epoch > x.epoch) with | true => [y, x] | false => [x, y]
  | l => l
theorem sort2_eq (x y : Pc) : sort2 [x, y] = match decide (y.epoch > x.epoch) with | true => [y, x] | false => [x, y] := rfl
def EpOk (l : List Pc) : Prop := ∀ p ∈ l, 0 ≤ p.epoch ∧ p.epoch ≤ 4294967295
abbrev cmpF : AV := .clo (.func f_ring_reader_told_1) []

theorem told_1 (x y : Pc) : AF Tryz.prog f_ring_reader_told_1 [x.av, y.av] [] (Pure (i64 (IntKind.i64.wrap (y.epoch - x.epoch))) []) := by
  refine af_body hT F_ring_reader_told_1 rfl rfl N_ring_reader_told_1 rfl ?_
  refine aw_seq (aw_region hT ?_)
  refine aw_wk (wk_boxL 0 x.pv rfl rfl) ?_
  refine aw_wk (wk_boxL 1 y.pv rfl rfl) ?_
  refine aw_seq (aw_region hT ?_)
  refine aw_ret ?_
  exact retPick [] ⟨rfl, rfl⟩ rfl

set_option maxRecDepth 20000 in
theorem insertion2 (x y : Pc) (he : EpOk [x, y]) : AFm Tryz.prog 1 f_slices_insertionSortCmpFunc_api_Piece [.msl 0 7 0 2, i64 0, i64 2, cmpF] [.row t_api_Piece 7 (pX [x, y])] (Pure (.tup []) [.row t_api_Piece 7 (pX (sort2 [x, y]))]) := by
  have h1 := he x (by simp)
  have h2 := he y (by simp)
  have w := told_1 y x
  rw [wrap64 _ (by omega) (by omega)] at w
  obtain ⟨d, hd⟩ : ∃ d, d = x.epoch - y.epoch := ⟨_, rfl⟩
  rw [← hd] at w
  obtain ⟨L, hL⟩ : ∃ L, L = pX (sort2 [x, y]) := ⟨_, rfl⟩
  have hs : decide (d < 0) = true → L = [y.pv, x.pv] := fun h => by
    have h := of_decide_eq_true h
    rw [hL, sort2_eq, decide_eq_true (show y.epoch > x.epoch by omega)]; rfl
  have hn : decide (d < 0) = false → L = [x.pv, y.pv] := fun h => by
    have h := of_decide_eq_false h
    rw [hL, sort2_eq, decide_eq_false (show ¬ y.epoch > x.epoch by omega)]; rfl
  rw [← hL]
  refine af_bodyM 1 hT F_slices_insertionSortCmpFunc_api_Piece rfl rfl N_slices_insertionSortCmpFunc_api_Piece rfl rfl ?_
  refine aw_seq (aw_region hT ?_)
  refine aw_block ?_
  refine aw_loopW (fun n s => (n = 1 ∧ s = ⟨⟨53, [(0, .msl 0 7 0 2), (1, i64 0), (2, i64 2), (3, cmpF), (8, i64 1)]⟩, [.row t_api_Piece 7 [x.pv, y.pv]]⟩) ∨ (n = 0 ∧ s = ⟨⟨53, [(0, .msl 0 7 0 2), (1, i64 0), (2, i64 2), (3, cmpF), (8, i64 2)]⟩, [.row t_api_Piece 7 L]⟩)) 1 ⟨⟨53, _⟩, _⟩ (wk_pick [0] [0, 1, 2, 3, 8] rfl) (.inl ⟨rfl, rfl⟩) ?_
  rintro n s (⟨rfl, rfl⟩ | ⟨rfl, rfl⟩)
  · refine aw_seq (aw_seq (aw_region hT ?_))
    refine aw_cond ?_
    refine aw_skip ?_
    refine aw_cut ⟨⟨53, [(0, .msl 0 7 0 2), (1, i64 0), (2, i64 2), (3, cmpF), (8, i64 1)]⟩, [.row t_api_Piece 7 L]⟩ True (aw_block (aw_seq (aw_region hT ?_))) (fun _ => ?_)
    · refine aw_block ?_
      refine aw_loopW (fun n s => (n = 1 ∧ s = ⟨⟨53, [(0, .msl 0 7 0 2), (1, i64 0), (2, i64 2), (3, cmpF), (8, i64 1), (9, i64 1)]⟩, [.row t_api_Piece 7 [x.pv, y.pv]]⟩) ∨ (n = 0 ∧ s = ⟨⟨53, [(0, .msl 0 7 0 2), (1, i64 0), (2, i64 2), (3, cmpF), (8, i64 1), (9, i64 0)]⟩, [.row t_api_Piece 7 L]⟩)) 1 ⟨⟨53, _⟩, _⟩ (wk_pick [0] [0, 1, 2, 3, 8, 9] rfl) (.inl ⟨rfl, rfl⟩) ?_
      rintro n s (⟨rfl, rfl⟩ | ⟨rfl, rfl⟩)
      · refine aw_seq (aw_seq ?_)
        refine aw_draw [] [] hT follows_mixed (by rfl) ?_
        refine ⟨⟨by decide, by decide⟩, ?_⟩
        refine ⟨⟨by decide, by decide⟩, ?_⟩
        refine ⟨_, af_at w _ rfl rfl, ?_⟩
        refine aw_cond (boolI (fun h => ?_) (fun h => ?_))
        · have hs := hs h
          refine aw_skip ?_
          refine aw_cut ⟨⟨53, [(0, .msl 0 7 0 2), (1, i64 0), (2, i64 2), (3, cmpF), (8, i64 1), (9, i64 1)]⟩, [.row t_api_Piece 7 L]⟩ True (aw_block ?_) (fun _ => ?_)
          · refine aw_draw [15, 17] [] hT follows_mixed (by rfl) ?_
            refine ⟨⟨by decide, by decide⟩, ?_⟩
            refine ⟨⟨by decide, by decide⟩, ?_⟩
            refine ⟨⟨by decide, by decide⟩, ?_⟩
            refine ⟨⟨by decide, by decide⟩, ?_⟩
            rw [hs]
            exact ⟨wk_pick [0] [0, 1, 2, 3, 8, 9] rfl, trivial⟩
          · refine aw_region hT ?_
            exact ⟨0, by omega, _, wk_pick [0] [0, 1, 2, 3, 8, 9] rfl, .inr ⟨rfl, rfl⟩⟩
        · have hn := hn h
          rw [← hn]
          refine aw_exit ?_
          exact ⟨wk_pick [0] [0, 1, 2, 3, 8] rfl, trivial⟩
      · refine aw_seq (aw_seq ?_)
        refine aw_draw [] [] hT follows_mixed (by rfl) ?_
        refine aw_cond ?_
        refine aw_exit ?_
        exact ⟨wk_pick [0] [0, 1, 2, 3, 8] rfl, trivial⟩
    · refine aw_region hT ?_
      exact ⟨0, by omega, _, wk_pick [0] [0, 1, 2, 3, 8] rfl, .inr ⟨rfl, rfl⟩⟩
  · refine aw_seq (aw_seq (aw_region hT ?_))
    refine aw_cond ?_
    refine aw_exit ?_
    exact retPick [0] ⟨rfl, rfl⟩ rfl

set_option maxRecDepth 20000 in
theorem insertion1 (l : List Pc) (hl : l.length ≤ 1) : AFm Tryz.prog 1 f_slices_insertionSortCmpFunc_api_Piece [.msl 0 7 0 l.length, i64 0, i64 l.length, cmpF] [.row t_api_Piece 7 (pX l)] (Pure (.tup []) [.row t_api_Piece 7 (pX l)]) := by
  obtain ⟨v, hv⟩ : ∃ v : Int, v = l.length := ⟨_, rfl⟩
  rw [← hv]
  refine af_bodyM 1 hT F_slices_insertionSortCmpFunc_api_Piece rfl rfl N_slices_insertionSortCmpFunc_api_Piece rfl rfl ?_
  refine aw_seq (aw_region hT ?_)
  refine aw_block ?_
  refine aw_loopW (fun n s => s = ⟨⟨53, [(2, i64 v), (8, i64 1)]⟩, [.row t_api_Piece 7 (pX l)]⟩) 1 ⟨⟨53, _⟩, _⟩ (wk_pick [0] [2, 8] rfl) rfl ?_
  rintro n s rfl
  refine aw_seq (aw_seq (aw_region hT ?_))
  refine aw_cond (boolI (fun h => ?_) (fun h => ?_))
  · have h := of_decide_eq_true (show decide ((1 : Int) < v) = true from h)
    omega
  · refine aw_exit ?_
    exact retPick [0] ⟨rfl, rfl⟩ rfl
theorem insertion (l : List Pc) (hl : l.length ≤ 2) (he : EpOk l) : AFm Tryz.prog 1 f_slices_insertionSortCmpFunc_api_Piece [.msl 0 7 0 l.length, i64 0, i64 l.length, cmpF] [.row t_api_Piece 7 (pX l)] (Pure (.tup []) [.row t_api_Piece 7 (pX (sort2 l))]) := by
  match l, hl, he with
  | [], _, _ => exact insertion1 [] (by simp)
  | [x], _, _ => exact insertion1 [x] (by simp)
  | [x, y], _, he => exact insertion2 x y he
theorem sort2_len (l : List Pc) : (sort2 l).length = l.length := by
  match l with
  | [] => rfl
  | [x] => rfl
  | [x, y] => rw [sort2_eq]; split <;> rfl
  | _ :: _ :: _ :: _ => rfl

set_option maxRecDepth 20000 in
theorem stable2 (l : List Pc) (hl : l.length ≤ 2) (he : EpOk l) : AFm Tryz.prog 1 f_slices_stableCmpFunc_api_Piece [.msl 0 7 0 l.length, i64 l.length, cmpF] [.row t_api_Piece 7 (pX l)] (Pure (.tup []) [.row t_api_Piece 7 (pX (sort2 l))]) := by
  have w := insertion l hl he
  obtain ⟨v, hv⟩ : ∃ v : Int, v = l.length := ⟨_, rfl⟩
  rw [← hv] at w ⊢
  refine af_bodyM 1 hT F_slices_stableCmpFunc_api_Piece rfl rfl N_slices_stableCmpFunc_api_Piece rfl rfl ?_
  refine aw_seq (aw_region hT ?_)
  refine aw_seq (aw_region hT ?_)
  refine aw_cut ⟨⟨63, [(0, .msl 0 7 0 l.length), (1, i64 v), (2, cmpF), (6, i64 20), (7, i64 0)]⟩, [.row t_api_Piece 7 (pX l)]⟩ True (aw_block ?_) (fun _ => ?_)
  · refine aw_loopW (fun n s => s = ⟨⟨63, [(0, .msl 0 7 0 l.length), (1, i64 v), (2, cmpF), (6, i64 20), (7, i64 0), (8, i64 20)]⟩, [.row t_api_Piece 7 (pX l)]⟩) 1 ⟨⟨63, _⟩, _⟩ (wk_pick [0] [0, 1, 2, 6, 7, 8] rfl) rfl ?_
    rintro n s rfl
    refine aw_seq (aw_seq (aw_region hT ?_))
    refine aw_cond (boolI (fun h => ?_) (fun h => ?_))
    · have h := of_decide_eq_true (show decide ((20 : Int) ≤ v) = true from h)
      omega
    · refine aw_exit ?_
      exact ⟨wk_pick [0] [0, 1, 2, 6, 7] rfl, trivial⟩
  refine aw_cut ⟨⟨63, [(1, i64 v), (6, i64 20)]⟩, [.row t_api_Piece 7 (pX (sort2 l))]⟩ True (aw_region hT ?_) (fun _ => ?_)
  · refine callP (af_in [0] w rfl rfl rfl) ?_
    exact ⟨wk_pick [0] [1, 6] rfl, trivial⟩
  refine aw_block ?_
  refine aw_loopW (fun n s => s = ⟨⟨63, [(1, i64 v), (6, i64 20)]⟩, [.row t_api_Piece 7 (pX (sort2 l))]⟩) 1 ⟨⟨63, _⟩, _⟩ (wk_pick [0] [1, 6] rfl) rfl ?_
  rintro n s rfl
  refine aw_seq (aw_seq (aw_region hT ?_))
  refine aw_cond (boolI (fun h => ?_) (fun h => ?_))
  · have h := of_decide_eq_true (show decide ((20 : Int) < v) = true from h)
    omega
  · refine aw_exit ?_
    exact retPick [0] ⟨rfl, rfl⟩ rfl
theorem sort_stable2 (l : List Pc) (hl : l.length ≤ 2) (he : EpOk l) : AFm Tryz.prog 1 f_slices_SortStableFunc_api_Piece [.msl 0 7 0 l.length, cmpF] [.row t_api_Piece 7 (pX l)] (Pure (.tup []) [.row t_api_Piece 7 (pX (sort2 l))]) := by
  have w := stable2 l hl he
  refine af_bodyM 1 hT F_slices_SortStableFunc_api_Piece rfl rfl N_slices_SortStableFunc_api_Piece rfl rfl ?_
  refine aw_region hT ?_
  refine callP (af_in [0] w rfl rfl rfl) ?_
  exact retPick [0] ⟨rfl, rfl⟩ rfl
end Go.Proofs.YtinfbclgkghgaaaGreat.AL

/- The layer 11 (ring): the reader: what fits, what is clean, what is told of a number. -/
namespace Go.Proofs.YtinfbclgkghgaaaGreat.AL
open Go Go.Proofs

structure RdS where
  last : Pc
  some_ : Bool
  sum : Int
  torn : Bool
abbrev rdC (vol : Int) (g : GeoV) (a b : List Bytes) (S : RdS) : ABlk := .cells t_ring_reader [i64 vol, i64 g.w, i64 g.s, i64 g.k, i64 g.m, .p (.sl 1 (catX a)), .p (.sl 1 (catX b)), i64 S.last.seq, i64 S.last.epoch, i64 S.last.frm, i64 S.last.chain, i64 S.last.index, i64 S.last.of_, bA S.last.b, bl S.some_, i64 S.sum, bl S.torn]
def fitsS (S : RdS) (p : Pc) : Bool := match p.chain != S.sum || decide (p.epoch < S.last.epoch) with
  | true => false
  | false => match !S.some_ with
    | true => true
    | false => match p.epoch == S.last.epoch with
      | true => p.frm == S.last.frm
      | false => p.frm == p.seq
def cleanM (vol : Int) (g : GeoV) (m slot : Int) (s : Bytes) : Bool := (openB s).2 == 0 && ((openB s).1.vol == vol && (openB s).1.addr == addrB g m slot)
def atS (a : List Bytes) (slot : Int) : Bytes := a.getD slot.toNat []
def cleanB (vol : Int) (g : GeoV) (a b : List Bytes) (slot : Int) : Bool := cleanM vol g 0 slot (atS a slot) || cleanM vol g 1 slot (atS b slot)
def cand1 (vol : Int) (g : GeoV) (m : Int) (a : List Bytes) (seq : Int) : List Pc := match (toldP (atS a (seq.tmod g.w)) vol g m (seq.tmod g.w)).2 && (toldP (atS a (seq.tmod g.w)) vol g m (seq.tmod g.w)).1.seq == seq with
  | true => [(toldP (atS a (seq.tmod g.w)) vol g m (seq.tmod g.w)).1]
  | false => []
def cands (vol : Int) (g : GeoV) (a b : List Bytes) (seq : Int) : List Pc := sort2 (cand1 vol g 0 a seq ++ cand1 vol g 1 b seq)
theorem cand1_len (vol : Int) (g : GeoV) (m : Int) (a : List Bytes) (seq : Int) : (cand1 vol g m a seq).length ≤ 1 := by
  unfold cand1; split <;> simp
theorem cand1_may {vol : Int} {g : GeoV} {m : Int} {a : List Bytes} {seq : Int} {p : Pc} (h : p ∈ cand1 vol g m a seq) : p.may = true ∧ p.seq = seq ∧ toldP (atS a (seq.tmod g.w)) vol g m (seq.tmod g.w) = (p, true) := by
  unfold cand1 at h
  generalize hY : toldP (atS a (seq.tmod g.w)) vol g m (seq.tmod g.w) = Y at h
  obtain ⟨q, t⟩ := Y
  cases hc : t && q.seq == seq with
  | false => rw [hc] at h; simp at h
  | true =>
    rw [hc] at h
    simp only [List.mem_singleton] at h
    subst h
    rw [Bool.and_eq_true] at hc
    have ht : t = true := hc.1
    subst ht
    exact ⟨(toldP_true hY).1.1, by simpa using hc.2, rfl⟩
theorem cands_may {vol : Int} {g : GeoV} {a b : List Bytes} {seq : Int} {p : Pc} (h : p ∈ cands vol g a b seq) : p.may = true ∧ p.seq = seq ∧ (toldP (atS a (seq.tmod g.w)) vol g 0 (seq.tmod g.w) = (p, true) ∨ toldP (atS b (seq.tmod g.w)) vol g 1 (seq.tmod g.w) = (p, true)) := by
  have hm : ∀ l : List Pc, p ∈ sort2 l → p ∈ l := by
    intro l hl
    match l, hl with
    | [], hl => exact hl
    | [x], hl => exact hl
    | [x, y], hl =>
      rw [sort2_eq] at hl
      split at hl
      · simp only [List.mem_cons, List.not_mem_nil, or_false] at hl ⊢; exact hl.symm
      · exact hl
    | _ :: _ :: _ :: _, hl => exact hl
  have h := hm _ h
  rw [List.mem_append] at h
  rcases h with h | h
  · obtain ⟨h1, h2, h3⟩ := cand1_may h; exact ⟨h1, h2, .inl h3⟩
  · obtain ⟨h1, h2, h3⟩ := cand1_may h; exact ⟨h1, h2, .inr h3⟩

set_option maxRecDepth 20000 in
theorem reader_fits (vol : Int) (g : GeoV) (a b : List Bytes) (S : RdS) (p : Pc) : AFm Tryz.prog 1 f_ring_reader_fits [.ref 0 0, p.av] [rdC vol g a b S] (Pure (bl (fitsS S p)) [rdC vol g a b S]) := by
  refine AFm.mono (R := fun r H' => ∃ z, z = fitsS S p ∧ r = bl z ∧ H' = [rdC vol g a b S]) ?_ (by rintro r H' ⟨b, rfl, rfl, rfl⟩; exact ⟨rfl, rfl⟩)
  obtain ⟨last, some_, sum, torn⟩ := S
  have eF : fitsS ⟨last, some_, sum, torn⟩ p = match p.chain != sum || decide (p.epoch < last.epoch) with
    | true => false
    | false => match !some_ with
      | true => true
      | false => match p.epoch == last.epoch with
        | true => p.frm == last.frm
        | false => p.frm == p.seq := rfl
  generalize fitsS ⟨last, some_, sum, torn⟩ p = Z at eF
  refine af_bodyM 1 hT F_ring_reader_fits rfl rfl N_ring_reader_fits rfl rfl ?_
  refine aw_seq (aw_region hT ?_)
  refine aw_wk (wk_boxL 1 p.pv rfl rfl) ?_
  refine aw_seq (aw_block ?_)
  refine aw_cut2 (fun s => ∃ c, c = (p.chain != sum || decide (p.epoch < last.epoch)) ∧ s = ⟨⟨49, [(0, .ref 0 0), (3, .p (.box p.pv)), (5, bl c)]⟩, [rdC vol g a b ⟨last, some_, sum, torn⟩]⟩) (aw_seq ?_) ?_
  · refine aw_draw [] [] hT follows_mixed (by rfl) ?_
    refine aw_cond (boolI (fun h => ?_) (fun h => ?_))
    · have h : (p.chain != sum) = true := h
      exact aw_skip ⟨_, wk_pick [0] [0, 3, 5] rfl, _, by rw [h]; rfl, rfl⟩
    · have h : (p.chain != sum) = false := h
      refine aw_draw [] [] hT follows_mixed (by rfl) ?_
      exact ⟨_, wk_pick [0] [0, 3, 5] rfl, _, by rw [h]; rfl, rfl⟩
  rintro _ ⟨c, hc, rfl⟩
  rw [← hc] at eF
  refine aw_cond (boolI (fun h => ?_) (fun h => ?_))
  · have h : c = true := h
    rw [h] at eF
    refine aw_seq (aw_region hT ?_)
    refine aw_ret ?_
    exact retPick [0] ⟨_, eF.symm, rfl, rfl⟩ rfl
  have h : c = false := h
  rw [h] at eF
  refine aw_seq (aw_region hT ?_)
  refine aw_cond (boolI (fun h1 => ?_) (fun h1 => ?_))
  · have h1 : (!some_) = true := h1
    rw [h1] at eF
    refine aw_seq (aw_region hT ?_)
    refine aw_ret ?_
    exact retPick [0] ⟨_, eF.symm, rfl, rfl⟩ rfl
  have h1 : (!some_) = false := h1
  rw [h1] at eF
  refine aw_seq ?_
  refine aw_draw [] [] hT follows_mixed (by rfl) ?_
  refine aw_cond (boolI (fun h2 => ?_) (fun h2 => ?_))
  · have h2 : (p.epoch == last.epoch) = true := h2
    rw [h2] at eF
    refine aw_seq ?_
    refine aw_draw [] [] hT follows_mixed (by rfl) ?_
    refine aw_ret ?_
    exact retPick [0] ⟨_, eF.symm, rfl, rfl⟩ rfl
  have h2 : (p.epoch == last.epoch) = false := h2
  rw [h2] at eF
  refine aw_skip ?_
  refine aw_seq (aw_region hT ?_)
  refine aw_ret ?_
  exact retPick [0] ⟨_, eF.symm, rfl, rfl⟩ rfl
end Go.Proofs.YtinfbclgkghgaaaGreat.AL

/- The layer 11 (ring): the reader: what is clean; the pieces of a number; which one fits. -/
namespace Go.Proofs.YtinfbclgkghgaaaGreat.AL
open Go Go.Proofs

theorem atS_get {a : List Bytes} {slot : Int} (h0 : 0 ≤ slot) (h : slot < a.length) : (catX a)[slot.toNat]? = some [bP (atS a slot)] ∧ atS a slot ∈ a := by
  have hx := List.getElem?_eq_getElem (show slot.toNat < a.length by omega)
  have e : atS a slot = a[slot.toNat]'(by omega) := by unfold atS; rw [List.getD_eq_getElem?_getD, hx]; rfl
  rw [e]
  exact ⟨catX_get hx, List.getElem_mem _⟩
theorem slot_ok {g : GeoV} (hg : g.may = true) {seq : Int} (h0 : 0 ≤ seq) : 0 ≤ seq.tmod g.w ∧ seq.tmod g.w < g.w := by
  obtain ⟨g1, g2, _⟩ := g.of_may hg
  exact ⟨Int.tmod_nonneg g.w h0, Int.tmod_lt_of_pos seq (by omega)⟩

set_option maxRecDepth 20000 in
theorem reader_clean (vol : Int) (g : GeoV) (a b : List Bytes) (S : RdS) (seq : Int) (hg : g.may = true) (h0 : 0 ≤ seq) (ha : (a.length : Int) = g.w) (hb : (b.length : Int) = g.w) (has : ∀ s ∈ a, s.length ≤ 1000000) (hbs : ∀ s ∈ b, s.length ≤ 1000000) :
    AFm Tryz.prog 1 f_ring_reader_clean [.ref 0 0, i64 seq] [rdC vol g a b S] (Pure (bl (cleanB vol g a b (seq.tmod g.w))) [rdC vol g a b S]) := by
  refine AFm.mono (R := fun r H' => ∃ z, z = cleanB vol g a b (seq.tmod g.w) ∧ r = bl z ∧ H' = [rdC vol g a b S]) ?_ (by rintro r H' ⟨b, rfl, rfl, rfl⟩; exact ⟨rfl, rfl⟩)
  obtain ⟨s0, s1⟩ := slot_ok hg h0
  obtain ⟨g1, g2, _⟩ := g.of_may hg
  have ha2 := atS_get s0 (by omega : seq.tmod g.w < a.length)
  have hb2 := atS_get s0 (by omega : seq.tmod g.w < b.length)
  have w0 := block_Open _ (has _ ha2.2)
  have w1 := block_Open _ (hbs _ hb2.2)
  have r0 := ring_addr g 0 (seq.tmod g.w) (by omega) (by omega) s0 (by omega)
  have r1 := ring_addr g 1 (seq.tmod g.w) (by omega) (by omega) s0 (by omega)
  have eC : cleanB vol g a b (seq.tmod g.w) = (cleanM vol g 0 (seq.tmod g.w) (atS a (seq.tmod g.w)) || cleanM vol g 1 (seq.tmod g.w) (atS b (seq.tmod g.w))) := rfl
  unfold cleanM at eC
  have ha3 := ha2.1
  have hb3 := hb2.1
  clear ha2 hb2
  obtain ⟨last, some_, sum, torn⟩ := S
  generalize cleanB vol g a b (seq.tmod g.w) = Z at eC
  generalize hs : seq.tmod g.w = slot at *
  generalize atS a slot = x at *
  generalize atS b slot = y at *
  generalize openB x = X at *
  generalize openB y = Y at *
  obtain ⟨X, e⟩ := X
  obtain ⟨Y, f⟩ := Y
  have w0 : AF Tryz.prog f_block_Open [bA x] [] (Pure (.tup [X.av, i64 e]) []) := w0
  have w1 : AF Tryz.prog f_block_Open [bA y] [] (Pure (.tup [Y.av, i64 f]) []) := w1
  have eC : Z = ((e == 0 && (X.vol == vol && X.addr == addrB g 0 slot)) || (f == 0 && (Y.vol == vol && Y.addr == addrB g 1 slot))) := eC
  generalize addrB g 0 slot = d0 at *
  generalize addrB g 1 slot = d1 at *
  refine af_bodyM 1 hT F_ring_reader_clean rfl rfl N_ring_reader_clean rfl rfl ?_
  refine aw_seq (aw_region hT ?_)
  refine aw_cut ⟨⟨57, [(0, .ref 0 0), (5, i64 slot)]⟩, [rdC vol g a b ⟨last, some_, sum, torn⟩]⟩ True (aw_region hT ?_) (fun _ => ?_)
  · refine neI (y := g.w) (by omega) ?_
    rw [hs]
    exact ⟨wk_pick [0] [0, 5] rfl, trivial⟩
  refine aw_cut ⟨⟨57, []⟩, [rdC vol g a b ⟨last, some_, sum, torn⟩]⟩ (Z = false) (aw_seq (aw_region hT ?_)) ?_
  · refine aw_block ?_
    refine aw_loopW (fun n s => (n = 2 ∧ s = ⟨⟨57, [(0, .ref 0 0), (5, i64 slot), (20, .agg [.p (.sl 1 (catX a)), .p (.sl 1 (catX b))]), (21, i64 0)]⟩, [rdC vol g a b ⟨last, some_, sum, torn⟩]⟩) ∨ (n = 1 ∧ Z = (f == 0 && (Y.vol == vol && Y.addr == d1)) ∧ s = ⟨⟨57, [(0, .ref 0 0), (5, i64 slot), (20, .agg [.p (.sl 1 (catX a)), .p (.sl 1 (catX b))]), (21, i64 1)]⟩, [rdC vol g a b ⟨last, some_, sum, torn⟩]⟩) ∨ (n = 0 ∧ Z = false ∧ s = ⟨⟨57, [(21, i64 2)]⟩, [rdC vol g a b ⟨last, some_, sum, torn⟩]⟩)) 2 ⟨⟨57, _⟩, _⟩ (wk_pick [0] [0, 5, 20, 21] rfl) (.inl ⟨rfl, rfl⟩) ?_
    rintro n s (⟨rfl, rfl⟩ | ⟨rfl, hZ, rfl⟩ | ⟨rfl, hZ, rfl⟩)
    · refine aw_seq (aw_region hT ?_)
      refine aw_seq (aw_cond ?_)
      refine aw_skip ?_
      refine aw_cut ⟨⟨57, [(0, .ref 0 0), (5, i64 slot), (20, .agg [.p (.sl 1 (catX a)), .p (.sl 1 (catX b))]), (21, i64 0)]⟩, [rdC vol g a b ⟨last, some_, sum, torn⟩]⟩ (Z = (f == 0 && (Y.vol == vol && Y.addr == d1))) (aw_block (aw_seq (aw_region hT ?_))) (fun h => ?_)
      · refine ⟨by decide, ?_⟩
        refine aw_cut ⟨⟨57, [(0, .ref 0 0), (5, i64 slot), (6, i64 0), (8, .ref 1 0), (9, i64 e), (20, .agg [.p (.sl 1 (catX a)), .p (.sl 1 (catX b))]), (21, i64 0)]⟩, [rdC vol g a b ⟨last, some_, sum, torn⟩] ++ [blkC X]⟩ True (aw_region hT ?_) (fun _ => ?_)
        · refine ⟨s0, optI ha3 ?_⟩
          refine callP (af_at w0 _ rfl rfl) ?_
          exact ⟨wk_pick [0, 1] [0, 5, 6, 8, 9, 20, 21] rfl, trivial⟩
        refine aw_seq ?_
        refine aw_draw [] [] hT follows_mixed (by rfl) ?_
        refine boolI (fun h => ?_) (fun h => ?_)
        · have h : (e == 0) = true := h
          refine boolI (fun h1 => ?_) (fun h1 => ?_)
          · have h1 : (X.vol == vol) = true := h1
            refine ⟨_, af_at r0 _ rfl rfl, ?_⟩
            refine aw_cond (boolI (fun h2 => ?_) (fun h2 => ?_))
            · have h2 : (X.addr == d0) = true := h2
              refine aw_seq (aw_region hT ?_)
              refine aw_ret ?_
              exact retPick [0] ⟨_, (by rw [eC, h, h1, h2]; rfl : Z = true).symm, rfl, rfl⟩ rfl
            · have h2 : (X.addr == d0) = false := h2
              exact aw_skip ⟨wk_pick [0] [0, 5, 20, 21] rfl, by rw [eC, h, h1, h2]; rfl⟩
          · have h1 : (X.vol == vol) = false := h1
            refine aw_cond ?_
            exact aw_skip ⟨wk_pick [0] [0, 5, 20, 21] rfl, by rw [eC, h, h1]; rfl⟩
        · have h : (e == 0) = false := h
          refine aw_cond ?_
          exact aw_skip ⟨wk_pick [0] [0, 5, 20, 21] rfl, by rw [eC, h]; rfl⟩
      · refine aw_region hT ?_
        exact ⟨1, by omega, _, wk_pick [0] [0, 5, 20, 21] rfl, .inr (.inl ⟨rfl, h, rfl⟩)⟩
    · refine aw_seq (aw_region hT ?_)
      refine aw_seq (aw_cond ?_)
      refine aw_skip ?_
      refine aw_cut ⟨⟨57, [(0, .ref 0 0), (5, i64 slot), (20, .agg [.p (.sl 1 (catX a)), .p (.sl 1 (catX b))]), (21, i64 1)]⟩, [rdC vol g a b ⟨last, some_, sum, torn⟩]⟩ (Z = false) (aw_block (aw_seq (aw_region hT ?_))) (fun h => ?_)
      · refine ⟨by decide, ?_⟩
        refine aw_cut ⟨⟨57, [(0, .ref 0 0), (5, i64 slot), (6, i64 1), (8, .ref 1 0), (9, i64 f), (20, .agg [.p (.sl 1 (catX a)), .p (.sl 1 (catX b))]), (21, i64 1)]⟩, [rdC vol g a b ⟨last, some_, sum, torn⟩] ++ [blkC Y]⟩ True (aw_region hT ?_) (fun _ => ?_)
        · refine ⟨s0, optI hb3 ?_⟩
          refine callP (af_at w1 _ rfl rfl) ?_
          exact ⟨wk_pick [0, 1] [0, 5, 6, 8, 9, 20, 21] rfl, trivial⟩
        refine aw_seq ?_
        refine aw_draw [] [] hT follows_mixed (by rfl) ?_
        refine boolI (fun h => ?_) (fun h => ?_)
        · have h : (f == 0) = true := h
          refine boolI (fun h1 => ?_) (fun h1 => ?_)
          · have h1 : (Y.vol == vol) = true := h1
            refine ⟨_, af_at r1 _ rfl rfl, ?_⟩
            refine aw_cond (boolI (fun h2 => ?_) (fun h2 => ?_))
            · have h2 : (Y.addr == d1) = true := h2
              refine aw_seq (aw_region hT ?_)
              refine aw_ret ?_
              exact retPick [0] ⟨_, (by rw [hZ, h, h1, h2]; rfl : Z = true).symm, rfl, rfl⟩ rfl
            · have h2 : (Y.addr == d1) = false := h2
              exact aw_skip ⟨wk_pick [0] [0, 5, 20, 21] rfl, by rw [hZ, h, h1, h2]; rfl⟩
          · have h1 : (Y.vol == vol) = false := h1
            refine aw_cond ?_
            exact aw_skip ⟨wk_pick [0] [0, 5, 20, 21] rfl, by rw [hZ, h, h1]; rfl⟩
        · have h : (f == 0) = false := h
          refine aw_cond ?_
          exact aw_skip ⟨wk_pick [0] [0, 5, 20, 21] rfl, by rw [hZ, h]; rfl⟩
      · refine aw_region hT ?_
        exact ⟨0, by omega, _, wk_pick [0] [21] rfl, .inr (.inr ⟨rfl, h, rfl⟩)⟩
    · refine aw_seq (aw_region hT ?_)
      refine aw_seq (aw_cond ?_)
      refine aw_exit ?_
      exact ⟨wk_pick [0] [] rfl, hZ⟩
  intro hZ
  refine aw_seq (aw_region hT ?_)
  refine aw_ret ?_
  exact retPick [0] ⟨_, hZ.symm, rfl, rfl⟩ rfl
end Go.Proofs.YtinfbclgkghgaaaGreat.AL

/- The layer 11 (ring): the reader: the pieces of a number; which one fits. -/
namespace Go.Proofs.YtinfbclgkghgaaaGreat.AL
open Go Go.Proofs

theorem pX_snoc (l : List Pc) (p : Pc) : pX (l ++ [p]) = pX l ++ [p.pv] := by simp [pX]

set_option maxHeartbeats 1000000 in
set_option maxRecDepth 20000 in
theorem reader_told (vol : Int) (g : GeoV) (a b : List Bytes) (S : RdS) (seq : Int) (hg : g.may = true) (h0 : 0 ≤ seq) (ha : (a.length : Int) = g.w) (hb : (b.length : Int) = g.w) (has : ∀ s ∈ a, s.length ≤ 1000000) (hbs : ∀ s ∈ b, s.length ≤ 1000000) :
    AFm Tryz.prog 1 f_ring_reader_told [.ref 0 0, i64 seq] [rdC vol g a b S] (Pure (.p (.sl 7 (pX (cands vol g a b seq)))) [rdC vol g a b S]) := by
  refine AFm.mono (R := fun r H' => ∃ z, z = cands vol g a b seq ∧ r = .p (.sl 7 (pX z)) ∧ H' = [rdC vol g a b S]) ?_ (by rintro r H' ⟨b, rfl, rfl, rfl⟩; exact ⟨rfl, rfl⟩)
  obtain ⟨s0, s1⟩ := slot_ok hg h0
  obtain ⟨g1, g2, _⟩ := g.of_may hg
  have ha2 := atS_get s0 (by omega : seq.tmod g.w < a.length)
  have hb2 := atS_get s0 (by omega : seq.tmod g.w < b.length)
  have w0 := ring_Told _ vol g 0 (seq.tmod g.w) (has _ ha2.2)
  have w1 := ring_Told _ vol g 1 (seq.tmod g.w) (hbs _ hb2.2)
  have eC : cands vol g a b seq = sort2 (cand1 vol g 0 a seq ++ cand1 vol g 1 b seq) := rfl
  have l0 := cand1_len vol g 0 a seq
  have l1 := cand1_len vol g 1 b seq
  have eO : EpOk (cand1 vol g 0 a seq ++ cand1 vol g 1 b seq) := fun p hp => by
    rw [List.mem_append] at hp
    rcases hp with hp | hp
    · have := p.of_may (cand1_may hp).1; omega
    · have := p.of_may (cand1_may hp).1; omega
  have c0 : cand1 vol g 0 a seq = match (toldP (atS a (seq.tmod g.w)) vol g 0 (seq.tmod g.w)).2 && (toldP (atS a (seq.tmod g.w)) vol g 0 (seq.tmod g.w)).1.seq == seq with
    | true => [(toldP (atS a (seq.tmod g.w)) vol g 0 (seq.tmod g.w)).1]
    | false => [] := rfl
  have c1 : cand1 vol g 1 b seq = match (toldP (atS b (seq.tmod g.w)) vol g 1 (seq.tmod g.w)).2 && (toldP (atS b (seq.tmod g.w)) vol g 1 (seq.tmod g.w)).1.seq == seq with
    | true => [(toldP (atS b (seq.tmod g.w)) vol g 1 (seq.tmod g.w)).1]
    | false => [] := rfl
  have ha3 := ha2.1
  have hb3 := hb2.1
  clear ha2 hb2
  obtain ⟨last, some_, sum, torn⟩ := S
  generalize cands vol g a b seq = Z at eC
  generalize cand1 vol g 0 a seq = C0 at eC l0 eO c0
  generalize cand1 vol g 1 b seq = C1 at eC l1 eO c1
  generalize hs : seq.tmod g.w = slot at *
  generalize toldP (atS a slot) vol g 0 slot = X at w0 c0
  generalize toldP (atS b slot) vol g 1 slot = Y at w1 c1
  generalize atS a slot = x at w0 ha3
  generalize atS b slot = y at w1 hb3
  obtain ⟨X, e⟩ := X
  obtain ⟨Y, f⟩ := Y
  have w0 : AF Tryz.prog f_ring_Told [bA x, i64 vol, g.av, i64 0, i64 slot] [] (Pure (.tup [X.av, bl e]) []) := w0
  have w1 : AF Tryz.prog f_ring_Told [bA y, i64 vol, g.av, i64 1, i64 slot] [] (Pure (.tup [Y.av, bl f]) []) := w1
  have c0 : C0 = match e && X.seq == seq with | true => [X] | false => [] := c0
  have c1 : C1 = match f && Y.seq == seq with | true => [Y] | false => [] := c1
  refine af_bodyM 1 hT F_ring_reader_told rfl rfl N_ring_reader_told rfl rfl ?_
  refine aw_seq (aw_region hT ?_)
  refine aw_seq (aw_region hT ?_)
  refine aw_cut ⟨⟨59, [(0, .ref 0 0), (1, i64 seq), (5, .msl 1 7 0 0), (6, i64 slot)]⟩, [rdC vol g a b ⟨last, some_, sum, torn⟩, .row t_api_Piece 7 []]⟩ True (aw_region hT ?_) (fun _ => ?_)
  · refine neI (y := g.w) (by omega) ?_
    rw [hs]
    exact ⟨Wk.trans (wk_phantom t_api_Piece 7) (Wk.trans (wk_nil 5 1 7 0 rfl) (wk_pick [0, 1] [0, 1, 5, 6] rfl)), trivial⟩
  obtain ⟨L, hL⟩ : ∃ L, L = C0 ++ C1 := ⟨_, rfl⟩
  rw [← hL] at eC eO
  have lL : L.length ≤ 2 := by rw [hL, List.length_append]; omega
  have hpl := pX_len L
  refine aw_cut ⟨⟨59, [(5, .msl 1 7 0 L.length)]⟩, [rdC vol g a b ⟨last, some_, sum, torn⟩, .row t_api_Piece 7 (pX L)]⟩ True (aw_seq (aw_region hT ?_)) (fun _ => ?_)
  · refine aw_block ?_
    refine aw_loopW (fun n s => (n = 2 ∧ s = ⟨⟨59, [(0, .ref 0 0), (1, i64 seq), (5, .msl 1 7 0 0), (6, i64 slot), (21, .agg [.p (.sl 1 (catX a)), .p (.sl 1 (catX b))]), (22, i64 0)]⟩, [rdC vol g a b ⟨last, some_, sum, torn⟩, .row t_api_Piece 7 []]⟩) ∨ (n = 1 ∧ s = ⟨⟨59, [(0, .ref 0 0), (1, i64 seq), (5, .msl 1 7 0 (pX C0).length), (6, i64 slot), (21, .agg [.p (.sl 1 (catX a)), .p (.sl 1 (catX b))]), (22, i64 1)]⟩, [rdC vol g a b ⟨last, some_, sum, torn⟩, .row t_api_Piece 7 (pX C0)]⟩) ∨ (n = 0 ∧ s = ⟨⟨59, [(5, .msl 1 7 0 L.length), (22, i64 2)]⟩, [rdC vol g a b ⟨last, some_, sum, torn⟩, .row t_api_Piece 7 (pX L)]⟩)) 2 ⟨⟨59, _⟩, _⟩ (wk_pick [0, 1] [0, 1, 5, 6, 21, 22] rfl) (.inl ⟨rfl, rfl⟩) ?_
    rintro n s (⟨rfl, rfl⟩ | ⟨rfl, rfl⟩ | ⟨rfl, rfl⟩)
    · refine aw_seq (aw_region hT ?_)
      refine aw_seq (aw_cond ?_)
      refine aw_skip ?_
      refine aw_cut ⟨⟨59, [(0, .ref 0 0), (1, i64 seq), (5, .msl 1 7 0 (pX C0).length), (6, i64 slot), (21, .agg [.p (.sl 1 (catX a)), .p (.sl 1 (catX b))]), (22, i64 0)]⟩, [rdC vol g a b ⟨last, some_, sum, torn⟩, .row t_api_Piece 7 (pX C0)]⟩ True (aw_block (aw_seq (aw_region hT ?_))) (fun _ => ?_)
      · refine ⟨by decide, ?_⟩
        refine aw_cut ⟨⟨59, [(0, .ref 0 0), (1, i64 seq), (5, .msl 1 7 0 0), (6, i64 slot), (9, .ref 2 0), (10, bl e), (21, .agg [.p (.sl 1 (catX a)), .p (.sl 1 (catX b))]), (22, i64 0)]⟩, [rdC vol g a b ⟨last, some_, sum, torn⟩, .row t_api_Piece 7 [], pcC X]⟩ True ?_ (fun _ => ?_)
        · refine aw_draw [18, 19] [] hT follows_mixed (by rfl) ?_
          refine ⟨s0, optI ha3 ?_⟩
          refine ⟨_, af_at w0 _ rfl rfl, ?_⟩
          repeat first | refine ⟨rfl, ?_⟩ | refine ⟨⟨_, af_at w0 _ rfl rfl, rfl⟩, ?_⟩ | refine ⟨⟨s0, optI ha3 rfl⟩, ?_⟩
          exact ⟨wk_pick [0, 1, 2] [0, 1, 5, 6, 9, 10, 21, 22] rfl, trivial⟩
        refine aw_seq (aw_region hT ?_)
        refine boolI (fun h => ?_) (fun h => ?_)
        · have h : e = true := h
          refine aw_cond (boolI (fun h1 => ?_) (fun h1 => ?_))
          · have h1 : (X.seq == seq) = true := h1
            refine aw_regionF (fun k => Nat.beq 2 k) hT ?_
            refine ⟨⟨rfl, rfl⟩, ?_⟩
            refine ⟨rfl, ⟨?_, ?_⟩, ?_⟩
            · show (0 + 1) * 72 ≤ 140737488355328
              omega
            · show 0 + 1 ≤ 140737488355328
              omega
            rw [show C0 = [X] by rw [c0, h, h1]; rfl]
            exact ⟨wk_pick [0, 3] [0, 1, 5, 6, 21, 22] rfl, trivial⟩
          · have h1 : (X.seq == seq) = false := h1
            rw [show C0 = [] by rw [c0, h, h1]; rfl]
            exact aw_skip ⟨wk_pick [0, 1] [0, 1, 5, 6, 21, 22] rfl, trivial⟩
        · have h : e = false := h
          refine aw_cond ?_
          rw [show C0 = [] by rw [c0, h]; rfl]
          exact aw_skip ⟨wk_pick [0, 1] [0, 1, 5, 6, 21, 22] rfl, trivial⟩
      · refine aw_region hT ?_
        exact ⟨1, by omega, _, wk_pick [0, 1] [0, 1, 5, 6, 21, 22] rfl, .inr (.inl ⟨rfl, rfl⟩)⟩
    · refine aw_seq (aw_region hT ?_)
      refine aw_seq (aw_cond ?_)
      refine aw_skip ?_
      refine aw_cut ⟨⟨59, [(0, .ref 0 0), (1, i64 seq), (5, .msl 1 7 0 (pX L).length), (6, i64 slot), (21, .agg [.p (.sl 1 (catX a)), .p (.sl 1 (catX b))]), (22, i64 1)]⟩, [rdC vol g a b ⟨last, some_, sum, torn⟩, .row t_api_Piece 7 (pX L)]⟩ True (aw_block (aw_seq (aw_region hT ?_))) (fun _ => ?_)
      · refine ⟨by decide, ?_⟩
        refine aw_cut ⟨⟨59, [(0, .ref 0 0), (1, i64 seq), (5, .msl 1 7 0 (pX C0).length), (6, i64 slot), (9, .ref 2 0), (10, bl f), (21, .agg [.p (.sl 1 (catX a)), .p (.sl 1 (catX b))]), (22, i64 1)]⟩, [rdC vol g a b ⟨last, some_, sum, torn⟩, .row t_api_Piece 7 (pX C0), pcC Y]⟩ True ?_ (fun _ => ?_)
        · refine aw_draw [18, 19] [] hT follows_mixed (by rfl) ?_
          refine ⟨s0, optI hb3 ?_⟩
          refine ⟨_, af_at w1 _ rfl rfl, ?_⟩
          repeat first | refine ⟨rfl, ?_⟩ | refine ⟨⟨_, af_at w1 _ rfl rfl, rfl⟩, ?_⟩ | refine ⟨⟨s0, optI hb3 rfl⟩, ?_⟩
          exact ⟨wk_pick [0, 1, 2] [0, 1, 5, 6, 9, 10, 21, 22] rfl, trivial⟩
        refine aw_seq (aw_region hT ?_)
        refine boolI (fun h => ?_) (fun h => ?_)
        · have h : f = true := h
          refine aw_cond (boolI (fun h1 => ?_) (fun h1 => ?_))
          · have h1 : (Y.seq == seq) = true := h1
            refine aw_regionF (fun k => Nat.beq 2 k) hT ?_
            refine ⟨⟨rfl, rfl⟩, ?_⟩
            refine ⟨rfl, ⟨?_, ?_⟩, ?_⟩
            · show ((pX C0).length + 1) * 72 ≤ 140737488355328
              have := pX_len C0; omega
            · show (pX C0).length + 1 ≤ 140737488355328
              have := pX_len C0; omega
            rw [show L = C0 ++ [Y] by rw [hL, c1, h, h1]; rfl, pX_snoc]
            exact ⟨wk_pick [0, 3] [0, 1, 5, 6, 21, 22] rfl, trivial⟩
          · have h1 : (Y.seq == seq) = false := h1
            rw [show L = C0 by rw [hL, c1, h, h1]; exact List.append_nil _]
            exact aw_skip ⟨wk_pick [0, 1] [0, 1, 5, 6, 21, 22] rfl, trivial⟩
        · have h : f = false := h
          refine aw_cond ?_
          rw [show L = C0 by rw [hL, c1, h]; exact List.append_nil _]
          exact aw_skip ⟨wk_pick [0, 1] [0, 1, 5, 6, 21, 22] rfl, trivial⟩
      · refine aw_region hT ?_
        rw [hpl]
        exact ⟨0, by omega, _, wk_pick [0, 1] [5, 22] rfl, .inr (.inr ⟨rfl, rfl⟩)⟩
    · refine aw_seq (aw_region hT ?_)
      refine aw_seq (aw_cond ?_)
      refine aw_exit ?_
      exact ⟨wk_pick [0, 1] [5] rfl, trivial⟩
  have wS := sort_stable2 L lL eO
  rw [← eC] at wS
  have hZl : (pX Z).length = L.length := by rw [eC, pX_len, sort2_len]
  refine aw_cut ⟨⟨59, [(5, .p (.sl 7 (pX Z)))]⟩, [rdC vol g a b ⟨last, some_, sum, torn⟩]⟩ True (aw_region hT ?_) (fun _ => ?_)
  · refine callP (af_in [1] wS rfl rfl rfl) ?_
    exact ⟨Wk.trans (wk_frzN 5 1 7 _ rfl hZl.symm rfl rfl) (wk_pick [0] [5] rfl), trivial⟩
  refine aw_seq (aw_region hT ?_)
  refine aw_ret ?_
  exact retPick [0] ⟨_, rfl, rfl, rfl⟩ rfl

/-- Which one fits first; -1: none. -/
def idxS (S : RdS) : List Pc → Nat → Int
  | [], _ => -1
  | p :: r, i => match fitsS S p with | true => (i : Int) | false => idxS S r (i + 1)
theorem idxS_drop (S : RdS) (l : List Pc) (i : Nat) (p : Pc) (h : l[i]? = some p) : idxS S (l.drop i) i = match fitsS S p with | true => (i : Int) | false => idxS S (l.drop (i + 1)) (i + 1) := by
  obtain ⟨hi, rfl⟩ := List.getElem?_eq_some_iff.1 h
  rw [List.drop_eq_getElem_cons hi]; rfl

set_option maxRecDepth 20000 in
theorem index_fits (vol : Int) (g : GeoV) (a b : List Bytes) (S : RdS) (l : List Pc) (hl : l.length ≤ 1000) :
    AFm Tryz.prog 1 f_slices_IndexFunc_api_Piece [.p (.sl 7 (pX l)), .mth (.func f_ring_reader_fits) [.ref 0 0]] [rdC vol g a b S] (Pure (i64 (idxS S l 0)) [rdC vol g a b S]) := by
  refine AFm.mono (R := fun r H' => ∃ z, z = idxS S l 0 ∧ r = i64 z ∧ H' = [rdC vol g a b S]) ?_ (by rintro r H' ⟨b, rfl, rfl, rfl⟩; exact ⟨rfl, rfl⟩)
  have hpl := pX_len l
  refine af_bodyM 1 hT F_slices_IndexFunc_api_Piece rfl rfl N_slices_IndexFunc_api_Piece rfl rfl ?_
  refine aw_seq (aw_region hT ?_)
  refine aw_cut ⟨⟨19, []⟩, [rdC vol g a b S]⟩ (idxS S l 0 = -1) (aw_seq (aw_region hT ?_)) ?_
  · refine aw_block ?_
    refine aw_loopW (fun n s => ∃ (i : Nat) (j : Int), n + i = l.length ∧ j = i ∧ idxS S l 0 = idxS S (l.drop i) i ∧ s = ⟨⟨19, [(0, .p (.sl 7 (pX l))), (1, .mth (.func f_ring_reader_fits) [.ref 0 0]), (7, i64 (pX l).length), (8, i64 j)]⟩, [rdC vol g a b S]⟩) l.length ⟨⟨19, _⟩, _⟩ (wk_pick [0] [0, 1, 7, 8] rfl) ⟨0, 0, rfl, rfl, rfl, rfl⟩ ?_
    rintro n s ⟨i, j, hni, rfl, hI, rfl⟩
    refine aw_seq (aw_region hT ?_)
    refine aw_seq (aw_cond (boolI (fun h => ?_) (fun h => ?_)))
    · have hi : i < l.length := by
        have := of_decide_eq_true (show decide ((i : Int) < ((pX l).length : Int)) = true from h)
        omega
      have hx := List.getElem?_eq_getElem hi
      generalize l[i] = p at hx
      have hxp : (pX l)[((i : Nat) : Int).toNat]? = some p.pv := by rw [Int.toNat_natCast]; exact pX_get hx
      rw [idxS_drop S l i p hx] at hI
      have w := reader_fits vol g a b S p
      generalize fitsS S p = c at w hI
      refine aw_skip ?_
      refine aw_cut ⟨⟨19, [(0, .p (.sl 7 (pX l))), (1, .mth (.func f_ring_reader_fits) [.ref 0 0]), (7, i64 (pX l).length), (8, i64 i)]⟩, [rdC vol g a b S]⟩ (c = false) (aw_block (aw_seq (aw_region hT ?_))) (fun h => ?_)
      · refine aw_seq (aw_region hT ?_)
        refine ⟨Int.natCast_nonneg _, optI hxp ?_⟩
        refine callP (af_in [0] w rfl rfl rfl) ?_
        refine aw_cond (boolI (fun h => ?_) (fun h => ?_))
        · have h : c = true := h
          rw [h] at hI
          refine aw_seq (aw_region hT ?_)
          refine aw_ret ?_
          exact retPick [0] ⟨_, hI.symm, rfl, rfl⟩ rfl
        · have h : c = false := h
          exact aw_skip ⟨wk_pick [0] [0, 1, 7, 8] rfl, h⟩
      · rw [h] at hI
        refine aw_region hT ?_
        refine ⟨n - 1, by omega, _, wk_pick [0] [0, 1, 7, 8] rfl, i + 1, IntKind.i64.wrap ((i : Int) + 1), by omega, ?_, hI, rfl⟩
        rw [wrap64 _ (by omega) (by omega)]; rfl
    · have hi : ¬ (i : Int) < ((pX l).length : Int) := of_decide_eq_false h
      rw [List.drop_eq_nil_of_le (by omega)] at hI
      refine aw_exit ?_
      exact ⟨wk_pick [0] [] rfl, hI⟩
  intro hI
  refine aw_seq (aw_region hT ?_)
  refine aw_ret ?_
  exact retPick [0] ⟨_, hI.symm, rfl, rfl⟩ rfl
end Go.Proofs.YtinfbclgkghgaaaGreat.AL

/- The layer: a row that a cell holds becomes immutable. -/
namespace Go.Proofs.YtinfbclgkghgaaaGreat.AL
open Go Go.RowKit

theorem wk_frzC {m : Nat} {s : St} (b c o len : Nat) {t t2 : TypeId} {sz : Nat} {xs : List (List PV)} {l : List AV} (hb : s.H[b]? = some (.row t sz xs)) (hc : s.H[c]? = some (.cells t2 l)) (hl : l[o]? = some (.msl b sz 0 len)) (hlen : len = xs.length) :
    Wk m s ⟨s.fr, (s.H.set b .dead).set c (.cells t2 (l.set o (.p (.sl sz xs))))⟩ := fun N w I ι a hs hm => by
  subst hlen
  have hlive : live s.H b := ⟨_, hb, rfl⟩
  have hbc : b ≠ c := fun e => by subst e; rw [hb] at hc; cases hc
  obtain ⟨k1, k2⟩ := hs.H.freeze b hlive
  have hblk := hs.H.blk b _ hb
  have hcb := hs.H.blk c _ hc
  have hlivec : live (s.H.set b .dead) c := ⟨_, by rw [List.getElem?_set_ne hbc]; exact hc, rfl⟩
  have hsl : ∀ (n : Nat) (v : Value), n = xs.length → ARep w I ι (.msl b sz 0 n) v → PRep w (fun C => I C ∨ ι b = some C) (.sl sz xs) v := by
    intro n v hn hu
    cases hu with
    | msl _ _ _ _ B cc hB hcc hsz =>
      rcases hblk with ⟨_, g1⟩ | ⟨B', cs, g1, g2, g3, g4, gl, g6⟩
      · rw [g1] at hB; exact absurd hB (by simp)
      · rw [g1] at hB; obtain rfl := Option.some.inj hB
        have := row_sl (xs := xs) (I2 := fun C => I C ∨ ι b = some C) (off := 0) (len := n) (fun _ h => Or.inl h) (Or.inr g1) g2 g4 gl g6 (by omega) hcc
        rw [List.drop_zero, hn, List.take_length] at this
        rw [hn]
        exact this
    | msl0 _ _ _ A =>
      have hx : xs = [] := List.length_eq_zero_iff.1 hn.symm
      subst hx
      exact PRep.sl (w := w) sz [] A 0 (fun _ _ => undef) (by simp) (by simp) (.inl rfl) (fun j e i u h => by simp at h)
  have hlv : ∀ d, live ((s.H.set b .dead).set c (.cells t2 (l.set o (.p (.sl sz xs))))) d → live (s.H.set b .dead) d := fun d hd => live_set hd hlivec
  have hsim : SimH w (fun C => I C ∨ ι b = some C) ι ((s.H.set b .dead).set c (.cells t2 (l.set o (.p (.sl sz xs))))) := by
    refine ⟨fun d k hd => ?_, fun d d' B hd hd' => k1.inj d d' B (hlv d hd) (hlv d' hd'), k1.Ilt, fun d hd => k1.dom d (by simpa using hd), k1.rng⟩
    by_cases e : d = c
    · subst e
      rw [List.getElem?_set_self (live_lt hlivec)] at hd
      obtain rfl := Option.some.inj hd
      obtain ⟨B, cs, g1, g2, g3, g4, g5⟩ := hcb
      have h0 := k1.blk d (.cells t2 l) (by rw [List.getElem?_set_ne hbc]; exact hc)
      obtain ⟨B', cs', f1, f2, f3, f4, f5⟩ := h0
      rw [g1] at f1; obtain rfl := Option.some.inj f1
      rw [g2] at f2; obtain ⟨rfl, _⟩ := Obj.cells.inj (Option.some.inj f2)
      refine ⟨B, cs, g1, g2, f3, by rw [List.length_set]; exact g4, fun i u hu => ?_⟩
      rw [List.getElem?_set] at hu
      split at hu
      · rename_i e2; subst e2
        split at hu
        · obtain rfl := Option.some.inj hu
          exact .p (hsl _ _ rfl (g5 o _ hl))
        · cases hu
      · exact f5 i u hu
    · rw [List.getElem?_set_ne (by omega)] at hd
      exact k1.blk d k hd
  have hx : Ex m w I ι s.H w (fun C => I C ∨ ι b = some C) ι ((s.H.set b .dead).set c (.cells t2 (l.set o (.p (.sl sz xs))))) := by
    have hx2 : Ex m w (fun C => I C ∨ ι b = some C) ι (s.H.set b .dead) w (fun C => I C ∨ ι b = some C) ι ((s.H.set b .dead).set c (.cells t2 (l.set o (.p (.sl sz xs))))) := ⟨⟨rfl, rfl, rfl, Nat.le_refl _, Shape.refl w, fun _ h => h, fun _ _ _ => rfl, fun _ h => .inl h, fun c B hc h => .inr ⟨c, hlv c hc, h⟩⟩, fun _ _ => rfl, by simpa using hm⟩
    exact (k2.less hm).trans hx2
  exact ⟨_, ι, hs.turn ⟨hs.fr.1, fun i u hu => (hs.fr.2 i u hu).move (fun _ _ => rfl) (fun _ h => .inl h) (fun _ _ h => h) (Shape.refl w)⟩ hsim hx, hx⟩

/-- The same within a struct that is handed on. -/
theorem af_argAgg {P : Program} {f : FuncId} {l l1 rest : List AV} {H : List ABlk} {R : AV → List ABlk → Prop} (h : AF P f (.agg l1 :: rest) H R) (ha : ArgL l l1) : AF P f (.agg l :: rest) H R := by
  obtain ⟨k1, k2⟩ := ha.get
  refine ⟨h.1, fun w I ι vals hn hv hs => h.2 w I ι vals (by simpa using hn) (fun i u1 hu1 => ?_) hs⟩
  cases i with
  | succ i => exact hv (i + 1) u1 hu1
  | zero =>
    simp only [List.getElem?_cons_zero, Option.some.injEq] at hu1
    subst hu1
    have h0 := hv 0 (.agg l) rfl
    generalize vals.getD 0 undef = x at h0
    cases h0 with
    | agg _ vs hvn hr =>
      refine .agg l1 vs (by omega) fun i u1 hu1 => ?_
      obtain ⟨u, hu, h1⟩ := k2 i u1 hu1
      rcases h1 with rfl | ⟨rfl, sz, rfl⟩
      · exact hr i _ hu
      · rw [rep_raw (hr i _ hu)]
        exact .p (PRep.sl sz [] none 0 (fun _ _ => undef) (by simp) (by simp) (.inl rfl) (fun j e i u h => by simp at h))
end Go.Proofs.YtinfbclgkghgaaaGreat.AL

/- The layer 11 (ring), plain: what a log tells; the blocks of a reader at work. -/
namespace Go.Proofs.YtinfbclgkghgaaaGreat.AL
open Go Go.Proofs

structure Fol where
  txs : List Bytes
  next : Int
  chain : Int
  epoch : Int
  tx : Bytes
  index : Int
  of_ : Int
  ended : Bool
def odd (F : Fol) (p : Pc) : Bool := F.ended || (p.index != F.index || (decide (F.index > 0) && p.of_ != F.of_))
def stepF (F : Fol) (p : Pc) (s : Int) : Fol := match odd F p with
  | true => { F with epoch := p.epoch, ended := true }
  | false => match F.index + 1 == p.of_ with
    | true => { F with epoch := p.epoch, txs := F.txs ++ [F.tx ++ p.b], next := p.seq + 1, chain := s, tx := [], index := 0, of_ := p.of_ }
    | false => { F with epoch := p.epoch, tx := F.tx ++ p.b, of_ := p.of_, index := F.index + 1 }
def sumP (vol : Int) (g : GeoV) (p : Pc) : Int := ((Crc.sum (p.sector vol g 0).1).toNat : Int)
def pickS (S : RdS) (l : List Pc) : Option Pc := l.find? (fitsS S)
theorem idxS_pick (S : RdS) : ∀ (l : List Pc) (i : Nat), match pickS S l with
    | none => idxS S l i = -1
    | some p => ∃ k, idxS S l i = ((i + k : Nat) : Int) ∧ l[k]? = some p
  | [], i => rfl
  | p :: r, i => by
    unfold pickS idxS
    rw [List.find?_cons]
    cases h : fitsS S p with
    | true => exact ⟨0, rfl, rfl⟩
    | false =>
      have := idxS_pick S r (i + 1)
      unfold pickS at this
      cases h2 : r.find? (fitsS S) with
      | none => rw [h2] at this; exact this
      | some q =>
        rw [h2] at this
        obtain ⟨k, h3, h4⟩ := this
        exact ⟨k + 1, by show idxS S r (i + 1) = _; rw [h3]; congr 1; omega, by rw [List.getElem?_cons_succ]; exact h4⟩
def goS (vol : Int) (g : GeoV) (a b : List Bytes) : Nat → Int → RdS × Fol → RdS × Fol
  | 0, _, x => x
  | n + 1, seq, x => match pickS x.1 (cands vol g a b seq) with
    | none => ({ x.1 with torn := (cands vol g a b seq).isEmpty && !cleanB vol g a b (seq.tmod g.w) }, x.2)
    | some p => goS vol g a b n (seq + 1) (⟨p, true, sumP vol g p, x.1.torn⟩, stepF x.2 p (sumP vol g p))
/-- What was gone through is not too much. -/
structure FolOk (F : Fol) (k : Nat) : Prop where
  tx : F.tx.length ≤ 200 * k
  txs : F.txs.length ≤ k
  i0 : 0 ≤ F.index
  ik : F.index ≤ k
theorem stepF_ok {F : Fol} {k : Nat} (h : FolOk F k) {p : Pc} (hp : p.may = true) (s : Int) : FolOk (stepF F p s) (k + 1) := by
  have hb := (p.of_may hp).2.2.2.2.2.2.2.2.2
  obtain ⟨h1, h2, h3, h4⟩ := h
  unfold stepF
  split
  · exact ⟨by show F.tx.length ≤ _; omega, by show F.txs.length ≤ _; omega, h3, by show F.index ≤ _; omega⟩
  · split
    · exact ⟨Nat.zero_le _, by show (F.txs ++ [_]).length ≤ _; rw [List.length_append]; simp only [List.length_cons, List.length_nil]; omega, Int.le_refl _, by show (0 : Int) ≤ _; omega⟩
    · exact ⟨by show (F.tx ++ p.b).length ≤ _; rw [List.length_append]; omega, by show F.txs.length ≤ _; omega, by show 0 ≤ F.index + 1; omega, by show F.index + 1 ≤ _; omega⟩

abbrev folJ (vol : Int) (g : GeoV) (a b : List Bytes) (L : ABlk) (x : RdS × Fol) : List ABlk :=
  [rdC vol g a b x.1, .cells t_p_ring_reader [.ref 0 0], .cells t_api_Tail [.msl 9 1 0 (catX x.2.txs).length, i64 x.2.next, i64 x.2.chain, i64 x.2.epoch], .cells t_s_u8 [.msl 10 1 0 (bx x.2.tx).length],
   .cells t_i64 [i64 x.2.index], .cells t_i64 [i64 x.2.of_], .cells t_bool [bl x.2.ended], .cells t_api_Tail [.p (.raw (.slice none 0 0)), i64 0, i64 0, i64 0], L, .row t_s_u8 1 (catX x.2.txs), .row t_u8 1 (bx x.2.tx)]
abbrev folK (vol : Int) (g : GeoV) (a b : List Bytes) (L : ABlk) (x : RdS × Fol) : List ABlk :=
  [rdC vol g a b x.1, .cells t_p_ring_reader [.ref 0 0], .cells t_api_Tail [.msl 11 1 0 (catX x.2.txs).length, i64 x.2.next, i64 x.2.chain, i64 x.2.epoch], .cells t_s_u8 [.msl 12 1 0 (bx x.2.tx).length],
   .cells t_i64 [i64 x.2.index], .cells t_i64 [i64 x.2.of_], .cells t_bool [bl x.2.ended], .cells t_api_Tail [.p (.raw (.slice none 0 0)), i64 0, i64 0, i64 0], L, .dead, .dead, .row t_s_u8 1 (catX x.2.txs), .row t_u8 1 (bx x.2.tx)]

theorem fol_pad {vol : Int} {g : GeoV} {a b : List Bytes} {args : List AV} {q : RecK} {l : List AV} {x y : RdS × Fol} (hl : belowL 9 l = true) (ha : belowL 0 args = true)
    (h : AYm Tryz.prog 9 8 args (folJ vol g a b (.lp q .ready none l) x) (fun r H' => r = bl true ∧ H' = folJ vol g a b (.lp q .ready none l) y)) :
    AY Tryz.prog 8 args (folJ vol g a b (.lp q .ready none l) x) (fun r H' => r = bl true ∧ H' = folK vol g a b (.lp q .ready none l) y) := by
  have hid : ∀ c, c < 9 → rho 11 [0, 1, 2, 3, 4, 5, 6, 7, 8, 9, 10] c = c := fun c hc => by
    rcases c with _ | _ | _ | _ | _ | _ | _ | _ | _ | c
    all_goals first | rfl | omega
  have hid2 : ∀ c, c < 9 → rho2 11 [0, 1, 2, 3, 4, 5, 6, 7, 8] c = c := fun c hc => by
    rcases c with _ | _ | _ | _ | _ | _ | _ | _ | _ | c
    all_goals first | rfl | omega
  refine ay_pad [0, 1, 2, 3, 4, 5, 6, 7, 8, 9, 10] h ⟨rfl, by decide, ?_⟩ (show ∀ p ∈ [0, 1, 2, 3, 4, 5, 6, 7, 8, 9, 10], p < 11 by decide) (by decide) rfl (ren_idL (fun c hc => absurd hc (by omega)) args ha).symm ?_
  · intro c k hk
    right
    rcases c with _ | _ | _ | _ | _ | _ | _ | _ | _ | _ | _ | c
    · obtain rfl := Option.some.inj hk; exact ⟨0, rfl, rfl⟩
    · obtain rfl := Option.some.inj hk; exact ⟨1, rfl, rfl⟩
    · obtain rfl := Option.some.inj hk; exact ⟨2, rfl, rfl⟩
    · obtain rfl := Option.some.inj hk; exact ⟨3, rfl, rfl⟩
    · obtain rfl := Option.some.inj hk; exact ⟨4, rfl, rfl⟩
    · obtain rfl := Option.some.inj hk; exact ⟨5, rfl, rfl⟩
    · obtain rfl := Option.some.inj hk; exact ⟨6, rfl, rfl⟩
    · obtain rfl := Option.some.inj hk; exact ⟨7, rfl, rfl⟩
    · obtain rfl := Option.some.inj hk
      refine ⟨8, rfl, ?_⟩
      show some (ABlk.lp q .ready none l) = some (ABlk.lp q .ready none (renL (rho 11 [0, 1, 2, 3, 4, 5, 6, 7, 8, 9, 10]) l))
      rw [ren_idL hid l hl]
    · obtain rfl := Option.some.inj hk; exact ⟨9, rfl, rfl⟩
    · obtain rfl := Option.some.inj hk; exact ⟨10, rfl, rfl⟩
    · simp at hk
  · rintro r1 H1' ⟨rfl, rfl⟩
    refine ⟨show 9 ≤ 11 by decide, rfl, ?_⟩
    show [_, _, _, _, _, _, _, _, ABlk.lp q .ready none (renL (rho2 11 [0, 1, 2, 3, 4, 5, 6, 7, 8]) l), _, _, _, _] = _
    rw [ren_idL hid2 l hl]
    rfl

theorem reader_pieces (vol : Int) (g : GeoV) (a b : List Bytes) (S : RdS) (start : Int) : AFm Tryz.prog 1 f_ring_reader_pieces [.ref 0 0, i64 start] [rdC vol g a b S] (Pure (.clo (.func f_ring_reader_pieces_1) [.p (.box [.raw (.int .i64 start)]), .ref 1 0]) [rdC vol g a b S, .cells t_p_ring_reader [.ref 0 0]]) := by
  refine af_bodyM 1 hT F_ring_reader_pieces rfl rfl N_ring_reader_pieces rfl rfl ?_
  refine aw_seq (aw_region hT ?_)
  refine aw_wk (wk_boxL 2 [.raw (.int .i64 start)] rfl rfl) ?_
  refine aw_seq (aw_region hT ?_)
  refine aw_ret ?_
  exact retPick [0, 1] ⟨rfl, rfl⟩ rfl
end Go.Proofs.YtinfbclgkghgaaaGreat.AL
