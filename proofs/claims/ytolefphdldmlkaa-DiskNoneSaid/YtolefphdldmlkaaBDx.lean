/- The law DiskKeeps, walked. -/
import Derived.Test.YtolefphdldmlkaaBDw
namespace Go.Proofs.Ytolefphdldmlkaa.AL
open Go Go.Proofs

set_option maxRecDepth 8000 in
theorem disk_keeps (a : Int) (v : UInt8) (l : List Op06) : AF Try.prog f_law06_DiskKeeps [i64 a, .p (u8 v), .p (.sl 14 (opx l))] [] (Pure (bl true) []) := by
  refine af_body hT F_law06_DiskKeeps rfl rfl N_law06_DiskKeeps rfl ?_
  refine aw_seq (aw_region hT ?_)
  refine aw_seq (aw_region hT ?_)
  refine callP law06_awake ?_
  refine aw_cut ⟨⟨97, [(0, i64 a), (1, .p (u8 v)), (2, .p (.sl 14 (opx l)))]⟩, []⟩ (0 ≤ a ∧ a < 20 ∧ l.length ≤ 60) (aw_seq (aw_region hT ?_)) ?_
  · refine boolI (fun h => ?_) (fun h => ?_)
    · refine aw_cond ?_
      refine aw_seq (aw_region hT ?_)
      refine aw_ret ?_
      exact retPick [] ⟨rfl, rfl⟩ rfl
    · refine boolI (fun h2 => ?_) (fun h2 => ?_)
      · refine aw_cond ?_
        refine aw_seq (aw_region hT ?_)
        refine aw_ret ?_
        exact retPick [] ⟨rfl, rfl⟩ rfl
      · refine aw_cond (boolI (fun h3 => ?_) (fun h3 => ?_))
        · refine aw_seq (aw_region hT ?_)
          refine aw_ret ?_
          exact retPick [] ⟨rfl, rfl⟩ rfl
        · have h : decide (a < 0) = false := h
          have h2 : decide (a > 19) = false := h2
          have h3 : decide (((opx l).length : Int) > 60) = false := h3
          have h := of_decide_eq_false h
          have h2 := of_decide_eq_false h2
          have h3 := of_decide_eq_false h3
          rw [opx_len] at h3
          exact aw_skip ⟨wk_pick [] [0, 1, 2] rfl, by omega, by omega, by omega⟩
  rintro ⟨ha, hb, hn⟩
  obtain ⟨k1, k2, k3⟩ := keep_start (v := v) ha hb
  have n1 := disk_New 20 (by omega) (by omega)
  have o1 := ok_new 20 0
  generalize Dev.new 20 = D1 at n1 k1 k2 k3 o1
  have o2 := o1.write a (sect v)
  have w1 := disk_Write D1 a (sect v) (o1.big (by omega)).2.1
  rw [k1] at w1
  generalize (D1.write a (sect v)).2 = D2 at w1 k2 k3 o2
  have w2 := disk_Flush D2 (o2.big (by omega)).1 (o2.big (by omega)).2.1
  rw [k2] at w2
  generalize D2.flush.2 = D3 at w2 k3
  refine aw_seq (aw_region hT ?_)
  refine callP n1 ?_
  refine aw_seq (aw_region hT ?_)
  refine callP (af_at (law06_Sector v) _ rfl rfl) ?_
  refine callP (af_in [0, 1, 2] w1 rfl rfl rfl) ?_
  refine aw_wk (wk_pick [0, 3, 4] [0, 1, 2, 8, 10] rfl) ?_
  refine aw_seq (aw_region hT ?_)
  refine callP (af_in [0, 1, 2] w2 rfl rfl rfl) ?_
  refine aw_wk (wk_pick [0, 3, 4] [0, 1, 2, 8, 10, 11] rfl) ?_
  refine aw_cut2 (fun s1 => ∃ D b, KeepOk D a v b ∧ b ≤ 100 ∧ s1 = ⟨⟨97, [(0, i64 a), (1, .p (u8 v)), (8, .ref 0 0), (10, i64 0), (11, i64 0)]⟩, devH D⟩) (aw_seq (aw_region hT ?_)) ?_
  · refine aw_block ?_
    refine aw_loopW (fun n s => ∃ (i : Nat) (j : Int) (D : Dev), n + i = l.length ∧ j = i ∧ KeepOk D a v (i + 1) ∧ s = ⟨⟨97, [(0, i64 a), (1, .p (u8 v)), (2, .p (.sl 14 (opx l))), (8, .ref 0 0), (10, i64 0), (11, i64 0), (12, i64 j)]⟩, devH D⟩) l.length ⟨⟨97, _⟩, [_, _, _]⟩ (wk_pick [0, 1, 2] [0, 1, 2, 8, 10, 11, 12] rfl) ⟨0, 0, D3, rfl, rfl, k3, rfl⟩ ?_
    rintro n s ⟨i, j, D, hni, rfl, hp, rfl⟩
    refine aw_seq (aw_seq (aw_region hT ?_))
    refine aw_cond (boolI (fun h => ?_) (fun h => ?_))
    · have hi : i < l.length := by
        have := of_decide_eq_true (show decide ((i : Int) < ((opx l).length : Int)) = true from h)
        rw [opx_len] at this; omega
      have hx := List.getElem?_eq_getElem hi
      generalize l[i] = x at hx
      have hx : (opx l)[((i : Nat) : Int).toNat]? = some x.pv := by rw [Int.toNat_natCast]; exact opx_get hx
      refine aw_skip ?_
      refine aw_cut2 (fun s1 => ∃ D, KeepOk D a v (i + 2) ∧ s1 = ⟨⟨97, [(0, i64 a), (1, .p (u8 v)), (2, .p (.sl 14 (opx l))), (8, .ref 0 0), (10, i64 0), (11, i64 0), (12, i64 i)]⟩, devH D⟩) (aw_block (aw_seq (aw_region hT ?_))) ?_
      · refine ⟨Int.natCast_nonneg _, optI hx ?_⟩
        refine aw_wk (wk_boxL 3 x.pv rfl rfl) ?_
        refine aw_seq (aw_cut2 (fun s1 => ∃ bb, bb = x.of a ∧ s1 = ⟨⟨97, [(0, i64 a), (1, .p (u8 v)), (2, .p (.sl 14 (opx l))), (8, .ref 0 0), (10, i64 0), (11, i64 0), (12, i64 i), (13, .p (.box x.pv)), (79, bl bb)]⟩, devH D⟩) (aw_region hT ?_) ?_)
        · refine boolI (fun h0 => ?_) (fun h0 => ?_)
          · have h0 : (x.kind == 0) = true := h0
            refine boolI (fun h1 => ?_) (fun h1 => ?_)
            · refine ⟨_, wk_pick [0, 1, 2] [0, 1, 2, 8, 10, 11, 12, 13, 79] rfl, true, ?_, rfl⟩
              unfold Op06.of
              rw [h0, show (x.at_ == a) = true from h1]; rfl
            · have h1 : (x.at_ == a) = false := h1
              refine boolI (fun h2 => ?_) (fun h2 => ?_)
              · have h2 : (x.kind == 2) = true := h2
                refine boolI (fun h3 => ?_) (fun h3 => ?_)
                · refine ⟨_, wk_pick [0, 1, 2] [0, 1, 2, 8, 10, 11, 12, 13, 79] rfl, true, ?_, rfl⟩
                  unfold Op06.of
                  rw [h0, h1, h2, show (x.f.at_ == a) = true from h3]; rfl
                · refine ⟨_, wk_pick [0, 1, 2] [0, 1, 2, 8, 10, 11, 12, 13, 79] rfl, (x.f.to == a), ?_, rfl⟩
                  unfold Op06.of
                  rw [h0, h1, h2, show (x.f.at_ == a) = false from h3]; rfl
              · refine ⟨_, wk_pick [0, 1, 2] [0, 1, 2, 8, 10, 11, 12, 13, 79] rfl, false, ?_, rfl⟩
                unfold Op06.of
                rw [h0, h1, show (x.kind == 2) = false from h2]; rfl
          · have h0 : (x.kind == 0) = false := h0
            refine boolI (fun h2 => ?_) (fun h2 => ?_)
            · have h2 : (x.kind == 2) = true := h2
              refine boolI (fun h3 => ?_) (fun h3 => ?_)
              · refine ⟨_, wk_pick [0, 1, 2] [0, 1, 2, 8, 10, 11, 12, 13, 79] rfl, true, ?_, rfl⟩
                unfold Op06.of
                rw [h0, h2, show (x.f.at_ == a) = true from h3]; rfl
              · refine ⟨_, wk_pick [0, 1, 2] [0, 1, 2, 8, 10, 11, 12, 13, 79] rfl, (x.f.to == a), ?_, rfl⟩
                unfold Op06.of
                rw [h0, h2, show (x.f.at_ == a) = false from h3]; rfl
            · refine ⟨_, wk_pick [0, 1, 2] [0, 1, 2, 8, 10, 11, 12, 13, 79] rfl, false, ?_, rfl⟩
              unfold Op06.of
              rw [h0, show (x.kind == 2) = false from h2]; rfl
        · rintro _ ⟨bb, hbb, rfl⟩
          refine aw_cond (boolI (fun h4 => ?_) (fun h4 => ?_))
          · refine aw_exit ?_
            exact ⟨_, wk_pick [0, 1, 2] [0, 1, 2, 8, 10, 11, 12] rfl, D, hp.mono, rfl⟩
          · refine aw_skip ?_
            have w := law06_Does D x (i + 1) hp.ok (by omega)
            have hp2 := hp.does x (hbb.symm.trans h4)
            generalize D.does x = R at w hp2
            refine aw_region hT ?_
            refine callP (af_in [0, 1, 2] w rfl rfl rfl) ?_
            exact ⟨_, wk_pick [0, 3, 4] [0, 1, 2, 8, 10, 11, 12] rfl, R.2, hp2, rfl⟩
      · rintro _ ⟨D, hp, rfl⟩
        refine aw_region hT ?_
        refine ⟨n - 1, by omega, _, wk_pick [0, 1, 2] [0, 1, 2, 8, 10, 11, 12] rfl, i + 1, IntKind.i64.wrap ((i : Int) + 1), D, by omega, ?_, hp, rfl⟩
        rw [wrap64 _ (by omega) (by omega)]; rfl
    · refine aw_exit ?_
      refine ⟨_, wk_pick [0, 1, 2] [0, 1, 8, 10, 11] rfl, D, i + 1, hp, by omega, rfl⟩
  · rintro _ ⟨D, b, hp, hb2, rfl⟩
    have w3 := disk_Crash D [] (hp.ok.big (by omega)).1 (hp.ok.big (by omega)).2.1
    have w4 := law06_has (D.crashed []) a v b (hp.ok.crashed []) (by omega)
    rw [keep_end hp hb] at w4
    generalize D.crashed [] = D4 at w3 w4
    refine aw_seq (aw_region hT ?_)
    refine callP (af_args (af_in (args := [.ref 0 0, .p (.sl 1 (kx []))]) [0, 1, 2] w3 rfl rfl rfl) ⟨.inl rfl, .inr ⟨rfl, 1, rfl⟩, trivial⟩) ?_
    refine aw_wk (wk_pick [0, 3, 4] [0, 1, 8, 10, 11] rfl) ?_
    refine aw_seq (aw_region hT ?_)
    refine callP (af_in [0, 1, 2] w4 rfl rfl rfl) ?_
    refine aw_ret ?_
    exact retPick [] ⟨rfl, rfl⟩ rfl
end Go.Proofs.Ytolefphdldmlkaa.AL
