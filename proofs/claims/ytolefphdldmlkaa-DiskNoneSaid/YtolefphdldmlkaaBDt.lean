/- The law of layer 06: a call. -/
import Derived.Test.YtolefphdldmlkaaBDs
namespace Go.Proofs.Ytolefphdldmlkaa.AL
open Go Go.Proofs

abbrev Op06.av (x : Op06) : AV := .agg [i64 x.kind, i64 x.at_, .p (u8 x.b), bl x.short, i64 x.f.kind, i64 x.f.at_, i64 x.f.off, i64 x.f.n, i64 x.f.to, .p (u8 x.f.m0), .p (u8 x.f.m1), .p (u8 x.f.m2), .p (u8 x.f.m3), .p (.sl 1 (kx x.keep))]
def Op06.sec (x : Op06) : Bytes := match x.short with | true => (sect x.b).drop 1 | false => sect x.b
def Dev.does (D : Dev) (x : Op06) : Int × Dev :=
  match x.kind == 0 with
  | true => D.write x.at_ x.sec
  | false => match x.kind == 1 with
    | true => D.flush
    | false => match x.kind == 2 with
      | true => D.fault x.f
      | false => match x.kind == 3 with
        | true => (0, D.arm x.at_)
        | false => match x.kind == 4 with
          | true => (0, D.crashed x.keep)
          | false => (0, D)

theorem Dev.Ok.does {D : Dev} {b : Nat} (h : D.Ok b) (x : Op06) : (D.does x).2.Ok (b + 1) := by
  unfold Dev.does
  split
  · exact h.write _ _
  split
  · exact h.flush.mono (Nat.le_succ _)
  split
  · exact h.fault _
  split
  · exact (h.arm _).mono (Nat.le_succ _)
  split
  · exact (h.crashed _).mono (Nat.le_succ _)
  · exact h.mono (Nat.le_succ _)

theorem law06_Does (D : Dev) (x : Op06) (b : Nat) (hD : D.Ok b) (hb : b ≤ 1000000) : AFm Try.prog 1 f_law06_Does [.ref 0 0, x.av] (devH D) (Pure (i64 (D.does x).1) (devH (D.does x).2)) := by
  have big := hD.big hb
  refine af_bodyM 1 hT F_law06_Does rfl rfl N_law06_Does rfl rfl ?_
  refine aw_seq (aw_region hT ?_)
  refine aw_wk (wk_boxL 3 x.pv rfl rfl) ?_
  refine aw_seq (aw_region hT ?_)
  refine callP (af_at (law06_Sector x.b) _ rfl rfl) ?_
  refine aw_cut ⟨⟨44, [(0, .ref 0 0), (3, .p (.box x.pv)), (5, bA x.sec)]⟩, devH D⟩ True (aw_seq (aw_region hT ?_)) (fun _ => ?_)
  · refine aw_cond (boolI (fun h => ?_) (fun h => ?_))
    · have h : x.short = true := h
      refine aw_region hT ?_
      refine ⟨⟨by omega, by rw [bx_len, sect_len]; decide, Int.le_refl _⟩, ?_⟩
      have e : bx x.sec = ((bx (sect x.b)).take ((bx (sect x.b)).length : Int).toNat).drop (1 : Int).toNat := by
        unfold Op06.sec; rw [h, Int.toNat_natCast, List.take_length]
        show bx ((sect x.b).drop 1) = (bx (sect x.b)).drop 1
        rw [bx, bx, List.map_drop]
      show Wk _ _ ⟨⟨44, [(0, .ref 0 0), (3, .p (.box x.pv)), (5, .p (.sl 1 (bx x.sec)))]⟩, devH D⟩ ∧ True
      rw [e]
      exact ⟨wk_pick [0, 1, 2] [0, 3, 5] rfl, trivial⟩
    · have h : x.short = false := h
      have e : x.sec = sect x.b := by unfold Op06.sec; rw [h]
      rw [e]
      exact aw_skip ⟨wk_pick [0, 1, 2] [0, 3, 5] rfl, trivial⟩
  refine aw_cut2 (fun s1 => ∃ D2, D.does x = (0, D2) ∧ s1 = ⟨⟨44, []⟩, devH D2⟩) (aw_seq (aw_region hT ?_)) ?_
  · refine aw_block (aw_seq (aw_region hT ?_))
    refine aw_cond (boolI (fun h0 => ?_) (fun h0 => ?_))
    · have e : D.does x = D.write x.at_ x.sec := by unfold Dev.does; rw [show (x.kind == 0) = true from h0]
      refine aw_seq (aw_region hT ?_)
      refine callP (af_in [0, 1, 2] (disk_Write D x.at_ x.sec big.2.1) rfl rfl rfl) ?_
      refine aw_ret ?_
      rw [e]
      exact retPick [0, 3, 4] ⟨rfl, rfl⟩ rfl
    refine aw_seq (aw_region hT ?_)
    refine aw_cond (boolI (fun h1 => ?_) (fun h1 => ?_))
    · have e : D.does x = D.flush := by unfold Dev.does; rw [show (x.kind == 0) = false from h0, show (x.kind == 1) = true from h1]
      refine aw_seq (aw_region hT ?_)
      refine callP (af_in [0, 1, 2] (disk_Flush D big.1 big.2.1) rfl rfl rfl) ?_
      refine aw_ret ?_
      rw [e]
      exact retPick [0, 3, 4] ⟨rfl, rfl⟩ rfl
    refine aw_seq (aw_region hT ?_)
    refine aw_cond (boolI (fun h2 => ?_) (fun h2 => ?_))
    · have e : D.does x = D.fault x.f := by unfold Dev.does; rw [show (x.kind == 0) = false from h0, show (x.kind == 1) = false from h1, show (x.kind == 2) = true from h2]
      refine aw_seq (aw_region hT ?_)
      refine callP (af_in [0, 1, 2] (disk_Fault D x.f b hD hb) rfl rfl rfl) ?_
      refine aw_ret ?_
      rw [e]
      exact retPick [0, 1, 2] ⟨rfl, rfl⟩ rfl
    refine aw_seq (aw_region hT ?_)
    refine aw_cond (boolI (fun h3 => ?_) (fun h3 => ?_))
    · have e : D.does x = (0, D.arm x.at_) := by unfold Dev.does; rw [show (x.kind == 0) = false from h0, show (x.kind == 1) = false from h1, show (x.kind == 2) = false from h2, show (x.kind == 3) = true from h3]
      refine aw_region hT ?_
      refine callP (af_in [0, 1, 2] (disk_Arm D x.at_) rfl rfl rfl) ?_
      exact ⟨_, wk_pick [0, 1, 2] [] rfl, _, e, rfl⟩
    refine aw_seq (aw_region hT ?_)
    refine aw_cond (boolI (fun h4 => ?_) (fun h4 => ?_))
    · have e : D.does x = (0, D.crashed x.keep) := by unfold Dev.does; rw [show (x.kind == 0) = false from h0, show (x.kind == 1) = false from h1, show (x.kind == 2) = false from h2, show (x.kind == 3) = false from h3, show (x.kind == 4) = true from h4]
      refine aw_region hT ?_
      refine callP (af_in [0, 1, 2] (disk_Crash D x.keep big.1 big.2.1) rfl rfl rfl) ?_
      exact ⟨_, wk_pick [0, 3, 4] [] rfl, _, e, rfl⟩
    · have e : D.does x = (0, D) := by unfold Dev.does; rw [show (x.kind == 0) = false from h0, show (x.kind == 1) = false from h1, show (x.kind == 2) = false from h2, show (x.kind == 3) = false from h3, show (x.kind == 4) = false from h4]
      refine aw_skip ?_
      exact ⟨_, wk_pick [0, 1, 2] [] rfl, _, e, rfl⟩
  · rintro _ ⟨D2, e, rfl⟩
    refine aw_seq (aw_region hT ?_)
    refine aw_ret ?_
    rw [e]
    exact retPick [0, 1, 2] ⟨rfl, rfl⟩ rfl
end Go.Proofs.Ytolefphdldmlkaa.AL
