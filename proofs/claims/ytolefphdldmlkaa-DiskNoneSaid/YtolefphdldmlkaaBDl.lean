/- The layer 06 (disk): which faults may be; a fault. -/
import Derived.Test.YtolefphdldmlkaaBDk
namespace Go.Proofs.Ytolefphdldmlkaa.AL
open Go Go.Proofs

def Dev.may (D : Dev) (f : Flt) : Int := match D.has f.at_ with
  | false => 3
  | true => match decide (f.kind < 1) || decide (f.kind > 5) with
    | true => 1
    | false => match (f.kind == 1) && (decide (f.off < 0) || decide (f.off ≥ 256)) with
      | true => 1
      | false => match (f.kind == 4) && (decide (f.n < 1) || decide (f.n > 1000)) with
        | true => 1
        | false => match (f.kind == 5) && !(D.has f.to) with
          | true => 3
          | false => 0

theorem disk_may (D : Dev) (f : Flt) : AFm Try.prog 3 f_disk_Disk_may [.ref 0 0, f.av] (devH D) (Pure (i64 (D.may f)) (devH D)) := by
  refine af_bodyM 3 hT F_disk_Disk_may rfl rfl N_disk_Disk_may rfl rfl ?_
  refine aw_seq (aw_region hT ?_)
  refine aw_wk (wk_boxL 3 f.pv rfl rfl) ?_
  refine aw_cut ⟨⟨57, []⟩, devH D⟩ (D.may f = 0) (aw_block (aw_seq (aw_region hT ?_))) ?_
  · refine callP (af_in [0, 1, 2] (disk_has D f.at_) rfl rfl rfl) ?_
    refine aw_cond (boolI (fun h => ?_) (fun h => ?_))
    · have e : D.may f = 3 := by unfold Dev.may; rw [(Bool.not_eq_true' _).mp h]
      refine aw_seq (aw_region hT ?_)
      refine aw_ret ?_
      rw [e]
      exact retPick [0, 1, 2] ⟨rfl, rfl⟩ rfl
    have h : D.has f.at_ = true := (Bool.not_eq_false' _).mp h
    have one : (decide (f.kind < 1) || decide (f.kind > 5)) = true → D.may f = 1 := fun h2 => by unfold Dev.may; rw [h, h2]
    refine aw_cut2 (fun s1 => ∃ b, b = (decide (f.kind < 1) || decide (f.kind > 5)) ∧ s1 = ⟨⟨57, [(0, .ref 0 0), (3, .p (.box f.pv)), (11, bl b)]⟩, devH D⟩) (aw_seq (aw_region hT ?_)) ?_
    · refine aw_cond (boolI (fun h2 => ?_) (fun h2 => ?_))
      · refine aw_skip ⟨_, wk_pick [0, 1, 2] [0, 3, 11] rfl, decide (f.kind < 1), ?_, rfl⟩
        rw [show decide (f.kind < 1) = true from h2]; rfl
      · refine aw_region hT ?_
        refine ⟨_, wk_pick [0, 1, 2] [0, 3, 11] rfl, decide (f.kind > 5), ?_, rfl⟩
        rw [show decide (f.kind < 1) = false from h2]; rfl
    rintro _ ⟨b, hb, rfl⟩
    refine aw_cond (boolI (fun h2 => ?_) (fun h2 => ?_))
    · have e : D.may f = 1 := one (hb.symm.trans h2)
      refine aw_seq (aw_region hT ?_)
      refine aw_ret ?_
      rw [e]
      exact retPick [0, 1, 2] ⟨rfl, rfl⟩ rfl
    have hk : (decide (f.kind < 1) || decide (f.kind > 5)) = false := hb.symm.trans h2
    have two : ((f.kind == 1) && (decide (f.off < 0) || decide (f.off ≥ 256))) = true → D.may f = 1 := fun h3 => by unfold Dev.may; rw [h, hk, h3]
    refine aw_cut2 (fun s1 => ∃ b, b = ((f.kind == 1) && (decide (f.off < 0) || decide (f.off ≥ 256))) ∧ s1 = ⟨⟨57, [(0, .ref 0 0), (3, .p (.box f.pv)), (18, bl b)]⟩, devH D⟩) (aw_region hT ?_) ?_
    · refine boolI (fun h3 => ?_) (fun h3 => ?_)
      · have h3 : (f.kind == 1) = true := h3
        refine boolI (fun h4 => ?_) (fun h4 => ?_)
        · refine ⟨_, wk_pick [0, 1, 2] [0, 3, 18] rfl, true, ?_, rfl⟩
          rw [h3, show decide (f.off < 0) = true from h4]; rfl
        · refine ⟨_, wk_pick [0, 1, 2] [0, 3, 18] rfl, decide (f.off ≥ 256), ?_, rfl⟩
          rw [h3, show decide (f.off < 0) = false from h4]; rfl
      · have h3 : (f.kind == 1) = false := h3
        refine ⟨_, wk_pick [0, 1, 2] [0, 3, 18] rfl, false, ?_, rfl⟩
        rw [h3]; rfl
    rintro _ ⟨b, hb, rfl⟩
    refine aw_cond (boolI (fun h2 => ?_) (fun h2 => ?_))
    · have e : D.may f = 1 := two (hb.symm.trans h2)
      refine aw_seq (aw_region hT ?_)
      refine aw_ret ?_
      rw [e]
      exact retPick [0, 1, 2] ⟨rfl, rfl⟩ rfl
    have hk2 : ((f.kind == 1) && (decide (f.off < 0) || decide (f.off ≥ 256))) = false := hb.symm.trans h2
    have three : ((f.kind == 4) && (decide (f.n < 1) || decide (f.n > 1000))) = true → D.may f = 1 := fun h3 => by unfold Dev.may; rw [h, hk, hk2, h3]
    refine aw_cut2 (fun s1 => ∃ b, b = ((f.kind == 4) && (decide (f.n < 1) || decide (f.n > 1000))) ∧ s1 = ⟨⟨57, [(0, .ref 0 0), (3, .p (.box f.pv)), (32, bl b)]⟩, devH D⟩) (aw_region hT ?_) ?_
    · refine boolI (fun h3 => ?_) (fun h3 => ?_)
      · have h3 : (f.kind == 4) = true := h3
        refine boolI (fun h4 => ?_) (fun h4 => ?_)
        · refine ⟨_, wk_pick [0, 1, 2] [0, 3, 32] rfl, true, ?_, rfl⟩
          rw [h3, show decide (f.n < 1) = true from h4]; rfl
        · refine ⟨_, wk_pick [0, 1, 2] [0, 3, 32] rfl, decide (f.n > 1000), ?_, rfl⟩
          rw [h3, show decide (f.n < 1) = false from h4]; rfl
      · have h3 : (f.kind == 4) = false := h3
        refine ⟨_, wk_pick [0, 1, 2] [0, 3, 32] rfl, false, ?_, rfl⟩
        rw [h3]; rfl
    rintro _ ⟨b, hb, rfl⟩
    refine aw_cond (boolI (fun h2 => ?_) (fun h2 => ?_))
    · have e : D.may f = 1 := three (hb.symm.trans h2)
      refine aw_seq (aw_region hT ?_)
      refine aw_ret ?_
      rw [e]
      exact retPick [0, 1, 2] ⟨rfl, rfl⟩ rfl
    have hk3 : ((f.kind == 4) && (decide (f.n < 1) || decide (f.n > 1000))) = false := hb.symm.trans h2
    refine aw_seq (aw_region hT ?_)
    refine boolI (fun h3 => ?_) (fun h3 => ?_)
    · have h3 : (f.kind == 5) = true := h3
      refine callP (af_in [0, 1, 2] (disk_has D f.to) rfl rfl rfl) ?_
      refine aw_cond (boolI (fun h4 => ?_) (fun h4 => ?_))
      · have e : D.may f = 3 := by unfold Dev.may; rw [h, hk, hk2, hk3, h3, show (!(D.has f.to)) = true from h4]; rfl
        refine aw_seq (aw_region hT ?_)
        refine aw_ret ?_
        rw [e]
        exact retPick [0, 1, 2] ⟨rfl, rfl⟩ rfl
      · have e : D.may f = 0 := by unfold Dev.may; rw [h, hk, hk2, hk3, h3, show (!(D.has f.to)) = false from h4]; rfl
        exact aw_skip ⟨wk_pick [0, 1, 2] [] rfl, e⟩
    · have h3 : (f.kind == 5) = false := h3
      have e : D.may f = 0 := by unfold Dev.may; rw [h, hk, hk2, hk3, h3]; rfl
      refine aw_cond ?_
      exact aw_skip ⟨wk_pick [0, 1, 2] [] rfl, e⟩
  · intro e
    refine aw_seq (aw_region hT ?_)
    refine aw_ret ?_
    rw [e]
    exact retPick [0, 1, 2] ⟨rfl, rfl⟩ rfl
end Go.Proofs.Ytolefphdldmlkaa.AL
