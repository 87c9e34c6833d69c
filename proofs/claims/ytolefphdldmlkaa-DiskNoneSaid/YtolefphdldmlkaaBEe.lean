/- A nil device. -/
import Derived.Test.YtolefphdldmlkaaBDp
namespace Go.Proofs.Ytolefphdldmlkaa.AL
open Go Go.Proofs

abbrev nilP : AV := .p (.raw (.pointer none))

theorem nil_Dead : AF Try.prog f_disk_Disk_Dead [nilP] [] (Pure (bl true) []) := by
  refine af_body hT F_disk_Disk_Dead rfl rfl N_disk_Disk_Dead rfl ?_
  refine aw_seq (aw_region hT ?_)
  refine aw_seq (aw_region hT ?_)
  refine aw_ret ?_
  exact retPick [] ⟨rfl, rfl⟩ rfl
theorem nil_Len : AF Try.prog f_disk_Disk_Len [nilP] [] (Pure (i64 0) []) := by
  refine af_body hT F_disk_Disk_Len rfl rfl N_disk_Disk_Len rfl ?_
  refine aw_seq (aw_region hT ?_)
  refine aw_seq (aw_seq (aw_region hT ?_))
  refine aw_cond ?_
  refine aw_seq (aw_region hT ?_)
  refine aw_ret ?_
  exact retPick [] ⟨rfl, rfl⟩ rfl
theorem nil_Ops : AF Try.prog f_disk_Disk_Ops [nilP] [] (Pure (i64 0) []) := by
  refine af_body hT F_disk_Disk_Ops rfl rfl N_disk_Disk_Ops rfl ?_
  refine aw_seq (aw_region hT ?_)
  refine aw_seq (aw_seq (aw_region hT ?_))
  refine aw_cond ?_
  refine aw_seq (aw_region hT ?_)
  refine aw_ret ?_
  exact retPick [] ⟨rfl, rfl⟩ rfl
theorem nil_Copy : AF Try.prog f_disk_Disk_Copy [nilP] [] (Pure nilP []) := by
  refine af_body hT F_disk_Disk_Copy rfl rfl N_disk_Disk_Copy rfl ?_
  refine aw_seq (aw_region hT ?_)
  refine aw_seq (aw_seq (aw_region hT ?_))
  refine aw_cond ?_
  refine aw_seq (aw_region hT ?_)
  refine aw_ret ?_
  exact retPick [] ⟨rfl, rfl⟩ rfl
theorem nil_Arm (n : Int) : AF Try.prog f_disk_Disk_Arm [nilP, i64 n] [] (Pure (.tup []) []) := by
  refine af_body hT F_disk_Disk_Arm rfl rfl N_disk_Disk_Arm rfl ?_
  refine aw_seq (aw_region hT ?_)
  refine aw_cond ?_
  refine aw_skip ?_
  exact retPick [] ⟨rfl, rfl⟩ rfl
theorem nil_Crash : AF Try.prog f_disk_Disk_Crash [nilP, .p (.raw (.slice none 0 0))] [] (Pure (.tup []) []) := by
  refine af_body hT F_disk_Disk_Crash rfl rfl N_disk_Disk_Crash rfl ?_
  refine aw_seq (aw_region hT ?_)
  refine aw_cond ?_
  refine aw_skip ?_
  exact retPick [] ⟨rfl, rfl⟩ rfl
theorem nil_Flush : AF Try.prog f_disk_Disk_Flush [nilP] [] (Pure (i64 21) []) := by
  refine af_body hT F_disk_Disk_Flush rfl rfl N_disk_Disk_Flush rfl ?_
  refine aw_seq (aw_region hT ?_)
  refine aw_seq (aw_seq (aw_region hT ?_))
  refine callP nil_Dead ?_
  refine aw_cond ?_
  refine aw_seq (aw_region hT ?_)
  refine aw_ret ?_
  exact retPick [] ⟨rfl, rfl⟩ rfl
theorem nil_Write (a : Int) (s : Bytes) : AF Try.prog f_disk_Disk_Write [nilP, i64 a, bA s] [] (Pure (i64 21) []) := by
  refine af_body hT F_disk_Disk_Write rfl rfl N_disk_Disk_Write rfl ?_
  refine aw_seq (aw_region hT ?_)
  refine aw_seq (aw_block (aw_seq (aw_region hT ?_)))
  refine callP nil_Dead ?_
  refine aw_cond ?_
  refine aw_seq (aw_region hT ?_)
  refine aw_ret ?_
  exact retPick [] ⟨rfl, rfl⟩ rfl
theorem nil_Read (a : Int) : AF Try.prog f_disk_Disk_Read [nilP, i64 a] [] (Pure (.tup [bA [], i64 21]) []) := by
  refine af_body hT F_disk_Disk_Read rfl rfl N_disk_Disk_Read rfl ?_
  refine aw_seq (aw_region hT ?_)
  refine aw_seq (aw_block (aw_seq (aw_region hT ?_)))
  refine callP (af_at nil_Dead _ rfl rfl) ?_
  refine aw_cond ?_
  refine aw_seq (aw_region hT ?_)
  refine aw_wk (wk_cells 1 [.p (.sl 1 [])] rfl ⟨.inr (.inr (.inr ⟨1, rfl, rfl⟩)), trivial⟩) ?_
  refine aw_ret ?_
  exact retPick [] ⟨rfl, rfl⟩ rfl
theorem nil_has (a : Int) : AF Try.prog f_disk_Disk_has [nilP, i64 a] [] (Pure (bl false) []) := by
  refine af_body hT F_disk_Disk_has rfl rfl N_disk_Disk_has rfl ?_
  refine aw_seq (aw_region hT ?_)
  refine aw_seq (aw_region hT ?_)
  refine boolI (fun h => ?_) (fun h => ?_)
  · refine callP nil_Len ?_
    refine aw_ret ?_
    have h0 : decide (a ≥ 0) = true := h
    have h0 := of_decide_eq_true h0
    have e : decide (a < 0) = false := decide_eq_false (by omega)
    refine retPick [] ⟨?_, rfl⟩ rfl
    show bl (decide (a < 0)) = _
    rw [e]
  · refine aw_ret ?_
    exact retPick [] ⟨rfl, rfl⟩ rfl
theorem nil_may (f : Flt) : AF Try.prog f_disk_Disk_may [nilP, f.av] [] (Pure (i64 3) []) := by
  refine af_body hT F_disk_Disk_may rfl rfl N_disk_Disk_may rfl ?_
  refine aw_seq (aw_region hT ?_)
  refine aw_wk (Wk.trans (wk_boxL 0 f.pv rfl rfl) (wk_pick [] [0, 3, 4] rfl)) ?_
  refine aw_seq (aw_block (aw_seq (aw_region hT ?_)))
  refine callP (nil_has f.at_) ?_
  refine aw_cond ?_
  refine aw_seq (aw_region hT ?_)
  refine aw_ret ?_
  exact retPick [] ⟨rfl, rfl⟩ rfl
theorem nil_Fault (f : Flt) : AF Try.prog f_disk_Disk_Fault [nilP, f.av] [] (Pure (i64 3) []) := by
  refine af_body hT F_disk_Disk_Fault rfl rfl N_disk_Disk_Fault rfl ?_
  refine aw_seq (aw_region hT ?_)
  refine aw_wk (Wk.trans (wk_boxL 0 f.pv rfl rfl) (wk_pick [] [0, 3, 4] rfl)) ?_
  refine aw_seq (aw_seq (aw_region hT ?_))
  refine callP (nil_may f) ?_
  refine aw_seq (aw_region hT ?_)
  refine aw_cond ?_
  refine aw_seq (aw_region hT ?_)
  refine aw_ret ?_
  exact retPick [] ⟨rfl, rfl⟩ rfl
end Go.Proofs.Ytolefphdldmlkaa.AL
