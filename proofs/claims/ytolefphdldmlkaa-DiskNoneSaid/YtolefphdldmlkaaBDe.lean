/- The layer 06 (disk): a new device. -/
import Derived.Test.YtolefphdldmlkaaBDd
namespace Go.Proofs.Ytolefphdldmlkaa.AL
open Go Go.Proofs

def zeros : Bytes := List.replicate 256 0
abbrev cell0 : Cell := ⟨[], false, 0, []⟩
abbrev cell1 : Cell := ⟨zeros, false, 0, []⟩
def Dev.new (n : Nat) : Dev := ⟨List.replicate n cell1, [], false, false, 0, 0⟩
def newL (n i : Nat) : List Cell := List.replicate i cell1 ++ List.replicate (n - i) cell0

theorem newL_len {n i : Nat} (h : i ≤ n) : (newL n i).length = n := by simp [newL]; omega
theorem newL_get {n i : Nat} (h : i < n) : (newL n i)[i]? = some cell0 := by
  unfold newL; rw [List.getElem?_append_right (by simp)]
  rw [List.length_replicate, Nat.sub_self, show n - i = (n - i - 1) + 1 by omega]; rfl
theorem newL_set {n i : Nat} (h : i < n) : (newL n i).set i cell1 = newL n (i + 1) := by
  unfold newL
  rw [List.set_append_right _ _ (by simp), List.length_replicate, Nat.sub_self, show n - i = (n - (i + 1)) + 1 by omega, List.replicate_succ, List.replicate_succ']
  simp

theorem disk_New_no (n : Int) (h : n < 1 ∨ n > 4096) : AF Try.prog f_disk_New [i64 n] [] (Pure (.tup [.p (.raw (.pointer none)), i64 1]) []) := by
  refine af_body hT F_disk_New rfl rfl N_disk_New rfl ?_
  refine aw_seq (aw_region hT ?_)
  refine aw_seq (aw_seq (aw_region hT ?_))
  refine boolI (fun h1 => ?_) (fun h1 => ?_)
  · refine aw_cond ?_
    refine aw_seq (aw_region hT ?_)
    refine aw_ret ?_
    exact retPick [] ⟨rfl, rfl⟩ rfl
  · refine aw_cond (boolI (fun h2 => ?_) (fun h2 => ?_))
    · refine aw_seq (aw_region hT ?_)
      refine aw_ret ?_
      exact retPick [] ⟨rfl, rfl⟩ rfl
    · have := of_decide_eq_false h1
      have h2 : decide (n > 4096) = false := h2
      have := of_decide_eq_false h2
      omega

theorem disk_New (n : Nat) (h1 : 1 ≤ n) (h2 : n ≤ 4096) : AF Try.prog f_disk_New [i64 n] [] (Pure (.tup [.ref 0 0, i64 0]) (devH (Dev.new n))) := by
  refine af_body hT F_disk_New rfl rfl N_disk_New rfl ?_
  refine aw_seq (aw_region hT ?_)
  refine aw_seq (aw_seq (aw_region hT ?_))
  refine boolI (fun h1 => ?_) (fun h1 => ?_)
  · have := of_decide_eq_true h1
    omega
  refine aw_cond (boolI (fun h2 => ?_) (fun h2 => ?_))
  · have h2 : decide ((n : Int) > 4096) = true := h2
    have := of_decide_eq_true h2
    omega
  refine aw_skip ?_
  refine aw_seq (aw_region hT ?_)
  refine ⟨⟨rfl, by omega, (show ((n : Nat) : Int) * 64 ≤ 140737488355328 by omega), by omega⟩, ?_⟩
  refine aw_wk (Wk.trans (wk_row 0 (cx (newL n 0)) rfl ?_ ?_) (Wk.trans (wk_phantom t_disk_write 2) (Wk.trans (wk_cells 1 [.msl 0 4 0 n, .msl 2 2 0 0, bl false, bl false, i64 0, i64 0] rfl ⟨.inl rfl, .inr (.inr (.inl ⟨2, 2, 0, rfl, rfl⟩)), .inl rfl, .inl rfl, .inl rfl, .inl rfl, trivial⟩) (wk_pick [1, 0, 2] [4] rfl)))) ?_
  · show (cx (newL n 0)).length = (List.replicate ((n : Int).toNat) _).length
    rw [cx_len, newL_len (Nat.zero_le n), List.length_replicate]; omega
  · intro j e2 hj
    have hx : cx (newL n 0) = List.replicate n cell0.pv := by simp [cx, newL]
    rw [hx] at hj
    have hjn : j < n := by have := (List.getElem?_eq_some_iff.1 hj).1; simpa using this
    have : e2 = cell0.pv := by
      rw [List.getElem?_replicate, if_pos hjn] at hj
      exact (Option.some.inj hj).symm
    subst this
    refine ⟨[.raw (.slice none 0 0), .raw (.bool false), .raw (.int .i64 0), .raw (.slice none 0 0)], ?_, rfl, ?_⟩
    · show (List.replicate ((n : Int).toNat) _)[j]? = _
      rw [List.getElem?_replicate, if_pos (by omega)]; rfl
    · intro i u2 hu
      match i, hu with
      | 0, hu => exact ⟨_, rfl, .inr ⟨1, rfl, (Option.some.inj hu).symm⟩⟩
      | 1, hu => exact ⟨_, rfl, .inl (Option.some.inj hu).symm⟩
      | 2, hu => exact ⟨_, rfl, .inl (Option.some.inj hu).symm⟩
      | 3, hu => exact ⟨_, rfl, .inr ⟨1, rfl, (Option.some.inj hu).symm⟩⟩
  refine aw_seq (aw_seq (aw_region hT ?_))
  refine aw_block ?_
  refine aw_loopW (fun r s => ∃ (i : Nat) (j : Int) (C : List Cell), r + i = n ∧ j = i ∧ C = newL n i ∧ s = ⟨⟨34, [(4, .ref 0 0), (20, i64 (n : Nat)), (21, i64 j)]⟩, [.cells t_disk_Disk [.msl 1 4 0 n, .msl 2 2 0 0, bl false, bl false, i64 0, i64 0], .row t_disk_cell 4 (cx C), .row t_disk_write 2 []]⟩) n ⟨⟨34, _⟩, [_, _, _]⟩ (wk_pick [0, 1, 2] [4, 20, 21] rfl) ⟨0, _, _, rfl, rfl, rfl, rfl⟩ ?_
  rintro r s ⟨i, j, C, hr, rfl, hC, rfl⟩
  refine aw_seq (aw_region hT ?_)
  refine aw_seq (aw_cond (boolI (fun h => ?_) (fun h => ?_)))
  · refine aw_skip ?_
    have hi : i < n := by simpa using h
    refine aw_seq (aw_block (aw_seq (aw_region hT ?_)))
    refine aw_draw [5, 8] [5] hT follows_mixed (by rfl) ?_
    have hg : (cx C)[0 + ((i : Nat) : Int).toNat]? = some cell0.pv := by
      rw [hC, Int.toNat_natCast, Nat.zero_add]; exact cx_get (newL_get hi)
    refine ⟨⟨rfl, by omega, by decide, by omega⟩, ?_⟩
    refine ⟨⟨rfl, List.length_replicate.symm⟩, ?_⟩
    refine ⟨⟨Int.natCast_nonneg _, by omega⟩, ?_⟩
    refine optI hg ?_
    refine chkI rfl (optI rfl ?_)
    refine ⟨rfl, ?_⟩
    refine aw_region hT ?_
    refine ⟨n - (i + 1), by omega, _, wk_pick [0, 1, 2] [4, 20, 21] rfl, i + 1, IntKind.i64.wrap ((i : Int) + 1), newL n (i + 1), by omega, ?_, rfl, ?_⟩
    · rw [wrap64 _ (by omega) (by omega)]; rfl
    · refine congrArg (St.mk _) ?_
      have e : cx (newL n (i + 1)) = (cx C).set (0 + ((i : Nat) : Int).toNat) cell1.pv := by
        rw [← newL_set hi, ← hC, cx_set, Int.toNat_natCast, Nat.zero_add]
      rw [e]
      refine congrArg (fun z => [_, ABlk.row t_disk_cell 4 ((cx C).set (0 + ((i : Nat) : Int).toNat) [.sl 1 z, _, _, _]), _]) ?_
      show List.replicate 256 [PV.raw (.int .u8 0)] = bx (List.replicate 256 0)
      rw [bx, List.map_replicate]; rfl
  · refine aw_exit ?_
    refine aw_seq (aw_region hT ?_)
    refine aw_ret ?_
    have hi : i = n := by
      have : ¬ i < n := by simpa using h
      omega
    have hx : C = List.replicate n cell1 := by rw [hC, hi]; simp [newL]
    refine retPick [0, 1, 2] ⟨rfl, ?_⟩ rfl
    rw [hx]
    unfold devH devC Dev.new
    rw [List.length_replicate]
    rfl
end Go.Proofs.Ytolefphdldmlkaa.AL
