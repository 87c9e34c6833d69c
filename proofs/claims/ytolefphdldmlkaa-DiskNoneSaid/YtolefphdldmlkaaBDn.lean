/- The law's helpers: a sector of one byte; are two the same. -/
import Derived.Test.YtolefphdldmlkaaBDm
namespace Go.Proofs.Ytolefphdldmlkaa.AL
open Go Go.Proofs

def sect (b : UInt8) : Bytes := List.replicate 256 b
def sectL (b : UInt8) (i : Nat) : Bytes := List.replicate i b ++ List.replicate (256 - i) 0
theorem sectL_len {b : UInt8} {i : Nat} (h : i ≤ 256) : (sectL b i).length = 256 := by simp [sectL]; omega
theorem sectL_set {b : UInt8} {i : Nat} (h : i < 256) : (sectL b i).set i b = sectL b (i + 1) := by
  unfold sectL
  rw [List.set_append_right _ _ (by simp), List.length_replicate, Nat.sub_self, show 256 - i = (256 - (i + 1)) + 1 by omega, List.replicate_succ, List.replicate_succ']
  simp
theorem sect_len (b : UInt8) : (sect b).length = 256 := List.length_replicate
theorem bx_set (l : Bytes) (i : Nat) (b : UInt8) : bx (l.set i b) = (bx l).set i [u8 b] := by simp [bx, List.map_set]

theorem law06_SectorM (b : UInt8) : AF Try.prog f_law06_Sector [.p (u8 b)] [] (Pure (.msl 0 1 0 256) [.row t_u8 1 (bx (sect b))]) := by
  refine af_body hT F_law06_Sector rfl rfl N_law06_Sector rfl ?_
  refine aw_seq (aw_region hT ?_)
  refine aw_seq (aw_region hT ?_)
  refine ⟨⟨rfl, by omega, by decide, by omega⟩, ?_⟩
  refine aw_seq (aw_seq (aw_region hT ?_))
  refine aw_block ?_
  obtain ⟨N, hN⟩ : ∃ N : Nat, N = 256 := ⟨_, rfl⟩
  refine aw_loopW (fun n s => ∃ (i : Nat) (j : Int) (S : Bytes), n + i = 256 ∧ j = i ∧ S = sectL b i ∧ s = ⟨⟨17, [(0, .p (u8 b)), (3, .msl 0 1 0 N), (4, i64 j)]⟩, [.row t_u8 1 (bx S)]⟩) 256 ⟨⟨17, _⟩, [_]⟩ (wk_pick [0] [0, 3, 4] rfl) ⟨0, _, sectL b 0, rfl, rfl, rfl, ?_⟩ ?_
  · rw [show bx (sectL b 0) = List.replicate 256 [PV.raw (.int .u8 0)] from bx_zeros, hN]
    rfl
  rintro n s ⟨i, j, S, hni, rfl, hS, rfl⟩
  refine aw_seq (aw_seq (aw_region hT ?_))
  refine aw_cond (boolI (fun h => ?_) (fun h => ?_))
  · have hi : i < 256 := by
      have := of_decide_eq_true (show decide ((i : Int) < (N : Int)) = true from h)
      omega
    have hl : S.length = 256 := by rw [hS]; exact sectL_len (by omega)
    refine aw_skip ?_
    refine aw_seq (aw_block (aw_region hT ?_))
    refine ⟨⟨Int.natCast_nonneg _, of_decide_eq_true h⟩, ?_⟩
    refine optI (show (bx S)[0 + ((i : Nat) : Int).toNat]? = some [u8 (S[i]'(by omega))] by
      rw [Nat.zero_add, Int.toNat_natCast, bx, List.getElem?_map, List.getElem?_eq_getElem (by omega)]; rfl) ?_
    refine chkI rfl (optI rfl ?_)
    refine aw_region hT ?_
    refine ⟨n - 1, by omega, _, wk_pick [0] [0, 3, 4] rfl, i + 1, IntKind.i64.wrap ((i : Int) + 1), sectL b (i + 1), by omega, ?_, rfl, ?_⟩
    · rw [wrap64 _ (by omega) (by omega)]; rfl
    · refine congrArg (St.mk _) ?_
      rw [← sectL_set hi, ← hS, bx_set, show (bx S).set i [u8 b] = (bx S).set (0 + ((i : Nat) : Int).toNat) [u8 b] by rw [Int.toNat_natCast, Nat.zero_add]]
      rfl
  · refine aw_exit ?_
    have hi : i = 256 := by
      have := of_decide_eq_false (show decide ((i : Int) < (N : Int)) = false from h)
      omega
    refine aw_seq (aw_region hT ?_)
    refine aw_ret ?_
    have e : S = sect b := by rw [hS, hi]; unfold sectL sect; rw [Nat.sub_self]; exact List.append_nil _
    subst e
    rw [← hN]
    exact retPick [0] ⟨rfl, rfl⟩ rfl

theorem law06_Sector (b : UInt8) : AF Try.prog f_law06_Sector [.p (u8 b)] [] (Pure (bA (sect b)) []) :=
  af_frz (law06_SectorM b) (by rw [bx_len, sect_len])

def sameTo (s t : Bytes) (i : Nat) : Bool := s.take i == t.take i

theorem ref04_Same (s t : Bytes) (hs : s.length ≤ 1000000) : AF Try.prog f_ref04_Same [bA s, bA t] [] (Pure (bl (s == t)) []) := by
  refine af_body hT F_ref04_Same rfl rfl N_ref04_Same rfl ?_
  refine aw_seq (aw_region hT ?_)
  refine aw_seq (aw_seq (aw_region hT ?_))
  refine aw_cond (boolI (fun h => ?_) (fun h => ?_))
  · have hne : (s == t) = false := by
      have h : (((bx s).length : Int) != ((bx t).length : Int)) = true := h
      rw [bx_len, bx_len] at h
      rw [beq_eq_false_iff_ne]
      rintro rfl
      simp at h
    refine aw_seq (aw_region hT ?_)
    refine aw_ret ?_
    rw [hne]
    exact retPick [] ⟨rfl, rfl⟩ rfl
  have hlen : s.length = t.length := by
    have h : (((bx s).length : Int) != ((bx t).length : Int)) = false := h
    rw [bx_len, bx_len] at h
    have h : (s.length : Int) = t.length := by simpa using h
    omega
  refine aw_skip ?_
  refine aw_seq (aw_seq (aw_region hT ?_))
  refine aw_block ?_
  refine aw_loopW (fun n st => ∃ (i : Nat) (j : Int), n + i = s.length ∧ j = i ∧ s.take i = t.take i ∧ st = ⟨⟨26, [(0, bA s), (1, bA t), (5, i64 j)]⟩, []⟩) s.length ⟨⟨26, _⟩, []⟩ (wk_pick [] [0, 1, 5] rfl) ⟨0, _, rfl, rfl, rfl, rfl⟩ ?_
  rintro n st ⟨i, j, hni, rfl, ht, rfl⟩
  refine aw_seq (aw_seq (aw_region hT ?_))
  refine aw_cond (boolI (fun h => ?_) (fun h => ?_))
  · have hi : i < s.length := by
      have := of_decide_eq_true (show decide ((i : Int) < ((bx s).length : Int)) = true from h)
      rw [bx_len] at this; omega
    have hx : (bx s)[((i : Nat) : Int).toNat]? = some [u8 s[i]] := by
      rw [Int.toNat_natCast, bx, List.getElem?_map, List.getElem?_eq_getElem hi]; rfl
    have hy : (bx t)[((i : Nat) : Int).toNat]? = some [u8 (t[i]'(by omega))] := by
      rw [Int.toNat_natCast, bx, List.getElem?_map, List.getElem?_eq_getElem (by omega)]; rfl
    refine aw_skip ?_
    refine aw_seq (aw_block (aw_seq ?_))
    refine aw_draw [] [] hT follows_mixed (by rfl) ?_
    refine ⟨Int.natCast_nonneg _, optI hx ?_⟩
    refine ⟨Int.natCast_nonneg _, optI hy ?_⟩
    refine aw_cond (boolI (fun h2 => ?_) (fun h2 => ?_))
    · have hne : (s == t) = false := by
        rw [beq_eq_false_iff_ne]
        rintro rfl
        have h2 : (((s[i].toNat : Nat) : Int) != ((s[i].toNat : Nat) : Int)) = true := h2
        simp at h2
      refine aw_seq (aw_region hT ?_)
      refine aw_ret ?_
      rw [hne]
      exact retPick [] ⟨rfl, rfl⟩ rfl
    · have he : s[i] = t[i]'(by omega) := by
        have h2 : (((s[i].toNat : Nat) : Int) != (((t[i]'(by omega)).toNat : Nat) : Int)) = false := h2
        have h2 : (s[i].toNat : Int) = ((t[i]'(by omega)).toNat : Int) := by simpa using h2
        have h2 : s[i].toNat = (t[i]'(by omega)).toNat := by omega
        exact UInt8.toNat_inj.mp h2
      refine aw_skip ?_
      refine aw_region hT ?_
      refine ⟨n - 1, by omega, _, wk_pick [] [0, 1, 5] rfl, i + 1, IntKind.i64.wrap ((i : Int) + 1), by omega, ?_, ?_, rfl⟩
      · rw [wrap64 _ (by omega) (by omega)]; rfl
      · rw [List.take_add_one, List.take_add_one, ht, List.getElem?_eq_getElem hi, List.getElem?_eq_getElem (show i < t.length by omega), he]
  · refine aw_exit ?_
    have hi : i = s.length := by
      have := of_decide_eq_false (show decide ((i : Int) < ((bx s).length : Int)) = false from h)
      rw [bx_len] at this; omega
    have he : (s == t) = true := by
      rw [beq_iff_eq]
      rw [hi, List.take_length, hlen, List.take_length] at ht
      exact ht
    refine aw_seq (aw_region hT ?_)
    refine aw_ret ?_
    rw [he]
    exact retPick [] ⟨rfl, rfl⟩ rfl
end Go.Proofs.Ytolefphdldmlkaa.AL
