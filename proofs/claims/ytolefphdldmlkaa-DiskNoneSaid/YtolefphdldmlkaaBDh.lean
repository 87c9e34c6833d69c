/- The layer 06 (disk): what waits of a sector is settled. -/
import Derived.Test.YtolefphdldmlkaaBDg
namespace Go.Proofs.Ytolefphdldmlkaa.AL
open Go Go.Proofs

abbrev devS (D : Dev) : List ABlk := [devC D 1 2, .row t_disk_cell 4 (cx D.cells), .row t_disk_write 2 (wx D.waits), .cells 24 [.ref 0 0]]
abbrev cloS (a : Int) : AV := .clo (.func f_disk_Disk_settle_1) [.p (.box [.raw (.int .i64 a)]), .ref 3 0]
def Dev.hits (D : Dev) (a : Int) (x : Wr) : Dev := match hitA a x with | true => D.done x | false => D

theorem settle_1 (D : Dev) (a : Int) (x : Wr) (h0 : 0 ≤ x.at_) (h1 : x.at_.toNat < D.cells.length) :
    AFm Try.prog 4 f_disk_Disk_settle_1 [.agg [i64 x.at_, bA x.s], .p (.box [.raw (.int .i64 a)]), .ref 3 0] (devS D) (Pure (bl (hitA a x)) (devS (D.hits a x))) := by
  refine af_bodyM 4 hT F_disk_Disk_settle_1 rfl rfl N_disk_Disk_settle_1 rfl rfl ?_
  refine aw_seq (aw_region hT ?_)
  refine aw_wk (wk_boxL 4 [.raw (.int .i64 x.at_), bP x.s] rfl rfl) ?_
  refine aw_cut ⟨⟨16, [(1, .p (.box [.raw (.int .i64 a)])), (3, .p (.box [.raw (.int .i64 x.at_), bP x.s]))]⟩, devS (D.hits a x)⟩ True (aw_seq (aw_region hT ?_)) (fun _ => ?_)
  · refine aw_cond (boolI (fun h => ?_) (fun h => ?_))
    · have h : hitA a x = true := h
      refine aw_region hT ?_
      refine callP (af_in [0, 1, 2] (disk_done D x h0 h1) rfl rfl rfl) ?_
      refine ⟨?_, trivial⟩
      have e : D.hits a x = D.done x := by unfold Dev.hits; rw [h]
      rw [e]
      exact wk_pick [0, 1, 2, 3] [1, 3] rfl
    · have h : hitA a x = false := h
      refine aw_skip ⟨?_, trivial⟩
      have e : D.hits a x = D := by unfold Dev.hits; rw [h]
      rw [e]
      exact wk_pick [0, 1, 2, 3] [1, 3] rfl
  · refine aw_seq (aw_region hT ?_)
    refine aw_ret ?_
    exact retPick [0, 1, 2, 3] ⟨rfl, rfl⟩ rfl

theorem index_fn (D : Dev) (a : Int) (hw : D.waitsIn) (hn : D.waits.length ≤ 1000000) :
    AFm Try.prog 4 f_slices_IndexFunc_disk_write [.msl 2 2 0 D.waits.length, cloS a] (devS D) (fun r H' => (r = i64 (-1) ∧ (∀ x ∈ D.waits, hitA a x = false) ∧ H' = devS D) ∨
      (∃ (i : Nat) (x : Wr), D.waits[i]? = some x ∧ hitA a x = true ∧ (∀ y ∈ D.waits.take i, hitA a y = false) ∧ r = i64 i ∧ H' = devS (D.done x))) := by
  refine af_bodyM 4 hT F_slices_IndexFunc_disk_write rfl rfl N_slices_IndexFunc_disk_write rfl rfl ?_
  refine aw_seq (aw_region hT ?_)
  refine aw_seq (aw_seq (aw_region hT ?_))
  refine aw_block ?_
  refine aw_loopW (fun n s => ∃ (i : Nat) (j : Int), n + i = D.waits.length ∧ j = i ∧ (∀ y ∈ D.waits.take i, hitA a y = false) ∧ s = ⟨⟨19, [(0, .msl 2 2 0 D.waits.length), (1, cloS a), (7, i64 D.waits.length), (8, i64 j)]⟩, devS D⟩) D.waits.length ⟨⟨19, _⟩, [_, _, _, _]⟩ (wk_pick [0, 1, 2, 3] [0, 1, 7, 8] rfl) ⟨0, _, by omega, rfl, fun y hy => by simp at hy, rfl⟩ ?_
  rintro n s ⟨i, j, hni, rfl, hl, rfl⟩
  refine aw_seq (aw_region hT ?_)
  refine aw_seq (aw_cond (boolI (fun h => ?_) (fun h => ?_)))
  · have hi : i < D.waits.length := by
      have := of_decide_eq_true (show decide ((i : Int) < (D.waits.length : Int)) = true from h)
      omega
    have hx := List.getElem?_eq_getElem hi
    have hin := hw _ (List.getElem_mem hi)
    generalize D.waits[i] = x at hx hin
    refine aw_skip ?_
    refine aw_seq (aw_block (aw_seq (aw_region hT ?_)))
    refine aw_seq (aw_region hT ?_)
    refine ⟨⟨Int.natCast_nonneg _, of_decide_eq_true h⟩, ?_⟩
    refine optI (show (wx D.waits)[0 + ((i : Nat) : Int).toNat]? = some x.pv by rw [Nat.zero_add, Int.toNat_natCast]; exact wx_get hx) ?_
    refine callP (settle_1 D a x hin.1 (by omega)) ?_
    refine aw_cond (boolI (fun h2 => ?_) (fun h2 => ?_))
    · have e : D.hits a x = D.done x := by unfold Dev.hits; rw [h2]
      refine aw_seq (aw_region hT ?_)
      refine aw_ret ?_
      refine ⟨_, _, wk_pick [0, 1, 2, 3] [0] rfl, .inr ⟨i, x, hx, h2, hl, rfl, ?_⟩⟩
      rw [← e]; rfl
    · have e : D.hits a x = D := by unfold Dev.hits; rw [h2]
      refine aw_skip ?_
      refine aw_region hT ?_
      refine ⟨n - 1, by omega, _, wk_pick [0, 1, 2, 3] [0, 1, 7, 8] rfl, i + 1, IntKind.i64.wrap ((i : Int) + 1), by omega, ?_, ?_, ?_⟩
      · rw [wrap64 _ (by omega) (by omega)]; rfl
      · intro y hy
        rw [List.take_add_one, hx, List.mem_append] at hy
        rcases hy with hy | hy
        · exact hl y hy
        · have : y = x := by simpa using hy
          rw [this]; exact h2
      · refine congrArg (St.mk _) ?_
        show devS (D.hits a x) = devS D
        rw [e]
  · refine aw_exit ?_
    have hi : i = D.waits.length := by
      have : ¬ ((i : Int) < (D.waits.length : Int)) := of_decide_eq_false h
      omega
    refine aw_seq (aw_region hT ?_)
    refine aw_ret ?_
    refine ⟨_, _, wk_pick [0, 1, 2, 3] [0] rfl, .inl ⟨rfl, ?_, rfl⟩⟩
    rw [hi, List.take_length] at hl
    exact hl
end Go.Proofs.Ytolefphdldmlkaa.AL
