/- The layer 06 (disk): what was written last is looked for backwards; a read. -/
import Derived.Test.YtolefphdldmlkaaBDe
import Derived.Test.YtolefphdldmlkaaBLv
namespace Go.Proofs.Ytolefphdldmlkaa.AL
open Go Go.Proofs

/-- The last of those that are meant. -/
def lastW (hit : Wr → Bool) : List Wr → Option Wr
  | [] => none
  | x :: r => match lastW hit r with
    | some y => some y
    | none => match hit x with | true => some x | false => none
theorem lastW_snoc (hit : Wr → Bool) (x : Wr) : ∀ l, lastW hit (l ++ [x]) = match hit x with | true => some x | false => lastW hit l
  | [] => by cases h : hit x <;> simp [lastW, h]
  | y :: r => by
    simp only [List.cons_append, lastW, lastW_snoc hit x r]
    cases hit x <;> rfl
theorem lastW_take (hit : Wr → Bool) {l : List Wr} {i : Nat} {x : Wr} (h : l[i]? = some x) : lastW hit (l.take (i + 1)) = match hit x with | true => some x | false => lastW hit (l.take i) := by
  rw [List.take_add_one, h]; exact lastW_snoc hit x _

theorem backward (l : List Wr) : AFm Try.prog 1 f_slices_Backward_disk_write [.msl 0 2 0 l.length] [.row t_disk_write 2 (wx l)] (Pure (.clo (.func f_slices_Backward_disk_write_1) [.ref 1 0]) [.row t_disk_write 2 (wx l), .cells t_s_disk_write [.msl 0 2 0 l.length]]) := by
  refine af_bodyM 1 hT F_slices_Backward_disk_write rfl rfl N_slices_Backward_disk_write rfl rfl ?_
  refine aw_seq (aw_region hT ?_)
  refine aw_seq (aw_region hT ?_)
  refine aw_ret ?_
  exact retPick [0, 1] ⟨rfl, rfl⟩ rfl

abbrev readJ (D : Dev) (a : Int) (L : ABlk) : List ABlk := [devC D 1 2, .row t_disk_cell 4 (cx D.cells), .row t_disk_write 2 (wx D.waits), .cells 3 [i64 a], .cells t_s_u8 [.p (.raw (.slice none 0 0))], .cells 25 [i64 0], .cells t_s_disk_write [.msl 2 2 0 D.waits.length], L]

abbrev readZ (D : Dev) (a : Int) (s : Bytes) (L : ABlk) : List ABlk := [devC D 1 2, .row t_disk_cell 4 (cx D.cells), .row t_disk_write 2 (wx D.waits), .cells 3 [i64 a], .cells t_s_u8 [bA s], .cells 25 [i64 0], .cells t_s_disk_write [.msl 2 2 0 D.waits.length], L]

theorem back_seq (D : Dev) (a : Int) (q : RecK) (l : List AV) (hn : D.waits.length ≤ 1000000) (hit : Wr → Bool) (S : Code → Bytes → Prop)
    (hy : ∀ (i : Nat) (x : Wr), D.waits[i]? = some x → AYm Try.prog 8 7 [i64 i, .agg [i64 x.at_, bA x.s]] (readJ D a (.lp q .ready none l)) (fun r H' => (r = bl true ∧ hit x = false ∧ H' = readJ D a (.lp q .ready none l)) ∨ (r = bl false ∧ hit x = true ∧ ∃ c, S c x.s ∧ H' = readZ D a x.s (.lp q .done (some c) l)))) :
    AFm Try.prog 8 f_slices_Backward_disk_write_1 [.yld 7, .ref 6 0] (readJ D a (.lp q .ready none l)) (fun _ H' => (lastW hit D.waits = none ∧ H' = readJ D a (.lp q .ready none l)) ∨ (∃ x c, lastW hit D.waits = some x ∧ S c x.s ∧ H' = readZ D a x.s (.lp q .done (some c) l))) := by
  refine af_bodyM 8 hT F_slices_Backward_disk_write_1 rfl rfl N_slices_Backward_disk_write_1 rfl rfl ?_
  refine aw_seq (aw_region hT ?_)
  refine aw_block ?_
  refine aw_loopW (fun n s => ∃ j : Int, j = (n : Int) - 1 ∧ n ≤ D.waits.length ∧ lastW hit D.waits = lastW hit (D.waits.take n) ∧ s = ⟨⟨19, [(0, .yld 7), (1, .ref 6 0), (3, i64 j)]⟩, readJ D a (.lp q .ready none l)⟩) D.waits.length ⟨⟨19, _⟩, _⟩ (wk_keep [0, 1, 3]) ⟨_, ?_, Nat.le_refl _, by rw [List.take_length], rfl⟩ ?_
  · exact wrap64 _ (by omega) (by omega)
  rintro n s ⟨j, hj, hle, hl, rfl⟩
  refine aw_seq (aw_seq (aw_region hT ?_))
  refine aw_cond (boolI (fun h => ?_) (fun h => ?_))
  · have h := of_decide_eq_true h
    cases n with
    | zero => omega
    | succ n =>
    have hj : j = (n : Int) := by omega
    subst hj
    have hx := List.getElem?_eq_getElem (show n < D.waits.length by omega)
    generalize D.waits[n] = x at hx
    refine aw_skip ?_
    refine aw_seq (aw_block (aw_seq (aw_region hT ?_)))
    refine ⟨⟨Int.natCast_nonneg _, by omega⟩, ?_⟩
    refine optI (show (wx D.waits)[0 + ((n : Nat) : Int).toNat]? = some x.pv by rw [Nat.zero_add, Int.toNat_natCast]; exact wx_get hx) ?_
    refine ⟨_, hy n x hx, ?_⟩
    rintro r H' (⟨rfl, hh, rfl⟩ | ⟨rfl, hh, c, hT, rfl⟩)
    · refine aw_cond ?_
      refine aw_skip ?_
      refine aw_region hT ?_
      refine ⟨n, by omega, _, wk_keep [0, 1, 3], _, ?_, by omega, ?_, rfl⟩
      · exact wrap64 _ (by omega) (by omega)
      · rw [hl, lastW_take hit hx, hh]
    · refine aw_cond ?_
      refine aw_ret ?_
      refine ⟨_, _, Wk.refl _ _, .inr ⟨x, c, ?_, hT, rfl⟩⟩
      rw [hl, lastW_take hit hx, hh]
  · have h := of_decide_eq_false h
    refine aw_exit ?_
    have hn0 : n = 0 := by omega
    subst hn0
    exact ⟨_, _, Wk.refl _ _, .inl ⟨hl, rfl⟩⟩
end Go.Proofs.Ytolefphdldmlkaa.AL
