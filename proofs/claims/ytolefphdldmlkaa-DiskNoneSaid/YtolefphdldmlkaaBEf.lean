/- A write of bytes that are changed later; a read whose answer is changed. -/
import Derived.Test.YtolefphdldmlkaaBEe
import Derived.Test.YtolefphdldmlkaaBDz
namespace Go.Proofs.Ytolefphdldmlkaa.AL
open Go Go.Proofs

abbrev readZm (D : Dev) (a : Int) (s : Bytes) (L : ABlk) : List ABlk := [devC D 1 2, .row t_disk_cell 4 (cx D.cells), .row t_disk_write 2 (wx D.waits), .cells 3 [i64 a], .cells t_s_u8 [.msl 9 1 0 s.length], .cells 25 [i64 0], .cells t_s_disk_write [.msl 2 2 0 D.waits.length], L, .dead, .row t_u8 1 (bx s)]

theorem back_seqM (D : Dev) (a : Int) (q : RecK) (l : List AV) (hn : D.waits.length ≤ 1000000) (hit : Wr → Bool) (S : Code → Bytes → Prop)
    (hy : ∀ (i : Nat) (x : Wr), D.waits[i]? = some x → AYm Try.prog 8 7 [i64 i, .agg [i64 x.at_, bA x.s]] (readJ D a (.lp q .ready none l)) (fun r H' => (r = bl true ∧ hit x = false ∧ H' = readJ D a (.lp q .ready none l)) ∨ (r = bl false ∧ hit x = true ∧ ∃ c, S c x.s ∧ H' = readZm D a x.s (.lp q .done (some c) l)))) :
    AFm Try.prog 8 f_slices_Backward_disk_write_1 [.yld 7, .ref 6 0] (readJ D a (.lp q .ready none l)) (fun _ H' => (lastW hit D.waits = none ∧ H' = readJ D a (.lp q .ready none l)) ∨ (∃ x c, lastW hit D.waits = some x ∧ S c x.s ∧ H' = readZm D a x.s (.lp q .done (some c) l))) := by
  refine af_bodyM 8 hT F_slices_Backward_disk_write_1 rfl rfl N_slices_Backward_disk_write_1 rfl rfl ?_
  refine aw_seq (aw_region hT ?_)
  refine aw_block ?_
  refine aw_loopW (fun n s => ∃ j : Int, j = (n : Int) - 1 ∧ n ≤ D.waits.length ∧ lastW hit D.waits = lastW hit (D.waits.take n) ∧ s = ⟨⟨19, [(0, .yld 7), (1, .ref 6 0), (3, i64 j)]⟩, readJ D a (.lp q .ready none l)⟩) D.waits.length ⟨⟨19, _⟩, _⟩ (wk_keep [0, 1, 3]) ⟨_, ?_, Nat.le_refl _, by rw [List.take_length], rfl⟩ ?_
  · exact wrap64 _ (by omega) (by omega)
  rintro n s ⟨j, hj, hle, hl, rfl⟩
  refine aw_seq (aw_seq (aw_region hT ?_))
  refine aw_cond (boolI (fun h => ?_) (fun h => ?_))
  · have h := of_decide_eq_true h
    cases n with
    | zero => omega
    | succ n =>
    have hj : j = (n : Int) := by omega
    subst hj
    have hx := List.getElem?_eq_getElem (show n < D.waits.length by omega)
    generalize D.waits[n] = x at hx
    refine aw_skip ?_
    refine aw_seq (aw_block (aw_seq (aw_region hT ?_)))
    refine ⟨⟨Int.natCast_nonneg _, by omega⟩, ?_⟩
    refine optI (show (wx D.waits)[0 + ((n : Nat) : Int).toNat]? = some x.pv by rw [Nat.zero_add, Int.toNat_natCast]; exact wx_get hx) ?_
    refine ⟨_, hy n x hx, ?_⟩
    rintro r H' (⟨rfl, hh, rfl⟩ | ⟨rfl, hh, c, hT, rfl⟩)
    · refine aw_cond ?_
      refine aw_skip ?_
      refine aw_region hT ?_
      refine ⟨n, by omega, _, wk_keep [0, 1, 3], _, ?_, by omega, ?_, rfl⟩
      · exact wrap64 _ (by omega) (by omega)
      · rw [hl, lastW_take hit hx, hh]
    · refine aw_cond ?_
      refine aw_ret ?_
      refine ⟨_, _, Wk.refl _ _, .inr ⟨x, c, ?_, hT, rfl⟩⟩
      rw [hl, lastW_take hit hx, hh]
  · have h := of_decide_eq_false h
    refine aw_exit ?_
    have hn0 : n = 0 := by omega
    subst hn0
    exact ⟨_, _, Wk.refl _ _, .inl ⟨hl, rfl⟩⟩

set_option maxRecDepth 20000 in
theorem disk_ReadM (D : Dev) (a : Int) (x : Wr) (hn : D.waits.length ≤ 1000000) (hs : ∀ x ∈ D.waits, x.s.length ≤ 1000000) (h : D.dead = false) (h1 : D.has a = true) (hx : lastW (hitA a) D.waits = some x) :
    AFm Try.prog 3 f_disk_Disk_Read [.ref 0 0, i64 a] (devH D) (Pure (.tup [.msl 3 1 0 x.s.length, i64 0]) (devH D.count ++ [.row t_u8 1 (bx x.s)])) := by
  refine af_bodyM 3 hT F_disk_Disk_Read rfl rfl N_disk_Disk_Read rfl rfl ?_
  refine aw_seq (aw_region hT ?_)
  refine aw_cut ⟨⟨54, [(0, .ref 0 0), (3, .ref 3 0), (4, .ref 4 0), (5, .ref 5 0)]⟩, [devC D 1 2, .row t_disk_cell 4 (cx D.cells), .row t_disk_write 2 (wx D.waits), .cells 3 [i64 a], .cells t_s_u8 [.p (.raw (.slice none 0 0))], .cells 25 [i64 0]]⟩ True (aw_block (aw_seq (aw_region hT ?_))) (fun _ => ?_)
  · refine callP (af_in [0, 1, 2] (disk_Dead D) rfl rfl rfl) ?_
    refine aw_cond (boolI (fun h2 => ?_) (fun h2 => ?_))
    · rw [h] at h2; cases h2
    refine aw_seq (aw_region hT ?_)
    refine callP (af_in [0, 1, 2] (disk_has D a) rfl rfl rfl) ?_
    refine aw_cond (boolI (fun h2 => ?_) (fun h2 => ?_))
    · have h2 : (!(D.has a)) = true := h2
      rw [h1] at h2; cases h2
    exact aw_skip ⟨wk_pick [0, 1, 2, 3, 4, 5] [0, 3, 4, 5] rfl, trivial⟩
  refine aw_seq (aw_region hT ?_)
  refine aw_seq (aw_seq (aw_region hT ?_))
  refine callP (af_in [2] (backward D.waits) rfl rfl rfl) ?_
  refine aw_block ?_
  refine aw_rangeFunc 7 54 [0, 1, 2, 3, 4, 5, 6, 7] [0, 3, 4, 5, 27] (fun L (_ : Unit) => readJ D.count a L) (fun L s => readZm D.count a s L) () (fun _ => lastW (hitA a) D.waits = none) (fun c z => c = .ret ∧ ∃ x, lastW (hitA a) D.waits = some x ∧ z = x.s) rfl rfl (fun L _ => ⟨rfl, fun _ => rfl⟩) (fun L _ => ⟨rfl, fun _ => rfl⟩) rfl ?_ ?_ ?_
  · refine AFm.mono (back_seqM D.count a _ _ hn (hitA a) (fun c z => c = .ret) ?_) ?_
    · intro i x hx
      refine AYm.mono (ay_roundL (J := fun L (_ : Unit) => readJ D.count a L) (Z := fun L s => readZm D.count a s L) (a := ()) (Rnd := fun _ => hitA a x = false) (Stp := fun c z => c = .ret ∧ hitA a x = true ∧ z = x.s) (fun L _ => ⟨rfl, fun _ => rfl⟩) (fun L _ => ⟨rfl, fun _ => rfl⟩) ?_ ?_ rfl rfl ?_) ?_
      · exact fun t u ht => pickF_lt (ks := [0, 3, 4, 5, 27]) rfl ht
      · show ∀ p ∈ [28, 29], p < 54
        decide
      · intro B l hbl
        have hsx := hs x (List.mem_of_getElem? (show D.waits[i]? = some x from hx))
        refine aw_region hT ?_
        refine ⟨rfl, ?_⟩
        refine aw_block (aw_seq (aw_region hT ?_))
        refine aw_cond (boolI (fun h2 => ?_) (fun h2 => ?_))
        · refine aw_seq (aw_region hT ?_)
          refine callP (af_lift (clone_u8M x.s hsx) _ rfl) ?_
          refine aw_ret ?_
          exact ⟨x.s, _, ⟨rfl, h2, rfl⟩, Wk.trans (wk_boxL 8 [.raw (.int .i64 x.at_), bP x.s] rfl rfl) (wk_keep [])⟩
        · refine aw_skip ?_
          exact ⟨(), _, h2, wk_truncL 7 [] rfl hbl rfl rfl rfl⟩
      · rintro r H' (⟨hr, _, hh, hH⟩ | ⟨hr, c, z, ⟨h3, h4, h5⟩, hH⟩)
        · exact .inl ⟨hr, hh, hH⟩
        · subst h5; exact .inr ⟨hr, h4, c, h3, hH⟩
    · rintro r H' (⟨hx, rfl⟩ | ⟨x, c, hx, rfl, rfl⟩)
      · exact .inl ⟨(), hx, rfl⟩
      · exact .inr ⟨_, _, ⟨rfl, x, hx, rfl⟩, rfl⟩
  · intro _ hl
    rw [hl] at hx; cases hx
  · rintro _ z ⟨rfl, y, hy, rfl⟩
    rw [hx] at hy
    obtain rfl := Option.some.inj hy
    refine aw_ret ?_
    exact retPick [0, 1, 2, 9] ⟨rfl, rfl⟩ rfl
end Go.Proofs.Ytolefphdldmlkaa.AL
