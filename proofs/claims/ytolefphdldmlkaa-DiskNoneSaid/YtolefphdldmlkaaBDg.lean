/- The layer 06 (disk): a read. -/
import Derived.Test.YtolefphdldmlkaaBDf
namespace Go.Proofs.Ytolefphdldmlkaa.AL
open Go Go.Proofs

abbrev hitA (a : Int) : Wr → Bool := fun x => x.at_ == a
def Dev.readAt (D : Dev) (a : Int) : Int × Bytes := match lastW (hitA a) D.waits with
  | some x => (0, x.s)
  | none => match D.cells[a.toNat]? with
    | some c => match c.lost with | true => (20, []) | false => (0, c.s)
    | none => (20, [])
def Dev.read (D : Dev) (a : Int) : (Bytes × Int) × Dev := match D.dead with
  | true => (([], 21), D)
  | false => match D.has a with
    | false => (([], 3), D)
    | true => (((D.readAt a).2, (D.readAt a).1), D.count)

set_option maxRecDepth 20000 in
theorem disk_Read (D : Dev) (a : Int) (hn : D.waits.length ≤ 1000000) (hs : ∀ x ∈ D.waits, x.s.length ≤ 1000000) (hc : ∀ c ∈ D.cells, c.s.length ≤ 1000000) :
    AFm Try.prog 3 f_disk_Disk_Read [.ref 0 0, i64 a] (devH D) (Pure (.tup [bA (D.read a).1.1, i64 (D.read a).1.2]) (devH (D.read a).2)) := by
  refine af_bodyM 3 hT F_disk_Disk_Read rfl rfl N_disk_Disk_Read rfl rfl ?_
  refine aw_seq (aw_region hT ?_)
  refine aw_cut ⟨⟨54, [(0, .ref 0 0), (3, .ref 3 0), (4, .ref 4 0), (5, .ref 5 0)]⟩, [devC D 1 2, .row t_disk_cell 4 (cx D.cells), .row t_disk_write 2 (wx D.waits), .cells 3 [i64 a], .cells t_s_u8 [.p (.raw (.slice none 0 0))], .cells 25 [i64 0]]⟩ (D.dead = false ∧ D.has a = true) (aw_block (aw_seq (aw_region hT ?_))) ?_
  · refine callP (af_in [0, 1, 2] (disk_Dead D) rfl rfl rfl) ?_
    refine aw_cond (boolI (fun h => ?_) (fun h => ?_))
    · have e : D.read a = (([], 21), D) := by unfold Dev.read; rw [h]
      refine aw_seq (aw_region hT ?_)
      refine aw_wk (wk_cells 4 [.p (.sl 1 [])] rfl ⟨.inr (.inr (.inr ⟨1, rfl, rfl⟩)), trivial⟩) ?_
      refine aw_ret ?_
      rw [e]
      exact retPick [0, 1, 2] ⟨rfl, rfl⟩ rfl
    refine aw_seq (aw_region hT ?_)
    refine callP (af_in [0, 1, 2] (disk_has D a) rfl rfl rfl) ?_
    refine aw_cond (boolI (fun h1 => ?_) (fun h1 => ?_))
    · have e : D.read a = (([], 3), D) := by unfold Dev.read; rw [h, (Bool.not_eq_true' _).mp h1]
      refine aw_seq (aw_region hT ?_)
      refine aw_wk (wk_cells 4 [.p (.sl 1 [])] rfl ⟨.inr (.inr (.inr ⟨1, rfl, rfl⟩)), trivial⟩) ?_
      refine aw_ret ?_
      rw [e]
      exact retPick [0, 1, 2] ⟨rfl, rfl⟩ rfl
    exact aw_skip ⟨wk_pick [0, 1, 2, 3, 4, 5] [0, 3, 4, 5] rfl, h, (Bool.not_eq_false' _).mp h1⟩
  · rintro ⟨h, h1⟩
    have e : D.read a = (((D.readAt a).2, (D.readAt a).1), D.count) := by unfold Dev.read; rw [h, h1]
    rw [e]
    clear e
    have hlt : a.toNat < D.cells.length ∧ 0 ≤ a ∧ a < (D.cells.length : Int) := by
      have h1 : (decide (a ≥ 0) && decide (a < (D.cells.length : Int))) = true := h1
      rw [Bool.and_eq_true, decide_eq_true_eq, decide_eq_true_eq] at h1
      omega
    have hcg := List.getElem?_eq_getElem hlt.1
    have hcs := hc _ (List.getElem_mem hlt.1)
    generalize D.cells[a.toNat] = c at hcg hcs
    have g1 : (cx D.cells)[0 + a.toNat]? = some c.pv := by rw [Nat.zero_add]; exact cx_get hcg
    refine aw_seq (aw_region hT ?_)
    refine aw_seq (aw_seq (aw_region hT ?_))
    refine callP (af_in [2] (backward D.waits) rfl rfl rfl) ?_
    refine aw_block ?_
    refine aw_rangeFunc 7 54 [0, 1, 2, 3, 4, 5, 6, 7] [0, 3, 4, 5, 27] (fun L (_ : Unit) => readJ D.count a L) (fun L s => readZ D.count a s L) () (fun _ => lastW (hitA a) D.waits = none) (fun c z => c = .ret ∧ ∃ x, lastW (hitA a) D.waits = some x ∧ z = x.s) rfl rfl (fun L _ => ⟨rfl, fun _ => rfl⟩) (fun L _ => ⟨rfl, fun _ => rfl⟩) rfl ?_ ?_ ?_
    · refine AFm.mono (back_seq D.count a _ _ hn (hitA a) (fun c z => c = .ret) ?_) ?_
      · intro i x hx
        refine AYm.mono (ay_roundL (J := fun L (_ : Unit) => readJ D.count a L) (Z := fun L s => readZ D.count a s L) (a := ()) (Rnd := fun _ => hitA a x = false) (Stp := fun c z => c = .ret ∧ hitA a x = true ∧ z = x.s) (fun L _ => ⟨rfl, fun _ => rfl⟩) (fun L _ => ⟨rfl, fun _ => rfl⟩) ?_ ?_ rfl rfl ?_) ?_
        · exact fun t u ht => pickF_lt (ks := [0, 3, 4, 5, 27]) rfl ht
        · show ∀ p ∈ [28, 29], p < 54
          decide
        · intro B l hbl
          have hsx := hs x (List.mem_of_getElem? (show D.waits[i]? = some x from hx))
          refine aw_region hT ?_
          refine ⟨rfl, ?_⟩
          refine aw_block (aw_seq (aw_region hT ?_))
          refine aw_cond (boolI (fun h2 => ?_) (fun h2 => ?_))
          · refine aw_seq (aw_region hT ?_)
            refine callP (af_at (clone_u8 x.s hsx) _ rfl rfl) ?_
            refine aw_ret ?_
            exact ⟨x.s, _, ⟨rfl, h2, rfl⟩, wk_truncL 7 [] rfl hbl rfl rfl rfl⟩
          · refine aw_skip ?_
            exact ⟨(), _, h2, wk_truncL 7 [] rfl hbl rfl rfl rfl⟩
        · rintro r H' (⟨hr, _, hh, hH⟩ | ⟨hr, c, z, ⟨h3, h4, h5⟩, hH⟩)
          · exact .inl ⟨hr, hh, hH⟩
          · subst h5; exact .inr ⟨hr, h4, c, h3, hH⟩
      · rintro r H' (⟨hx, rfl⟩ | ⟨x, c, hx, rfl, rfl⟩)
        · exact .inl ⟨(), hx, rfl⟩
        · exact .inr ⟨_, _, ⟨rfl, x, hx, rfl⟩, rfl⟩
    · intro _ hl
      refine aw_seq (aw_seq ?_)
      refine aw_draw [] [] hT follows_mixed (by rfl) ?_
      refine ⟨⟨hlt.2.1, hlt.2.2⟩, ?_⟩
      refine optI g1 ?_
      have e : D.readAt a = match c.lost with | true => (20, []) | false => (0, c.s) := by unfold Dev.readAt; rw [hl, hcg]
      refine aw_cond (boolI (fun h2 => ?_) (fun h2 => ?_))
      · have h2 : c.lost = true := h2
        rw [h2] at e
        refine aw_seq (aw_region hT ?_)
        refine aw_wk (wk_cells 4 [.p (.sl 1 [])] rfl ⟨.inr (.inr (.inr ⟨1, rfl, rfl⟩)), trivial⟩) ?_
        refine aw_ret ?_
        rw [e]
        exact retPick [0, 1, 2] ⟨rfl, rfl⟩ rfl
      · have h2 : c.lost = false := h2
        rw [h2] at e
        refine aw_skip ?_
        refine aw_seq ?_
        refine aw_draw [9, 10] [] hT follows_mixed (by rfl) ?_
        refine ⟨⟨hlt.2.1, hlt.2.2⟩, ?_⟩
        refine optI g1 ?_
        refine ⟨_, af_at (clone_u8 c.s hcs) _ rfl rfl, ?_⟩
        refine aw_ret ?_
        rw [e]
        exact retPick [0, 1, 2] ⟨rfl, rfl⟩ rfl
    · rintro _ z ⟨rfl, x, hx, rfl⟩
      refine aw_ret ?_
      have e : D.readAt a = (0, x.s) := by unfold Dev.readAt; rw [hx]
      rw [e]
      exact retPick [0, 1, 2] ⟨rfl, rfl⟩ rfl
end Go.Proofs.Ytolefphdldmlkaa.AL
