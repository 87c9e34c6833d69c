/- The layer 06 (disk): settle; the faults. -/
import Derived.Test.YtolefphdldmlkaaBDi
namespace Go.Proofs.Ytolefphdldmlkaa.AL
open Go Go.Proofs

theorem disk_settle (D : Dev) (a : Int) (hw : D.waitsIn) (hn : D.waits.length ≤ 1000000) : AFm Try.prog 3 f_disk_Disk_settle [.ref 0 0, i64 a] (devH D) (Pure (.tup []) (devH (D.settle a))) := by
  refine af_bodyM 3 hT F_disk_Disk_settle rfl rfl N_disk_Disk_settle rfl rfl ?_
  refine aw_seq (aw_region hT ?_)
  refine aw_wk (wk_boxL 4 [.raw (.int .i64 a)] rfl rfl) ?_
  refine aw_draw [6, 9] [] hT follows_mixed (by rfl) ?_
  refine ⟨_, _, af_in [0, 1, 2, 3] (delete_fn D a hw hn) rfl rfl rfl, ?_⟩
  refine ⟨rfl, ?_⟩
  refine retPick [0, 1, 2] ⟨rfl, ?_⟩ rfl
  unfold devH devC
  rw [show (D.settle a).cells.length = D.cells.length from settleC_len _ _ _]
  rfl

/-- A fault. -/
structure Flt where
  kind : Int
  at_ : Int
  off : Int
  n : Int
  to : Int
  m0 : UInt8
  m1 : UInt8
  m2 : UInt8
  m3 : UInt8
  deriving DecidableEq
abbrev Flt.pv (f : Flt) : List PV := [.raw (.int .i64 f.kind), .raw (.int .i64 f.at_), .raw (.int .i64 f.off), .raw (.int .i64 f.n), .raw (.int .i64 f.to), u8 f.m0, u8 f.m1, u8 f.m2, u8 f.m3]
abbrev Flt.av (f : Flt) : AV := .agg [i64 f.kind, i64 f.at_, i64 f.off, i64 f.n, i64 f.to, .p (u8 f.m0), .p (u8 f.m1), .p (u8 f.m2), .p (u8 f.m3)]

/-- A cell is changed. -/
def Dev.upd (D : Dev) (a : Int) (g : Cell → Cell) : Dev := { D with cells := D.cells.modify a.toNat g }

theorem modify_some {l : List Cell} {i : Nat} {c : Cell} (g : Cell → Cell) (h : l[i]? = some c) : l.modify i g = l.set i (g c) := by
  apply List.ext_getElem?
  intro j
  rw [List.getElem?_modify, List.getElem?_set]
  by_cases e : i = j
  · subst e
    rw [if_pos rfl, if_pos (List.getElem?_eq_some_iff.1 h).1, h]; simp
  · simp [e]
theorem devH_upd (D : Dev) (a : Int) (g : Cell → Cell) {c : Cell} (h : D.cells[a.toNat]? = some c) : devH (D.upd a g) = [devC D 1 2, .row t_disk_cell 4 ((cx D.cells).set (0 + a.toNat) (g c).pv), .row t_disk_write 2 (wx D.waits)] := by
  rw [← devH_set D a.toNat (g c)]
  unfold Dev.upd
  rw [modify_some g h]

theorem has_iff {D : Dev} {a : Int} (h : D.has a = true) : a.toNat < D.cells.length ∧ 0 ≤ a ∧ a < (D.cells.length : Int) := by
  have h1 : (decide (a ≥ 0) && decide (a < (D.cells.length : Int))) = true := h
  rw [Bool.and_eq_true, decide_eq_true_eq, decide_eq_true_eq] at h1
  omega

theorem cell_get (D : Dev) {a : Int} (h : D.has a = true) : ∃ c, D.cells[a.toNat]? = some c ∧ (cx D.cells)[0 + a.toNat]? = some c.pv := by
  have hc := List.getElem?_eq_getElem (has_iff h).1
  exact ⟨_, hc, by rw [Nat.zero_add]; exact cx_get hc⟩

theorem settle_has (D : Dev) (a b : Int) : (D.settle a).has b = D.has b := by
  unfold Dev.has; rw [show (D.settle a).cells.length = D.cells.length from settleC_len _ _ _]

theorem bx_zeros : bx zeros = List.replicate 256 [PV.raw (.int .u8 0)] := by
  unfold zeros bx; rw [List.map_replicate]; rfl

theorem disk_lose (D : Dev) (f : Flt) (hw : D.waitsIn) (hn : D.waits.length ≤ 1000000) (hh : D.has f.at_ = true) :
    AFm Try.prog 3 f_disk_Disk_lose [.ref 0 0, f.av] (devH D) (Pure (.tup []) (devH ((D.settle f.at_).upd f.at_ fun c => { c with lost := true }))) := by
  refine af_bodyM 3 hT F_disk_Disk_lose rfl rfl N_disk_Disk_lose rfl rfl ?_
  refine aw_seq (aw_region hT ?_)
  refine aw_wk (wk_boxL 3 f.pv rfl rfl) ?_
  refine aw_seq (aw_region hT ?_)
  refine callP (af_in [0, 1, 2] (disk_settle D f.at_ hw hn) rfl rfl rfl) ?_
  have hlt := has_iff ((settle_has D f.at_ f.at_).trans hh)
  obtain ⟨c, hc, g1⟩ := cell_get (D.settle f.at_) ((settle_has D f.at_ f.at_).trans hh)
  refine aw_draw [8] [] hT follows_mixed (by rfl) ?_
  refine ⟨⟨hlt.2.1, hlt.2.2⟩, ?_⟩
  refine optI g1 ?_
  exact retPick [0, 1, 2] ⟨rfl, (devH_upd (D.settle f.at_) f.at_ (fun c => { c with lost := true }) hc).symm⟩ rfl

theorem disk_blank (D : Dev) (f : Flt) (hw : D.waitsIn) (hn : D.waits.length ≤ 1000000) (hh : D.has f.at_ = true) :
    AFm Try.prog 3 f_disk_Disk_blank [.ref 0 0, f.av] (devH D) (Pure (.tup []) (devH ((D.settle f.at_).upd f.at_ fun c => { c with s := zeros, lost := false }))) := by
  refine af_bodyM 3 hT F_disk_Disk_blank rfl rfl N_disk_Disk_blank rfl rfl ?_
  refine aw_seq (aw_region hT ?_)
  refine aw_wk (wk_boxL 3 f.pv rfl rfl) ?_
  refine aw_seq (aw_region hT ?_)
  refine callP (af_in [0, 1, 2] (disk_settle D f.at_ hw hn) rfl rfl rfl) ?_
  have hlt := has_iff ((settle_has D f.at_ f.at_).trans hh)
  obtain ⟨c, hc, g1⟩ := cell_get (D.settle f.at_) ((settle_has D f.at_ f.at_).trans hh)
  have g2 : ∀ e, ((cx (D.settle f.at_).cells).set (0 + f.at_.toNat) e)[0 + f.at_.toNat]? = some e := fun e => by
    rw [Nat.zero_add]; exact List.getElem?_set_self (by rw [cx_len]; exact hlt.1)
  refine aw_draw [15, 18] [12] hT follows_mixed (by rfl) ?_
  refine ⟨⟨rfl, by omega, by decide, by omega⟩, ?_⟩
  refine ⟨⟨rfl, List.length_replicate.symm⟩, ?_⟩
  refine ⟨⟨hlt.2.1, hlt.2.2⟩, ?_⟩
  refine optI g1 ?_
  refine chkI rfl (optI rfl ?_)
  refine ⟨⟨hlt.2.1, hlt.2.2⟩, ?_⟩
  refine optI (g2 _) ?_
  refine ⟨rfl, ?_⟩
  refine retPick [0, 1, 2] ⟨rfl, ?_⟩ rfl
  refine Eq.trans ?_ (devH_upd (D.settle f.at_) f.at_ (fun c => { c with s := zeros, lost := false }) hc).symm
  refine Eq.trans (congrArg (fun z => [devC (D.settle f.at_) 1 2, ABlk.row t_disk_cell 4 z, ABlk.row t_disk_write 2 (wx (D.settle f.at_).waits)]) (List.set_set ..)) ?_
  refine congrArg (fun z => [devC (D.settle f.at_) 1 2, ABlk.row t_disk_cell 4 ((cx (D.settle f.at_).cells).set (0 + f.at_.toNat) [.sl 1 z, .raw (.bool false), .raw (.int .i64 c.drop), iP c.miss]), ABlk.row t_disk_write 2 (wx (D.settle f.at_).waits)]) ?_
  exact bx_zeros.symm

theorem disk_drop (D : Dev) (f : Flt) (hh : D.has f.at_ = true) :
    AFm Try.prog 3 f_disk_Disk_drop [.ref 0 0, f.av] (devH D) (Pure (.tup []) (devH (D.upd f.at_ fun c => { c with drop := IntKind.i64.wrap (c.drop + f.n) }))) := by
  refine af_bodyM 3 hT F_disk_Disk_drop rfl rfl N_disk_Disk_drop rfl rfl ?_
  refine aw_seq (aw_region hT ?_)
  refine aw_wk (wk_boxL 3 f.pv rfl rfl) ?_
  have hlt := has_iff hh
  obtain ⟨c, hc, g1⟩ := cell_get D hh
  refine aw_draw [14] [] hT follows_mixed (by rfl) ?_
  refine ⟨⟨hlt.2.1, hlt.2.2⟩, ?_⟩
  refine optI g1 ?_
  refine ⟨⟨hlt.2.1, hlt.2.2⟩, ?_⟩
  refine optI g1 ?_
  exact retPick [0, 1, 2] ⟨rfl, (devH_upd D f.at_ (fun c => { c with drop := IntKind.i64.wrap (c.drop + f.n) }) hc).symm⟩ rfl

theorem disk_miss (D : Dev) (f : Flt) (hh : D.has f.at_ = true) (hm : ∀ c ∈ D.cells, c.miss.length ≤ 1000000) :
    AFm Try.prog 3 f_disk_Disk_miss [.ref 0 0, f.av] (devH D) (Pure (.tup []) (devH (D.upd f.at_ fun c => { c with miss := c.miss ++ [f.to] }))) := by
  refine af_bodyM 3 hT F_disk_Disk_miss rfl rfl N_disk_Disk_miss rfl rfl ?_
  refine aw_seq (aw_region hT ?_)
  refine aw_wk (wk_boxL 3 f.pv rfl rfl) ?_
  have hlt := has_iff hh
  obtain ⟨c, hc, g1⟩ := cell_get D hh
  have hcm := hm _ (List.mem_of_getElem? hc)
  refine aw_seq ?_
  refine aw_draw [] [] hT follows_mixed (by rfl) ?_
  refine ⟨⟨hlt.2.1, hlt.2.2⟩, ?_⟩
  refine aw_draw [5, 9, 12] [8, 9] hT follows_mixed (by rfl) ?_
  refine optI g1 ?_
  refine ⟨_, _, af_lift (clone_i64 c.miss hcm) _ rfl, ?_⟩
  refine ⟨⟨rfl, rfl⟩, ?_⟩
  refine ⟨ix_len _, ⟨?_, ?_⟩, ?_⟩
  · show ((ix c.miss).length + 1) * 8 ≤ 140737488355328
    rw [ix_len]; omega
  · show (ix c.miss).length + 1 ≤ 140737488355328
    rw [ix_len]; omega
  refine ⟨⟨rfl, rfl⟩, ?_⟩
  refine optI g1 ?_
  refine ⟨rfl, ?_⟩
  refine ⟨⟨⟨rfl, rfl⟩, rfl⟩, ?_⟩
  refine retPick [0, 1, 2] ⟨rfl, ?_⟩ rfl
  refine Eq.trans ?_ (devH_upd D f.at_ (fun c => { c with miss := c.miss ++ [f.to] }) hc).symm
  have e : ix (c.miss ++ [f.to]) = ix c.miss ++ [[.raw (.int .i64 f.to)]] := by simp [ix]
  show _ = [_, ABlk.row t_disk_cell 4 ((cx D.cells).set (0 + f.at_.toNat) [_, _, _, .sl 1 (ix (c.miss ++ [f.to]))]), _]
  rw [e]
  rfl
end Go.Proofs.Ytolefphdldmlkaa.AL
