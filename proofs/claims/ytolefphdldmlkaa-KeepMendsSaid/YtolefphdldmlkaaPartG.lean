/- A part of the proof. -/
import Derived.Test.YtolefphdldmlkaaPartF
/- The layer 06 (disk): settle; the faults. -/
namespace Go.Proofs.Ytolefphdldmlkaa.AL
open Go Go.Proofs

theorem disk_settle (D : Dev) (a : Int) (hw : D.waitsIn) (hn : D.waits.length ≤ 1000000) : AFm Try.prog 3 f_disk_Disk_settle [.ref 0 0, i64 a] (devH D) (Pure (.tup []) (devH (D.settle a))) := by
  refine af_bodyM 3 hT F_disk_Disk_settle rfl rfl N_disk_Disk_settle rfl rfl ?_
  refine aw_seq (aw_region hT ?_)
  refine aw_wk (wk_boxL 4 [.raw (.int .i64 a)] rfl rfl) ?_
  refine aw_draw [6, 9] [] hT follows_mixed (by rfl) ?_
  refine ⟨_, _, af_in [0, 1, 2, 3] (delete_fn D a hw hn) rfl rfl rfl, ?_⟩
  refine ⟨rfl, ?_⟩
  refine retPick [0, 1, 2] ⟨rfl, ?_⟩ rfl
  unfold devH devC
  rw [show (D.settle a).cells.length = D.cells.length from settleC_len _ _ _]
  rfl

/-- A fault. -/
structure Flt where
  kind : Int
  at_ : Int
  off : Int
  n : Int
  to : Int
  m0 : UInt8
  m1 : UInt8
  m2 : UInt8
  m3 : UInt8
  deriving DecidableEq
abbrev Flt.pv (f : Flt) : List PV := [.raw (.int .i64 f.kind), .raw (.int .i64 f.at_), .raw (.int .i64 f.off), .raw (.int .i64 f.n), .raw (.int .i64 f.to), u8 f.m0, u8 f.m1, u8 f.m2, u8 f.m3]
abbrev Flt.av (f : Flt) : AV := .agg [i64 f.kind, i64 f.at_, i64 f.off, i64 f.n, i64 f.to, .p (u8 f.m0), .p (u8 f.m1), .p (u8 f.m2), .p (u8 f.m3)]

/-- A cell is changed. -/
def Dev.upd (D : Dev) (a : Int) (g : Cell → Cell) : Dev := { D with cells := D.cells.modify a.toNat g }

theorem modify_some {l : List Cell} {i : Nat} {c : Cell} (g : Cell → Cell) (h : l[i]? = some c) : l.modify i g = l.set i (g c) := by
  apply List.ext_getElem?
  intro j
  rw [List.getElem?_modify, List.getElem?_set]
  by_cases e : i = j
  · subst e
    rw [if_pos rfl, if_pos (List.getElem?_eq_some_iff.1 h).1, h]; simp
  · simp [e]
theorem devH_upd (D : Dev) (a : Int) (g : Cell → Cell) {c : Cell} (h : D.cells[a.toNat]? = some c) : devH (D.upd a g) = [devC D 1 2, .row t_disk_cell 4 ((cx D.cells).set (0 + a.toNat) (g c).pv), .row t_disk_write 2 (wx D.waits)] := by
  rw [← devH_set D a.toNat (g c)]
  unfold Dev.upd
  rw [modify_some g h]

theorem has_iff {D : Dev} {a : Int} (h : D.has a = true) : a.toNat < D.cells.length ∧ 0 ≤ a ∧ a < (D.cells.length : Int) := by
  have h1 : (decide (a ≥ 0) && decide (a < (D.cells.length : Int))) = true := h
  rw [Bool.and_eq_true, decide_eq_true_eq, decide_eq_true_eq] at h1
  omega

theorem cell_get (D : Dev) {a : Int} (h : D.has a = true) : ∃ c, D.cells[a.toNat]? = some c ∧ (cx D.cells)[0 + a.toNat]? = some c.pv := by
  have hc := List.getElem?_eq_getElem (has_iff h).1
  exact ⟨_, hc, by rw [Nat.zero_add]; exact cx_get hc⟩

theorem settle_has (D : Dev) (a b : Int) : (D.settle a).has b = D.has b := by
  unfold Dev.has; rw [show (D.settle a).cells.length = D.cells.length from settleC_len _ _ _]

theorem bx_zeros : bx zeros = List.replicate 256 [PV.raw (.int .u8 0)] := by
  unfold zeros bx; rw [List.map_replicate]; rfl

theorem disk_lose (D : Dev) (f : Flt) (hw : D.waitsIn) (hn : D.waits.length ≤ 1000000) (hh : D.has f.at_ = true) :
    AFm Try.prog 3 f_disk_Disk_lose [.ref 0 0, f.av] (devH D) (Pure (.tup []) (devH ((D.settle f.at_).upd f.at_ fun c => { c with lost := true }))) := by
  refine af_bodyM 3 hT F_disk_Disk_lose rfl rfl N_disk_Disk_lose rfl rfl ?_
  refine aw_seq (aw_region hT ?_)
  refine aw_wk (wk_boxL 3 f.pv rfl rfl) ?_
  refine aw_seq (aw_region hT ?_)
  refine callP (af_in [0, 1, 2] (disk_settle D f.at_ hw hn) rfl rfl rfl) ?_
  have hlt := has_iff ((settle_has D f.at_ f.at_).trans hh)
  obtain ⟨c, hc, g1⟩ := cell_get (D.settle f.at_) ((settle_has D f.at_ f.at_).trans hh)
  refine aw_draw [8] [] hT follows_mixed (by rfl) ?_
  refine ⟨⟨hlt.2.1, hlt.2.2⟩, ?_⟩
  refine optI g1 ?_
  exact retPick [0, 1, 2] ⟨rfl, (devH_upd (D.settle f.at_) f.at_ (fun c => { c with lost := true }) hc).symm⟩ rfl

theorem disk_blank (D : Dev) (f : Flt) (hw : D.waitsIn) (hn : D.waits.length ≤ 1000000) (hh : D.has f.at_ = true) :
    AFm Try.prog 3 f_disk_Disk_blank [.ref 0 0, f.av] (devH D) (Pure (.tup []) (devH ((D.settle f.at_).upd f.at_ fun c => { c with s := zeros, lost := false }))) := by
  refine af_bodyM 3 hT F_disk_Disk_blank rfl rfl N_disk_Disk_blank rfl rfl ?_
  refine aw_seq (aw_region hT ?_)
  refine aw_wk (wk_boxL 3 f.pv rfl rfl) ?_
  refine aw_seq (aw_region hT ?_)
  refine callP (af_in [0, 1, 2] (disk_settle D f.at_ hw hn) rfl rfl rfl) ?_
  have hlt := has_iff ((settle_has D f.at_ f.at_).trans hh)
  obtain ⟨c, hc, g1⟩ := cell_get (D.settle f.at_) ((settle_has D f.at_ f.at_).trans hh)
  have g2 : ∀ e, ((cx (D.settle f.at_).cells).set (0 + f.at_.toNat) e)[0 + f.at_.toNat]? = some e := fun e => by
    rw [Nat.zero_add]; exact List.getElem?_set_self (by rw [cx_len]; exact hlt.1)
  refine aw_draw [15, 18] [12] hT follows_mixed (by rfl) ?_
  refine ⟨⟨rfl, by omega, by decide, by omega⟩, ?_⟩
  refine ⟨⟨rfl, List.length_replicate.symm⟩, ?_⟩
  refine ⟨⟨hlt.2.1, hlt.2.2⟩, ?_⟩
  refine optI g1 ?_
  refine chkI rfl (optI rfl ?_)
  refine ⟨⟨hlt.2.1, hlt.2.2⟩, ?_⟩
  refine optI (g2 _) ?_
  refine ⟨rfl, ?_⟩
  refine retPick [0, 1, 2] ⟨rfl, ?_⟩ rfl
  refine Eq.trans ?_ (devH_upd (D.settle f.at_) f.at_ (fun c => { c with s := zeros, lost := false }) hc).symm
  refine Eq.trans (congrArg (fun z => [devC (D.settle f.at_) 1 2, ABlk.row t_disk_cell 4 z, ABlk.row t_disk_write 2 (wx (D.settle f.at_).waits)]) (List.set_set ..)) ?_
  refine congrArg (fun z => [devC (D.settle f.at_) 1 2, ABlk.row t_disk_cell 4 ((cx (D.settle f.at_).cells).set (0 + f.at_.toNat) [.sl 1 z, .raw (.bool false), .raw (.int .i64 c.drop), iP c.miss]), ABlk.row t_disk_write 2 (wx (D.settle f.at_).waits)]) ?_
  exact bx_zeros.symm

theorem disk_drop (D : Dev) (f : Flt) (hh : D.has f.at_ = true) :
    AFm Try.prog 3 f_disk_Disk_drop [.ref 0 0, f.av] (devH D) (Pure (.tup []) (devH (D.upd f.at_ fun c => { c with drop := IntKind.i64.wrap (c.drop + f.n) }))) := by
  refine af_bodyM 3 hT F_disk_Disk_drop rfl rfl N_disk_Disk_drop rfl rfl ?_
  refine aw_seq (aw_region hT ?_)
  refine aw_wk (wk_boxL 3 f.pv rfl rfl) ?_
  have hlt := has_iff hh
  obtain ⟨c, hc, g1⟩ := cell_get D hh
  refine aw_draw [14] [] hT follows_mixed (by rfl) ?_
  refine ⟨⟨hlt.2.1, hlt.2.2⟩, ?_⟩
  refine optI g1 ?_
  refine ⟨⟨hlt.2.1, hlt.2.2⟩, ?_⟩
  refine optI g1 ?_
  exact retPick [0, 1, 2] ⟨rfl, (devH_upd D f.at_ (fun c => { c with drop := IntKind.i64.wrap (c.drop + f.n) }) hc).symm⟩ rfl

theorem disk_miss (D : Dev) (f : Flt) (hh : D.has f.at_ = true) (hm : ∀ c ∈ D.cells, c.miss.length ≤ 1000000) :
    AFm Try.prog 3 f_disk_Disk_miss [.ref 0 0, f.av] (devH D) (Pure (.tup []) (devH (D.upd f.at_ fun c => { c with miss := c.miss ++ [f.to] }))) := by
  refine af_bodyM 3 hT F_disk_Disk_miss rfl rfl N_disk_Disk_miss rfl rfl ?_
  refine aw_seq (aw_region hT ?_)
  refine aw_wk (wk_boxL 3 f.pv rfl rfl) ?_
  have hlt := has_iff hh
  obtain ⟨c, hc, g1⟩ := cell_get D hh
  have hcm := hm _ (List.mem_of_getElem? hc)
  refine aw_seq ?_
  refine aw_draw [] [] hT follows_mixed (by rfl) ?_
  refine ⟨⟨hlt.2.1, hlt.2.2⟩, ?_⟩
  refine aw_draw [5, 9, 12] [8, 9] hT follows_mixed (by rfl) ?_
  refine optI g1 ?_
  refine ⟨_, _, af_lift (clone_i64 c.miss hcm) _ rfl, ?_⟩
  refine ⟨⟨rfl, rfl⟩, ?_⟩
  refine ⟨ix_len _, ⟨?_, ?_⟩, ?_⟩
  · show ((ix c.miss).length + 1) * 8 ≤ 140737488355328
    rw [ix_len]; omega
  · show (ix c.miss).length + 1 ≤ 140737488355328
    rw [ix_len]; omega
  refine ⟨⟨rfl, rfl⟩, ?_⟩
  refine optI g1 ?_
  refine ⟨rfl, ?_⟩
  refine ⟨⟨⟨rfl, rfl⟩, rfl⟩, ?_⟩
  refine retPick [0, 1, 2] ⟨rfl, ?_⟩ rfl
  refine Eq.trans ?_ (devH_upd D f.at_ (fun c => { c with miss := c.miss ++ [f.to] }) hc).symm
  have e : ix (c.miss ++ [f.to]) = ix c.miss ++ [[.raw (.int .i64 f.to)]] := by simp [ix]
  show _ = [_, ABlk.row t_disk_cell 4 ((cx D.cells).set (0 + f.at_.toNat) [_, _, _, .sl 1 (ix (c.miss ++ [f.to]))]), _]
  rw [e]
  rfl
end Go.Proofs.Ytolefphdldmlkaa.AL

/- The layer 06 (disk): what rots. -/
namespace Go.Proofs.Ytolefphdldmlkaa.AL
open Go Go.Proofs

theorem clone_u8M (l : Bytes) (hl : l.length ≤ 1000000) : AF Try.prog f_slices_Clone_byte [bA l] [] (Pure (.msl 0 1 0 l.length) [.row t_u8 1 (bx l)]) := by
  have hb := bx_len l
  show AF Try.prog f_slices_Clone_byte [.p (.sl 1 (bx l))] [] _
  rw [← hb]
  generalize bx l = xs at hb
  refine af_body hT F_slices_Clone_byte rfl rfl N_slices_Clone_byte rfl ?_
  refine aw_seq (aw_region hT ?_)
  refine aw_seq (aw_seq (aw_region hT ?_))
  intro b hn
  refine aw_cond (boolI (fun h => ?_) (fun h => ?_))
  · refine aw_seq (aw_region hT ?_)
    refine aw_ret ?_
    rw [hn h]
    exact retNil t_u8 1 ⟨rfl, rfl⟩
  · refine aw_skip ?_
    refine aw_seq (aw_region hT ?_)
    refine ⟨rfl, ⟨?_, ?_⟩, ?_⟩
    · show (0 + xs.length) * 1 ≤ _; omega
    · show 0 + xs.length ≤ _; omega
    refine aw_ret ?_
    exact retPick [1] ⟨rfl, rfl⟩ rfl

def Flt.m (f : Flt) : Nat → UInt8 | 0 => f.m0 | 1 => f.m1 | 2 => f.m2 | _ => f.m3
def rotB (f : Flt) (s : Bytes) : Nat → Bytes
  | 0 => s
  | i + 1 => match decide (f.off + i < (s.length : Int)) with
    | true => (rotB f s i).set (f.off.toNat + i) ((rotB f s i).getD (f.off.toNat + i) 0 ^^^ f.m i)
    | false => rotB f s i
theorem rotB_len (f : Flt) (s : Bytes) : ∀ i, (rotB f s i).length = s.length
  | 0 => rfl
  | i + 1 => by
    unfold rotB; split
    · rw [List.length_set, rotB_len f s i]
    · exact rotB_len f s i

theorem xor_u8 (a b : UInt8) : IntKind.u8.wrap ((BitVec.ofInt 8 (a.toNat : Int) ^^^ BitVec.ofInt 8 (b.toNat : Int)).toNat : Int) = ((a ^^^ b).toNat : Int) := by
  have h1 : BitVec.ofInt 8 (a.toNat : Int) = a.toBitVec := by
    apply BitVec.eq_of_toNat_eq; simp
  have h2 : BitVec.ofInt 8 (b.toNat : Int) = b.toBitVec := by
    apply BitVec.eq_of_toNat_eq; simp
  rw [h1, h2]
  have h3 : (a.toBitVec ^^^ b.toBitVec) = (a ^^^ b).toBitVec := rfl
  rw [h3]
  have h4 : (a ^^^ b).toBitVec.toNat < 256 := (a ^^^ b).toBitVec.isLt
  show IntKind.u8.wrap (((a ^^^ b).toBitVec.toNat : Nat) : Int) = (((a ^^^ b).toBitVec.toNat : Nat) : Int)
  generalize (a ^^^ b).toBitVec.toNat = n at h4
  rw [IntKind.wrap_u8]; omega

theorem rot_at (f : Flt) (i : Nat) (h0 : 0 ≤ f.off) (h1 : f.off < 256) (hi : i < 4) : IntKind.i64.wrap (f.off + ((i : Nat) : Int)) = f.off + (i : Int) ∧ (IntKind.i64.wrap (f.off + ((i : Nat) : Int))).toNat = f.off.toNat + i := by
  rw [wrap64 _ (by omega) (by omega)]; omega
theorem rot_get (f : Flt) (s : Bytes) (i : Nat) (h0 : 0 ≤ f.off) (h1 : f.off < 256) (hi : i < 4) (h : f.off + (i : Int) < (s.length : Int)) :
    (bx (rotB f s i))[0 + (IntKind.i64.wrap (f.off + ((i : Nat) : Int))).toNat]? = some [u8 ((rotB f s i).getD (f.off.toNat + i) 0)] := by
  rw [Nat.zero_add, (rot_at f i h0 h1 hi).2]
  have hl : f.off.toNat + i < (rotB f s i).length := by rw [rotB_len]; omega
  rw [bx, List.getElem?_map, List.getElem?_eq_getElem hl, List.getD_eq_getElem?_getD, List.getElem?_eq_getElem hl]; rfl
theorem rot_yes (f : Flt) (s : Bytes) (i : Nat) (h0 : 0 ≤ f.off) (h1 : f.off < 256) (hi : i < 4) (h : f.off + (i : Int) < (s.length : Int)) :
    bx (rotB f s (i + 1)) = (bx (rotB f s i)).set (0 + (IntKind.i64.wrap (f.off + ((i : Nat) : Int))).toNat) [.raw (.int .u8 (IntKind.u8.wrap ((BitVec.ofInt 8 (((rotB f s i).getD (f.off.toNat + i) 0).toNat : Int) ^^^ BitVec.ofInt 8 ((f.m i).toNat : Int)).toNat : Int)))] := by
  rw [Nat.zero_add, (rot_at f i h0 h1 hi).2, xor_u8]
  conv => lhs; unfold rotB
  rw [decide_eq_true h]
  show bx (List.set _ _ _) = _
  rw [bx, List.map_set]; rfl
theorem rot_no (f : Flt) (s : Bytes) (i : Nat) (h : ¬ f.off + (i : Int) < (s.length : Int)) : rotB f s (i + 1) = rotB f s i := by
  conv => lhs; unfold rotB
  rw [decide_eq_false h]

theorem disk_rot (D : Dev) (f : Flt) (hw : D.waitsIn) (hn : D.waits.length ≤ 1000000) (hh : D.has f.at_ = true) (h0 : 0 ≤ f.off) (h1 : f.off < 256) (hs : ∀ c ∈ (D.settle f.at_).cells, c.s.length ≤ 1000000) :
    AFm Try.prog 3 f_disk_Disk_rot [.ref 0 0, f.av] (devH D) (Pure (.tup []) (devH ((D.settle f.at_).upd f.at_ fun c => { c with s := rotB f c.s 4 }))) := by
  refine af_bodyM 3 hT F_disk_Disk_rot rfl rfl N_disk_Disk_rot rfl rfl ?_
  refine aw_seq (aw_region hT ?_)
  refine aw_wk (wk_boxL 3 f.pv rfl rfl) ?_
  refine aw_seq (aw_region hT ?_)
  refine callP (af_in [0, 1, 2] (disk_settle D f.at_ hw hn) rfl rfl rfl) ?_
  have hlt := has_iff ((settle_has D f.at_ f.at_).trans hh)
  obtain ⟨c, hc, g1⟩ := cell_get (D.settle f.at_) ((settle_has D f.at_ f.at_).trans hh)
  have hcs := hs _ (List.mem_of_getElem? hc)
  refine aw_seq ?_
  refine aw_draw [9] [] hT follows_mixed (by rfl) ?_
  refine ⟨⟨hlt.2.1, hlt.2.2⟩, ?_⟩
  refine optI g1 ?_
  refine ⟨_, _, af_lift (clone_u8M c.s hcs) _ rfl, ?_⟩
  refine aw_seq (aw_seq (aw_region hT ?_))
  refine aw_block ?_
  refine aw_loopW (fun n s => ∃ (i : Nat) (j : Int), n + i = 4 ∧ j = i ∧ s = ⟨⟨54, [(0, .ref 0 0), (3, .p (.box f.pv)), (4, .msl 3 1 0 c.s.length), (22, .agg [.p (u8 f.m0), .p (u8 f.m1), .p (u8 f.m2), .p (u8 f.m3)]), (23, i64 j)]⟩, devH (D.settle f.at_) ++ [.row t_u8 1 (bx (rotB f c.s i))]⟩) 4 ⟨⟨54, _⟩, [_, _, _, _]⟩ (wk_pick [0, 1, 2, 4] [0, 3, 4, 22, 23] rfl) ⟨0, _, rfl, rfl, rfl⟩ ?_
  rintro n s ⟨i, j, hni, rfl, rfl⟩
  refine aw_seq (aw_region hT ?_)
  refine aw_seq (aw_cond (boolI (fun h => ?_) (fun h => ?_)))
  · have hi : i < 4 := by
      have := of_decide_eq_true (show decide ((i : Int) < 4) = true from h)
      omega
    refine aw_skip ?_
    obtain rfl | rfl | rfl | rfl : i = 0 ∨ i = 1 ∨ i = 2 ∨ i = 3 := by omega
    · refine aw_seq (aw_block (aw_seq (aw_region hT ?_)))
      refine ⟨⟨by omega, by omega⟩, ?_⟩
      have ha := rot_at f 0 h0 h1 (by omega)
      refine aw_seq (aw_region hT ?_)
      refine aw_cond (boolI (fun h3 => ?_) (fun h3 => ?_))
      · have h3 : f.off + ((0 : Nat) : Int) < (c.s.length : Int) := by
          have := of_decide_eq_true h3
          rw [ha.1] at this; exact this
        refine aw_region hT ?_
        refine ⟨⟨by rw [ha.1]; omega, by rw [ha.1]; exact h3⟩, ?_⟩
        refine optI (rot_get f c.s 0 h0 h1 (by omega) h3) ?_
        refine ⟨⟨by rw [ha.1]; omega, by rw [ha.1]; exact h3⟩, ?_⟩
        refine optI (rot_get f c.s 0 h0 h1 (by omega) h3) ?_
        refine aw_region hT ?_
        refine ⟨n - 1, by omega, _, wk_pick [0, 1, 2, 3] [0, 3, 4, 22, 23] rfl, 0 + 1, IntKind.i64.wrap (((0 : Nat) : Int) + 1), by omega, by decide, ?_⟩
        refine congrArg (St.mk _) ?_
        rw [rot_yes f c.s 0 h0 h1 (by omega) h3]
        rfl
      · have h3 : ¬ f.off + ((0 : Nat) : Int) < (c.s.length : Int) := by
          have := of_decide_eq_false h3
          rw [ha.1] at this; exact this
        refine aw_skip ?_
        refine aw_region hT ?_
        refine ⟨n - 1, by omega, _, wk_pick [0, 1, 2, 3] [0, 3, 4, 22, 23] rfl, 0 + 1, IntKind.i64.wrap (((0 : Nat) : Int) + 1), by omega, by decide, ?_⟩
        refine congrArg (St.mk _) ?_
        rw [rot_no f c.s 0 h3]
        rfl
    · refine aw_seq (aw_block (aw_seq (aw_region hT ?_)))
      refine ⟨⟨by omega, by omega⟩, ?_⟩
      have ha := rot_at f 1 h0 h1 (by omega)
      refine aw_seq (aw_region hT ?_)
      refine aw_cond (boolI (fun h3 => ?_) (fun h3 => ?_))
      · have h3 : f.off + ((1 : Nat) : Int) < (c.s.length : Int) := by
          have := of_decide_eq_true h3
          rw [ha.1] at this; exact this
        refine aw_region hT ?_
        refine ⟨⟨by rw [ha.1]; omega, by rw [ha.1]; exact h3⟩, ?_⟩
        refine optI (rot_get f c.s 1 h0 h1 (by omega) h3) ?_
        refine ⟨⟨by rw [ha.1]; omega, by rw [ha.1]; exact h3⟩, ?_⟩
        refine optI (rot_get f c.s 1 h0 h1 (by omega) h3) ?_
        refine aw_region hT ?_
        refine ⟨n - 1, by omega, _, wk_pick [0, 1, 2, 3] [0, 3, 4, 22, 23] rfl, 1 + 1, IntKind.i64.wrap (((1 : Nat) : Int) + 1), by omega, by decide, ?_⟩
        refine congrArg (St.mk _) ?_
        rw [rot_yes f c.s 1 h0 h1 (by omega) h3]
        rfl
      · have h3 : ¬ f.off + ((1 : Nat) : Int) < (c.s.length : Int) := by
          have := of_decide_eq_false h3
          rw [ha.1] at this; exact this
        refine aw_skip ?_
        refine aw_region hT ?_
        refine ⟨n - 1, by omega, _, wk_pick [0, 1, 2, 3] [0, 3, 4, 22, 23] rfl, 1 + 1, IntKind.i64.wrap (((1 : Nat) : Int) + 1), by omega, by decide, ?_⟩
        refine congrArg (St.mk _) ?_
        rw [rot_no f c.s 1 h3]
        rfl
    · refine aw_seq (aw_block (aw_seq (aw_region hT ?_)))
      refine ⟨⟨by omega, by omega⟩, ?_⟩
      have ha := rot_at f 2 h0 h1 (by omega)
      refine aw_seq (aw_region hT ?_)
      refine aw_cond (boolI (fun h3 => ?_) (fun h3 => ?_))
      · have h3 : f.off + ((2 : Nat) : Int) < (c.s.length : Int) := by
          have := of_decide_eq_true h3
          rw [ha.1] at this; exact this
        refine aw_region hT ?_
        refine ⟨⟨by rw [ha.1]; omega, by rw [ha.1]; exact h3⟩, ?_⟩
        refine optI (rot_get f c.s 2 h0 h1 (by omega) h3) ?_
        refine ⟨⟨by rw [ha.1]; omega, by rw [ha.1]; exact h3⟩, ?_⟩
        refine optI (rot_get f c.s 2 h0 h1 (by omega) h3) ?_
        refine aw_region hT ?_
        refine ⟨n - 1, by omega, _, wk_pick [0, 1, 2, 3] [0, 3, 4, 22, 23] rfl, 2 + 1, IntKind.i64.wrap (((2 : Nat) : Int) + 1), by omega, by decide, ?_⟩
        refine congrArg (St.mk _) ?_
        rw [rot_yes f c.s 2 h0 h1 (by omega) h3]
        rfl
      · have h3 : ¬ f.off + ((2 : Nat) : Int) < (c.s.length : Int) := by
          have := of_decide_eq_false h3
          rw [ha.1] at this; exact this
        refine aw_skip ?_
        refine aw_region hT ?_
        refine ⟨n - 1, by omega, _, wk_pick [0, 1, 2, 3] [0, 3, 4, 22, 23] rfl, 2 + 1, IntKind.i64.wrap (((2 : Nat) : Int) + 1), by omega, by decide, ?_⟩
        refine congrArg (St.mk _) ?_
        rw [rot_no f c.s 2 h3]
        rfl
    · refine aw_seq (aw_block (aw_seq (aw_region hT ?_)))
      refine ⟨⟨by omega, by omega⟩, ?_⟩
      have ha := rot_at f 3 h0 h1 (by omega)
      refine aw_seq (aw_region hT ?_)
      refine aw_cond (boolI (fun h3 => ?_) (fun h3 => ?_))
      · have h3 : f.off + ((3 : Nat) : Int) < (c.s.length : Int) := by
          have := of_decide_eq_true h3
          rw [ha.1] at this; exact this
        refine aw_region hT ?_
        refine ⟨⟨by rw [ha.1]; omega, by rw [ha.1]; exact h3⟩, ?_⟩
        refine optI (rot_get f c.s 3 h0 h1 (by omega) h3) ?_
        refine ⟨⟨by rw [ha.1]; omega, by rw [ha.1]; exact h3⟩, ?_⟩
        refine optI (rot_get f c.s 3 h0 h1 (by omega) h3) ?_
        refine aw_region hT ?_
        refine ⟨n - 1, by omega, _, wk_pick [0, 1, 2, 3] [0, 3, 4, 22, 23] rfl, 3 + 1, IntKind.i64.wrap (((3 : Nat) : Int) + 1), by omega, by decide, ?_⟩
        refine congrArg (St.mk _) ?_
        rw [rot_yes f c.s 3 h0 h1 (by omega) h3]
        rfl
      · have h3 : ¬ f.off + ((3 : Nat) : Int) < (c.s.length : Int) := by
          have := of_decide_eq_false h3
          rw [ha.1] at this; exact this
        refine aw_skip ?_
        refine aw_region hT ?_
        refine ⟨n - 1, by omega, _, wk_pick [0, 1, 2, 3] [0, 3, 4, 22, 23] rfl, 3 + 1, IntKind.i64.wrap (((3 : Nat) : Int) + 1), by omega, by decide, ?_⟩
        refine congrArg (St.mk _) ?_
        rw [rot_no f c.s 3 h3]
        rfl
  · refine aw_exit ?_
    have hi : i = 4 := by
      have := of_decide_eq_false (show decide ((i : Int) < 4) = false from h)
      omega
    subst hi
    refine aw_wk (wk_frz1 4 3 rfl rfl (by rw [bx_len, rotB_len]; omega)) ?_
    refine aw_draw [9] [] hT follows_mixed (by rfl) ?_
    refine ⟨⟨hlt.2.1, hlt.2.2⟩, ?_⟩
    refine optI g1 ?_
    refine retPick [0, 1, 2] ⟨rfl, ?_⟩ rfl
    refine Eq.trans ?_ (devH_upd (D.settle f.at_) f.at_ (fun c => { c with s := rotB f c.s 4 }) hc).symm
    refine congrArg (fun z => [devC (D.settle f.at_) 1 2, ABlk.row t_disk_cell 4 ((cx (D.settle f.at_).cells).set (0 + f.at_.toNat) [.sl 1 z, .raw (.bool c.lost), .raw (.int .i64 c.drop), iP c.miss]), ABlk.row t_disk_write 2 (wx (D.settle f.at_).waits)]) ?_
    show ((bx (rotB f c.s 4)).drop 0).take c.s.length = _
    rw [List.drop_zero, ← rotB_len f c.s 4, ← bx_len, List.take_length]
end Go.Proofs.Ytolefphdldmlkaa.AL

/- The layer 06 (disk): which faults may be; a fault. -/
namespace Go.Proofs.Ytolefphdldmlkaa.AL
open Go Go.Proofs

def Dev.may (D : Dev) (f : Flt) : Int := match D.has f.at_ with
  | false => 3
  | true => match decide (f.kind < 1) || decide (f.kind > 5) with
    | true => 1
    | false => match (f.kind == 1) && (decide (f.off < 0) || decide (f.off ≥ 256)) with
      | true => 1
      | false => match (f.kind == 4) && (decide (f.n < 1) || decide (f.n > 1000)) with
        | true => 1
        | false => match (f.kind == 5) && !(D.has f.to) with
          | true => 3
          | false => 0

theorem disk_may (D : Dev) (f : Flt) : AFm Try.prog 3 f_disk_Disk_may [.ref 0 0, f.av] (devH D) (Pure (i64 (D.may f)) (devH D)) := by
  refine af_bodyM 3 hT F_disk_Disk_may rfl rfl N_disk_Disk_may rfl rfl ?_
  refine aw_seq (aw_region hT ?_)
  refine aw_wk (wk_boxL 3 f.pv rfl rfl) ?_
  refine aw_cut ⟨⟨57, []⟩, devH D⟩ (D.may f = 0) (aw_block (aw_seq (aw_region hT ?_))) ?_
  · refine callP (af_in [0, 1, 2] (disk_has D f.at_) rfl rfl rfl) ?_
    refine aw_cond (boolI (fun h => ?_) (fun h => ?_))
    · have e : D.may f = 3 := by unfold Dev.may; rw [(Bool.not_eq_true' _).mp h]
      refine aw_seq (aw_region hT ?_)
      refine aw_ret ?_
      rw [e]
      exact retPick [0, 1, 2] ⟨rfl, rfl⟩ rfl
    have h : D.has f.at_ = true := (Bool.not_eq_false' _).mp h
    have one : (decide (f.kind < 1) || decide (f.kind > 5)) = true → D.may f = 1 := fun h2 => by unfold Dev.may; rw [h, h2]
    refine aw_cut2 (fun s1 => ∃ b, b = (decide (f.kind < 1) || decide (f.kind > 5)) ∧ s1 = ⟨⟨57, [(0, .ref 0 0), (3, .p (.box f.pv)), (11, bl b)]⟩, devH D⟩) (aw_seq (aw_region hT ?_)) ?_
    · refine aw_cond (boolI (fun h2 => ?_) (fun h2 => ?_))
      · refine aw_skip ⟨_, wk_pick [0, 1, 2] [0, 3, 11] rfl, decide (f.kind < 1), ?_, rfl⟩
        rw [show decide (f.kind < 1) = true from h2]; rfl
      · refine aw_region hT ?_
        refine ⟨_, wk_pick [0, 1, 2] [0, 3, 11] rfl, decide (f.kind > 5), ?_, rfl⟩
        rw [show decide (f.kind < 1) = false from h2]; rfl
    rintro _ ⟨b, hb, rfl⟩
    refine aw_cond (boolI (fun h2 => ?_) (fun h2 => ?_))
    · have e : D.may f = 1 := one (hb.symm.trans h2)
      refine aw_seq (aw_region hT ?_)
      refine aw_ret ?_
      rw [e]
      exact retPick [0, 1, 2] ⟨rfl, rfl⟩ rfl
    have hk : (decide (f.kind < 1) || decide (f.kind > 5)) = false := hb.symm.trans h2
    have two : ((f.kind == 1) && (decide (f.off < 0) || decide (f.off ≥ 256))) = true → D.may f = 1 := fun h3 => by unfold Dev.may; rw [h, hk, h3]
    refine aw_cut2 (fun s1 => ∃ b, b = ((f.kind == 1) && (decide (f.off < 0) || decide (f.off ≥ 256))) ∧ s1 = ⟨⟨57, [(0, .ref 0 0), (3, .p (.box f.pv)), (18, bl b)]⟩, devH D⟩) (aw_region hT ?_) ?_
    · refine boolI (fun h3 => ?_) (fun h3 => ?_)
      · have h3 : (f.kind == 1) = true := h3
        refine boolI (fun h4 => ?_) (fun h4 => ?_)
        · refine ⟨_, wk_pick [0, 1, 2] [0, 3, 18] rfl, true, ?_, rfl⟩
          rw [h3, show decide (f.off < 0) = true from h4]; rfl
        · refine ⟨_, wk_pick [0, 1, 2] [0, 3, 18] rfl, decide (f.off ≥ 256), ?_, rfl⟩
          rw [h3, show decide (f.off < 0) = false from h4]; rfl
      · have h3 : (f.kind == 1) = false := h3
        refine ⟨_, wk_pick [0, 1, 2] [0, 3, 18] rfl, false, ?_, rfl⟩
        rw [h3]; rfl
    rintro _ ⟨b, hb, rfl⟩
    refine aw_cond (boolI (fun h2 => ?_) (fun h2 => ?_))
    · have e : D.may f = 1 := two (hb.symm.trans h2)
      refine aw_seq (aw_region hT ?_)
      refine aw_ret ?_
      rw [e]
      exact retPick [0, 1, 2] ⟨rfl, rfl⟩ rfl
    have hk2 : ((f.kind == 1) && (decide (f.off < 0) || decide (f.off ≥ 256))) = false := hb.symm.trans h2
    have three : ((f.kind == 4) && (decide (f.n < 1) || decide (f.n > 1000))) = true → D.may f = 1 := fun h3 => by unfold Dev.may; rw [h, hk, hk2, h3]
    refine aw_cut2 (fun s1 => ∃ b, b = ((f.kind == 4) && (decide (f.n < 1) || decide (f.n > 1000))) ∧ s1 = ⟨⟨57, [(0, .ref 0 0), (3, .p (.box f.pv)), (32, bl b)]⟩, devH D⟩) (aw_region hT ?_) ?_
    · refine boolI (fun h3 => ?_) (fun h3 => ?_)
      · have h3 : (f.kind == 4) = true := h3
        refine boolI (fun h4 => ?_) (fun h4 => ?_)
        · refine ⟨_, wk_pick [0, 1, 2] [0, 3, 32] rfl, true, ?_, rfl⟩
          rw [h3, show decide (f.n < 1) = true from h4]; rfl
        · refine ⟨_, wk_pick [0, 1, 2] [0, 3, 32] rfl, decide (f.n > 1000), ?_, rfl⟩
          rw [h3, show decide (f.n < 1) = false from h4]; rfl
      · have h3 : (f.kind == 4) = false := h3
        refine ⟨_, wk_pick [0, 1, 2] [0, 3, 32] rfl, false, ?_, rfl⟩
        rw [h3]; rfl
    rintro _ ⟨b, hb, rfl⟩
    refine aw_cond (boolI (fun h2 => ?_) (fun h2 => ?_))
    · have e : D.may f = 1 := three (hb.symm.trans h2)
      refine aw_seq (aw_region hT ?_)
      refine aw_ret ?_
      rw [e]
      exact retPick [0, 1, 2] ⟨rfl, rfl⟩ rfl
    have hk3 : ((f.kind == 4) && (decide (f.n < 1) || decide (f.n > 1000))) = false := hb.symm.trans h2
    refine aw_seq (aw_region hT ?_)
    refine boolI (fun h3 => ?_) (fun h3 => ?_)
    · have h3 : (f.kind == 5) = true := h3
      refine callP (af_in [0, 1, 2] (disk_has D f.to) rfl rfl rfl) ?_
      refine aw_cond (boolI (fun h4 => ?_) (fun h4 => ?_))
      · have e : D.may f = 3 := by unfold Dev.may; rw [h, hk, hk2, hk3, h3, show (!(D.has f.to)) = true from h4]; rfl
        refine aw_seq (aw_region hT ?_)
        refine aw_ret ?_
        rw [e]
        exact retPick [0, 1, 2] ⟨rfl, rfl⟩ rfl
      · have e : D.may f = 0 := by unfold Dev.may; rw [h, hk, hk2, hk3, h3, show (!(D.has f.to)) = false from h4]; rfl
        exact aw_skip ⟨wk_pick [0, 1, 2] [] rfl, e⟩
    · have h3 : (f.kind == 5) = false := h3
      have e : D.may f = 0 := by unfold Dev.may; rw [h, hk, hk2, hk3, h3]; rfl
      refine aw_cond ?_
      exact aw_skip ⟨wk_pick [0, 1, 2] [] rfl, e⟩
  · intro e
    refine aw_seq (aw_region hT ?_)
    refine aw_ret ?_
    rw [e]
    exact retPick [0, 1, 2] ⟨rfl, rfl⟩ rfl
end Go.Proofs.Ytolefphdldmlkaa.AL

/- The layer 06 (disk): a fault; a device that is well. -/
namespace Go.Proofs.Ytolefphdldmlkaa.AL
open Go Go.Proofs

/-- A device of which what waits, and what is misled, is in range; sectors have their length. -/
structure Dev.Ok (D : Dev) (b : Nat) : Prop where
  at_ : ∀ x ∈ D.waits, 0 ≤ x.at_ ∧ x.at_ < (D.cells.length : Int)
  ws : ∀ x ∈ D.waits, x.s.length = 256
  cs : ∀ c ∈ D.cells, c.s.length = 256
  mt : ∀ c ∈ D.cells, ∀ t ∈ c.miss, 0 ≤ t ∧ t < (D.cells.length : Int)
  ml : ∀ c ∈ D.cells, c.miss.length ≤ b
  wl : D.waits.length ≤ b

def Dev.hurt (D : Dev) (f : Flt) : Dev :=
  if f.kind = 1 then (D.settle f.at_).upd f.at_ fun c => { c with s := rotB f c.s 4 }
  else if f.kind = 2 then (D.settle f.at_).upd f.at_ fun c => { c with s := zeros, lost := false }
  else if f.kind = 3 then (D.settle f.at_).upd f.at_ fun c => { c with lost := true }
  else if f.kind = 4 then D.upd f.at_ fun c => { c with drop := IntKind.i64.wrap (c.drop + f.n) }
  else D.upd f.at_ fun c => { c with miss := c.miss ++ [f.to] }
def Dev.fault (D : Dev) (f : Flt) : Int × Dev := match D.may f == 0 with
  | false => (D.may f, D)
  | true => (0, D.hurt f)

theorem may_ok {D : Dev} {f : Flt} (h : D.may f = 0) : D.has f.at_ = true ∧ (1 ≤ f.kind ∧ f.kind ≤ 5) ∧ (f.kind = 1 → 0 ≤ f.off ∧ f.off < 256) ∧ (f.kind = 4 → 1 ≤ f.n ∧ f.n ≤ 1000) ∧ (f.kind = 5 → D.has f.to = true) := by
  unfold Dev.may at h
  split at h
  · omega
  rename_i h1
  split at h
  · omega
  rename_i h2
  split at h
  · omega
  rename_i h3
  split at h
  · omega
  rename_i h4
  split at h
  · omega
  rename_i h5
  simp only [Bool.or_eq_false_iff, decide_eq_false_iff_not, Bool.and_eq_false_iff, beq_eq_false_iff_ne, Bool.not_eq_false'] at h2 h3 h4 h5
  refine ⟨h1, by omega, fun hk => ?_, fun hk => ?_, fun hk => ?_⟩
  · rcases h3 with h3 | h3
    · exact absurd hk h3
    · omega
  · rcases h4 with h4 | h4
    · exact absurd hk h4
    · omega
  · rcases h5 with h5 | h5
    · exact absurd hk h5
    · exact h5

theorem doneL_mem {C : List Cell} {x : Wr} {c : Cell} (h : c ∈ doneL C x) : c ∈ C ∨ ∃ c0 ∈ C, c = { c0 with s := x.s, lost := false } := by
  unfold doneL at h
  split at h
  · rename_i c0 hc0
    rcases List.mem_or_eq_of_mem_set h with h | h
    · exact .inl h
    · exact .inr ⟨c0, List.mem_of_getElem? hc0, h⟩
  · exact .inl h

theorem settleC_mem {a : Int} {W : List Wr} {C : List Cell} {c : Cell} (h : c ∈ settleC a W C) : ∃ c0 ∈ C, c.miss = c0.miss ∧ (c.s = c0.s ∨ ∃ x ∈ W, c.s = x.s) := by
  induction W generalizing C with
  | nil => exact ⟨c, h, rfl, .inl rfl⟩
  | cons x r ih =>
    have h : c ∈ settleC a r (match hitA a x with | true => doneL C x | false => C) := h
    obtain ⟨c1, h1, h2, h3⟩ := ih h
    have : ∃ c0 ∈ C, c1.miss = c0.miss ∧ (c1.s = c0.s ∨ c1.s = x.s) := by
      split at h1
      · rcases doneL_mem h1 with h1 | ⟨c0, h0, e⟩
        · exact ⟨c1, h1, rfl, .inl rfl⟩
        · exact ⟨c0, h0, by rw [e], .inr (by rw [e])⟩
      · exact ⟨c1, h1, rfl, .inl rfl⟩
    obtain ⟨c0, g1, g2, g3⟩ := this
    refine ⟨c0, g1, h2.trans g2, ?_⟩
    rcases h3 with h3 | ⟨y, hy, h3⟩
    · rcases g3 with g3 | g3
      · exact .inl (h3.trans g3)
      · exact .inr ⟨x, by simp, h3.trans g3⟩
    · exact .inr ⟨y, by simp [hy], h3⟩

theorem Dev.Ok.settle {D : Dev} {b : Nat} (h : D.Ok b) (a : Int) : (D.settle a).Ok b := by
  have hl : (D.settle a).cells.length = D.cells.length := settleC_len _ _ _
  have hw : ∀ x ∈ (D.settle a).waits, x ∈ D.waits := fun x hx => (List.mem_filter.1 hx).1
  refine ⟨fun x hx => by rw [hl]; exact h.at_ x (hw x hx), fun x hx => h.ws x (hw x hx), fun c hc => ?_, fun c hc t ht => ?_, fun c hc => ?_, Nat.le_trans (settleW_le a D.waits) h.wl⟩
  · obtain ⟨c0, h0, _, h2⟩ := settleC_mem hc
    rcases h2 with h2 | ⟨x, hx, h2⟩
    · rw [h2]; exact h.cs c0 h0
    · rw [h2]; exact h.ws x hx
  · obtain ⟨c0, h0, h1, _⟩ := settleC_mem hc
    rw [h1] at ht; rw [hl]; exact h.mt c0 h0 t ht
  · obtain ⟨c0, h0, h1, _⟩ := settleC_mem hc
    rw [h1]; exact h.ml c0 h0

theorem disk_Fault (D : Dev) (f : Flt) (b : Nat) (hD : D.Ok b) (hb : b ≤ 1000000) : AFm Try.prog 3 f_disk_Disk_Fault [.ref 0 0, f.av] (devH D) (Pure (i64 (D.fault f).1) (devH (D.fault f).2)) := by
  refine af_bodyM 3 hT F_disk_Disk_Fault rfl rfl N_disk_Disk_Fault rfl rfl ?_
  refine aw_seq (aw_region hT ?_)
  refine aw_wk (wk_boxL 3 f.pv rfl rfl) ?_
  refine aw_seq (aw_seq (aw_region hT ?_))
  refine callP (af_in [0, 1, 2] (disk_may D f) rfl rfl rfl) ?_
  refine aw_seq (aw_region hT ?_)
  refine aw_cond (boolI (fun h => ?_) (fun h => ?_))
  · have h : (D.may f == 0) = false := by
      have h : (D.may f != 0) = true := h
      simpa using h
    have e : D.fault f = (D.may f, D) := by unfold Dev.fault; rw [h]
    refine aw_seq (aw_region hT ?_)
    refine aw_ret ?_
    rw [e]
    exact retPick [0, 1, 2] ⟨rfl, rfl⟩ rfl
  have h : (D.may f == 0) = true := by
    have h : (D.may f != 0) = false := h
    simpa using h
  have e : D.fault f = (0, D.hurt f) := by unfold Dev.fault; rw [h]
  have hm := may_ok (show D.may f = 0 by simpa using h)
  rw [e]
  refine aw_skip ?_
  refine aw_seq (aw_region hT ?_)
  obtain ⟨k, fa, fo, fn, ft, f0, f1, f2, f3⟩ := f
  have hw : D.waitsIn := fun x hx => hD.at_ x hx
  have hn : D.waits.length ≤ 1000000 := Nat.le_trans hD.wl hb
  have hcs : ∀ c ∈ (D.settle fa).cells, c.s.length ≤ 1000000 := fun c hc => by rw [(hD.settle fa).cs c hc]; omega
  have hml : ∀ c ∈ D.cells, c.miss.length ≤ 1000000 := fun c hc => Nat.le_trans (hD.ml c hc) hb
  have hk : k = 1 ∨ k = 2 ∨ k = 3 ∨ k = 4 ∨ k = 5 := by have := hm.2.1; simp only at this; omega
  rcases hk with rfl | rfl | rfl | rfl | rfl
  · refine aw_seq (aw_region hT ?_)
    refine callP (af_in [0, 1, 2] (disk_rot D ⟨1, fa, fo, fn, ft, f0, f1, f2, f3⟩ hw hn hm.1 (hm.2.2.1 rfl).1 (hm.2.2.1 rfl).2 hcs) rfl rfl rfl) ?_
    refine aw_seq (aw_region hT ?_)
    refine aw_ret ?_
    exact retPick [0, 1, 2] ⟨rfl, rfl⟩ rfl
  · refine aw_seq (aw_region hT ?_)
    refine callP (af_in [0, 1, 2] (disk_blank D ⟨2, fa, fo, fn, ft, f0, f1, f2, f3⟩ hw hn hm.1) rfl rfl rfl) ?_
    refine aw_seq (aw_region hT ?_)
    refine aw_ret ?_
    exact retPick [0, 1, 2] ⟨rfl, rfl⟩ rfl
  · refine aw_seq (aw_region hT ?_)
    refine callP (af_in [0, 1, 2] (disk_lose D ⟨3, fa, fo, fn, ft, f0, f1, f2, f3⟩ hw hn hm.1) rfl rfl rfl) ?_
    refine aw_seq (aw_region hT ?_)
    refine aw_ret ?_
    exact retPick [0, 1, 2] ⟨rfl, rfl⟩ rfl
  · refine aw_seq (aw_region hT ?_)
    refine callP (af_in [0, 1, 2] (disk_drop D ⟨4, fa, fo, fn, ft, f0, f1, f2, f3⟩ hm.1) rfl rfl rfl) ?_
    refine aw_seq (aw_region hT ?_)
    refine aw_ret ?_
    exact retPick [0, 1, 2] ⟨rfl, rfl⟩ rfl
  · refine aw_seq (aw_region hT ?_)
    refine callP (af_in [0, 1, 2] (disk_miss D ⟨5, fa, fo, fn, ft, f0, f1, f2, f3⟩ hm.1 hml) rfl rfl rfl) ?_
    refine aw_seq (aw_region hT ?_)
    refine aw_ret ?_
    exact retPick [0, 1, 2] ⟨rfl, rfl⟩ rfl
end Go.Proofs.Ytolefphdldmlkaa.AL

/- The law's helpers: a sector of one byte; are two the same. -/
namespace Go.Proofs.Ytolefphdldmlkaa.AL
open Go Go.Proofs

def sect (b : UInt8) : Bytes := List.replicate 256 b
def sectL (b : UInt8) (i : Nat) : Bytes := List.replicate i b ++ List.replicate (256 - i) 0
theorem sectL_len {b : UInt8} {i : Nat} (h : i ≤ 256) : (sectL b i).length = 256 := by simp [sectL]; omega
theorem sectL_set {b : UInt8} {i : Nat} (h : i < 256) : (sectL b i).set i b = sectL b (i + 1) := by
  unfold sectL
  rw [List.set_append_right _ _ (by simp), List.length_replicate, Nat.sub_self, show 256 - i = (256 - (i + 1)) + 1 by omega, List.replicate_succ, List.replicate_succ']
  simp
theorem sect_len (b : UInt8) : (sect b).length = 256 := List.length_replicate
theorem bx_set (l : Bytes) (i : Nat) (b : UInt8) : bx (l.set i b) = (bx l).set i [u8 b] := by simp [bx, List.map_set]

theorem law06_SectorM (b : UInt8) : AF Try.prog f_law06_Sector [.p (u8 b)] [] (Pure (.msl 0 1 0 256) [.row t_u8 1 (bx (sect b))]) := by
  refine af_body hT F_law06_Sector rfl rfl N_law06_Sector rfl ?_
  refine aw_seq (aw_region hT ?_)
  refine aw_seq (aw_region hT ?_)
  refine ⟨⟨rfl, by omega, by decide, by omega⟩, ?_⟩
  refine aw_seq (aw_seq (aw_region hT ?_))
  refine aw_block ?_
  obtain ⟨N, hN⟩ : ∃ N : Nat, N = 256 := ⟨_, rfl⟩
  refine aw_loopW (fun n s => ∃ (i : Nat) (j : Int) (S : Bytes), n + i = 256 ∧ j = i ∧ S = sectL b i ∧ s = ⟨⟨17, [(0, .p (u8 b)), (3, .msl 0 1 0 N), (4, i64 j)]⟩, [.row t_u8 1 (bx S)]⟩) 256 ⟨⟨17, _⟩, [_]⟩ (wk_pick [0] [0, 3, 4] rfl) ⟨0, _, sectL b 0, rfl, rfl, rfl, ?_⟩ ?_
  · rw [show bx (sectL b 0) = List.replicate 256 [PV.raw (.int .u8 0)] from bx_zeros, hN]
    rfl
  rintro n s ⟨i, j, S, hni, rfl, hS, rfl⟩
  refine aw_seq (aw_seq (aw_region hT ?_))
  refine aw_cond (boolI (fun h => ?_) (fun h => ?_))
  · have hi : i < 256 := by
      have := of_decide_eq_true (show decide ((i : Int) < (N : Int)) = true from h)
      omega
    have hl : S.length = 256 := by rw [hS]; exact sectL_len (by omega)
    refine aw_skip ?_
    refine aw_seq (aw_block (aw_region hT ?_))
    refine ⟨⟨Int.natCast_nonneg _, of_decide_eq_true h⟩, ?_⟩
    refine optI (show (bx S)[0 + ((i : Nat) : Int).toNat]? = some [u8 (S[i]'(by omega))] by
      rw [Nat.zero_add, Int.toNat_natCast, bx, List.getElem?_map, List.getElem?_eq_getElem (by omega)]; rfl) ?_
    refine chkI rfl (optI rfl ?_)
    refine aw_region hT ?_
    refine ⟨n - 1, by omega, _, wk_pick [0] [0, 3, 4] rfl, i + 1, IntKind.i64.wrap ((i : Int) + 1), sectL b (i + 1), by omega, ?_, rfl, ?_⟩
    · rw [wrap64 _ (by omega) (by omega)]; rfl
    · refine congrArg (St.mk _) ?_
      rw [← sectL_set hi, ← hS, bx_set, show (bx S).set i [u8 b] = (bx S).set (0 + ((i : Nat) : Int).toNat) [u8 b] by rw [Int.toNat_natCast, Nat.zero_add]]
      rfl
  · refine aw_exit ?_
    have hi : i = 256 := by
      have := of_decide_eq_false (show decide ((i : Int) < (N : Int)) = false from h)
      omega
    refine aw_seq (aw_region hT ?_)
    refine aw_ret ?_
    have e : S = sect b := by rw [hS, hi]; unfold sectL sect; rw [Nat.sub_self]; exact List.append_nil _
    subst e
    rw [← hN]
    exact retPick [0] ⟨rfl, rfl⟩ rfl

theorem law06_Sector (b : UInt8) : AF Try.prog f_law06_Sector [.p (u8 b)] [] (Pure (bA (sect b)) []) :=
  af_frz (law06_SectorM b) (by rw [bx_len, sect_len])

def sameTo (s t : Bytes) (i : Nat) : Bool := s.take i == t.take i

theorem ref04_Same (s t : Bytes) (hs : s.length ≤ 1000000) : AF Try.prog f_ref04_Same [bA s, bA t] [] (Pure (bl (s == t)) []) := by
  refine af_body hT F_ref04_Same rfl rfl N_ref04_Same rfl ?_
  refine aw_seq (aw_region hT ?_)
  refine aw_seq (aw_seq (aw_region hT ?_))
  refine aw_cond (boolI (fun h => ?_) (fun h => ?_))
  · have hne : (s == t) = false := by
      have h : (((bx s).length : Int) != ((bx t).length : Int)) = true := h
      rw [bx_len, bx_len] at h
      rw [beq_eq_false_iff_ne]
      rintro rfl
      simp at h
    refine aw_seq (aw_region hT ?_)
    refine aw_ret ?_
    rw [hne]
    exact retPick [] ⟨rfl, rfl⟩ rfl
  have hlen : s.length = t.length := by
    have h : (((bx s).length : Int) != ((bx t).length : Int)) = false := h
    rw [bx_len, bx_len] at h
    have h : (s.length : Int) = t.length := by simpa using h
    omega
  refine aw_skip ?_
  refine aw_seq (aw_seq (aw_region hT ?_))
  refine aw_block ?_
  refine aw_loopW (fun n st => ∃ (i : Nat) (j : Int), n + i = s.length ∧ j = i ∧ s.take i = t.take i ∧ st = ⟨⟨26, [(0, bA s), (1, bA t), (5, i64 j)]⟩, []⟩) s.length ⟨⟨26, _⟩, []⟩ (wk_pick [] [0, 1, 5] rfl) ⟨0, _, rfl, rfl, rfl, rfl⟩ ?_
  rintro n st ⟨i, j, hni, rfl, ht, rfl⟩
  refine aw_seq (aw_seq (aw_region hT ?_))
  refine aw_cond (boolI (fun h => ?_) (fun h => ?_))
  · have hi : i < s.length := by
      have := of_decide_eq_true (show decide ((i : Int) < ((bx s).length : Int)) = true from h)
      rw [bx_len] at this; omega
    have hx : (bx s)[((i : Nat) : Int).toNat]? = some [u8 s[i]] := by
      rw [Int.toNat_natCast, bx, List.getElem?_map, List.getElem?_eq_getElem hi]; rfl
    have hy : (bx t)[((i : Nat) : Int).toNat]? = some [u8 (t[i]'(by omega))] := by
      rw [Int.toNat_natCast, bx, List.getElem?_map, List.getElem?_eq_getElem (by omega)]; rfl
    refine aw_skip ?_
    refine aw_seq (aw_block (aw_seq ?_))
    refine aw_draw [] [] hT follows_mixed (by rfl) ?_
    refine ⟨Int.natCast_nonneg _, optI hx ?_⟩
    refine ⟨Int.natCast_nonneg _, optI hy ?_⟩
    refine aw_cond (boolI (fun h2 => ?_) (fun h2 => ?_))
    · have hne : (s == t) = false := by
        rw [beq_eq_false_iff_ne]
        rintro rfl
        have h2 : (((s[i].toNat : Nat) : Int) != ((s[i].toNat : Nat) : Int)) = true := h2
        simp at h2
      refine aw_seq (aw_region hT ?_)
      refine aw_ret ?_
      rw [hne]
      exact retPick [] ⟨rfl, rfl⟩ rfl
    · have he : s[i] = t[i]'(by omega) := by
        have h2 : (((s[i].toNat : Nat) : Int) != (((t[i]'(by omega)).toNat : Nat) : Int)) = false := h2
        have h2 : (s[i].toNat : Int) = ((t[i]'(by omega)).toNat : Int) := by simpa using h2
        have h2 : s[i].toNat = (t[i]'(by omega)).toNat := by omega
        exact UInt8.toNat_inj.mp h2
      refine aw_skip ?_
      refine aw_region hT ?_
      refine ⟨n - 1, by omega, _, wk_pick [] [0, 1, 5] rfl, i + 1, IntKind.i64.wrap ((i : Int) + 1), by omega, ?_, ?_, rfl⟩
      · rw [wrap64 _ (by omega) (by omega)]; rfl
      · rw [List.take_add_one, List.take_add_one, ht, List.getElem?_eq_getElem hi, List.getElem?_eq_getElem (show i < t.length by omega), he]
  · refine aw_exit ?_
    have hi : i = s.length := by
      have := of_decide_eq_false (show decide ((i : Int) < ((bx s).length : Int)) = false from h)
      rw [bx_len] at this; omega
    have he : (s == t) = true := by
      rw [beq_iff_eq]
      rw [hi, List.take_length, hlen, List.take_length] at ht
      exact ht
    refine aw_seq (aw_region hT ?_)
    refine aw_ret ?_
    rw [he]
    exact retPick [] ⟨rfl, rfl⟩ rfl
end Go.Proofs.Ytolefphdldmlkaa.AL

/- A device stays well. -/
namespace Go.Proofs.Ytolefphdldmlkaa.AL
open Go Go.Proofs

theorem Dev.Ok.mono {D : Dev} {b b' : Nat} (h : D.Ok b) (hb : b ≤ b') : D.Ok b' :=
  ⟨h.at_, h.ws, h.cs, h.mt, fun c hc => Nat.le_trans (h.ml c hc) hb, Nat.le_trans h.wl hb⟩
theorem ok_new (n b : Nat) : (Dev.new n).Ok b := by
  refine ⟨fun x hx => by simp [Dev.new] at hx, fun x hx => by simp [Dev.new] at hx, fun c hc => ?_, fun c hc t ht => ?_, fun c hc => ?_, Nat.zero_le _⟩
  · rw [List.eq_of_mem_replicate hc]; exact List.length_replicate
  · rw [List.eq_of_mem_replicate hc] at ht; simp at ht
  · rw [List.eq_of_mem_replicate hc]; exact Nat.zero_le _
theorem Dev.Ok.lives {D : Dev} {b : Nat} (h : D.Ok b) : D.lives.Ok b := ⟨h.at_, h.ws, h.cs, h.mt, h.ml, h.wl⟩
theorem Dev.Ok.count {D : Dev} {b : Nat} (h : D.Ok b) : D.count.Ok b := ⟨h.at_, h.ws, h.cs, h.mt, h.ml, h.wl⟩
theorem Dev.Ok.arm {D : Dev} {b : Nat} (h : D.Ok b) (n : Int) : (D.arm n).Ok b := ⟨h.at_, h.ws, h.cs, h.mt, h.ml, h.wl⟩
theorem Dev.Ok.read {D : Dev} {b : Nat} (h : D.Ok b) (a : Int) : (D.read a).2.Ok b := by
  unfold Dev.read
  split
  · exact h
  · split
    · exact h
    · exact h.count

theorem crashC_mem {W : List Wr} {keep : List Bool} {C : List Cell} {i : Nat} {c : Cell} (h : c ∈ crashC W keep i C) (hi : i ≤ W.length) : ∃ c0 ∈ C, c.miss = c0.miss ∧ (c.s = c0.s ∨ ∃ x ∈ W, c.s = x.s) := by
  induction i generalizing c with
  | zero => exact ⟨c, h, rfl, .inl rfl⟩
  | succ i ih =>
    unfold crashC at h
    split at h
    · have hx : W.getD i ⟨0, []⟩ ∈ W := by
        rw [List.getD_eq_getElem?_getD, List.getElem?_eq_getElem (by omega)]
        exact List.getElem_mem _
      rcases doneL_mem h with h | ⟨c0, h0, e⟩
      · exact ih h (by omega)
      · obtain ⟨c1, g1, g2, _⟩ := ih h0 (by omega)
        refine ⟨c1, g1, by rw [e]; exact g2, .inr ⟨_, hx, by rw [e]⟩⟩
    · exact ih h (by omega)

theorem Dev.Ok.drain {D : Dev} {b : Nat} (h : D.Ok b) (keep : List Bool) : (D.drain keep).Ok b := by
  have hl : (D.drain keep).cells.length = D.cells.length := crashC_len _ _ _ _
  refine ⟨fun x hx => by simp [Dev.drain] at hx, fun x hx => by simp [Dev.drain] at hx, fun c hc => ?_, fun c hc t ht => ?_, fun c hc => ?_, Nat.zero_le _⟩
  · obtain ⟨c0, h0, _, h2⟩ := crashC_mem hc (Nat.le_refl _)
    rcases h2 with h2 | ⟨x, hx, h2⟩
    · rw [h2]; exact h.cs c0 h0
    · rw [h2]; exact h.ws x hx
  · obtain ⟨c0, h0, h1, _⟩ := crashC_mem hc (Nat.le_refl _)
    rw [h1] at ht; rw [hl]; exact h.mt c0 h0 t ht
  · obtain ⟨c0, h0, h1, _⟩ := crashC_mem hc (Nat.le_refl _)
    rw [h1]; exact h.ml c0 h0
theorem Dev.Ok.crashed {D : Dev} {b : Nat} (h : D.Ok b) (keep : List Bool) : (D.crashed keep).Ok b := by
  have h := h.drain keep
  exact ⟨h.at_, h.ws, h.cs, h.mt, h.ml, h.wl⟩
theorem Dev.Ok.flush {D : Dev} {b : Nat} (h : D.Ok b) : D.flush.2.Ok b := by
  unfold Dev.flush
  split
  · exact h
  · split
    · exact h.lives
    · exact h.lives.drain _

/-- A cell is changed. -/
theorem Dev.Ok.set {D : Dev} {b : Nat} (h : D.Ok b) (i : Nat) {c : Cell} (h1 : c.s.length = 256) (h2 : ∀ t ∈ c.miss, 0 ≤ t ∧ t < (D.cells.length : Int)) (h3 : c.miss.length ≤ b) : ({ D with cells := D.cells.set i c } : Dev).Ok b := by
  have hm : ∀ x ∈ D.cells.set i c, x ∈ D.cells ∨ x = c := fun x hx => List.mem_or_eq_of_mem_set hx
  refine ⟨fun x hx => by show _ ∧ _ < ((D.cells.set i c).length : Int); rw [List.length_set]; exact h.at_ x hx, h.ws, fun x hx => ?_, fun x hx t ht => ?_, fun x hx => ?_, h.wl⟩
  · rcases hm x hx with hx | rfl
    · exact h.cs x hx
    · exact h1
  · show _ ∧ _ < ((D.cells.set i c).length : Int)
    rw [List.length_set]
    rcases hm x hx with hx | rfl
    · exact h.mt x hx t ht
    · exact h2 t ht
  · rcases hm x hx with hx | rfl
    · exact h.ml x hx
    · exact h3
theorem Dev.Ok.wait {D : Dev} {b : Nat} (h : D.Ok b) {x : Wr} (h1 : 0 ≤ x.at_ ∧ x.at_ < (D.cells.length : Int)) (h2 : x.s.length = 256) : ({ D with waits := D.waits ++ [x] } : Dev).Ok (b + 1) := by
  have hm : ∀ y ∈ D.waits ++ [x], y ∈ D.waits ∨ y = x := fun y hy => by simpa using hy
  refine ⟨fun y hy => ?_, fun y hy => ?_, h.cs, h.mt, fun c hc => Nat.le_succ_of_le (h.ml c hc), ?_⟩
  · rcases hm y hy with hy | rfl
    · exact h.at_ y hy
    · exact h1
  · rcases hm y hy with hy | rfl
    · exact h.ws y hy
    · exact h2
  · show (D.waits ++ [x]).length ≤ b + 1
    have := h.wl
    simp; omega

theorem Dev.Ok.put {D : Dev} {b : Nat} (h : D.Ok b) {a : Int} (ha : D.has a = true) {s : Bytes} (hs : s.length = 256) : (D.put a s).Ok (b + 1) := by
  have hlt := has_iff ha
  obtain ⟨c, hc, _⟩ := cell_get D ha
  have hcm := List.mem_of_getElem? hc
  obtain ⟨c1, c2, c3, c4⟩ := c
  cases h3 : decide (c3 > 0) with
  | true =>
    rw [put_drop hc h3]
    exact (h.set a.toNat (c := ⟨c1, c2, IntKind.i64.wrap (c3 - 1), c4⟩) (h.cs ⟨c1, c2, c3, c4⟩ hcm) (h.mt ⟨c1, c2, c3, c4⟩ hcm) (h.ml ⟨c1, c2, c3, c4⟩ hcm)).mono (Nat.le_succ _)
  | false =>
    cases c4 with
    | nil =>
      rw [put_plain hc h3]
      exact h.wait hlt.2 hs
    | cons t r =>
      rw [put_miss hc h3]
      have ht := h.mt _ hcm t (by simp)
      have h1 := h.set a.toNat (c := ⟨c1, c2, c3, r⟩) (h.cs ⟨c1, c2, c3, t :: r⟩ hcm) (fun t' ht' => h.mt _ hcm t' (by simp [ht'])) (Nat.le_trans (Nat.le_succ _) (h.ml _ hcm))
      exact h1.wait (x := ⟨t, s⟩) (by show _ ∧ _ < ((D.cells.set _ _).length : Int); rw [List.length_set]; exact ht) hs

theorem Dev.Ok.write {D : Dev} {b : Nat} (h : D.Ok b) (a : Int) (s : Bytes) : (D.write a s).2.Ok (b + 1) := by
  unfold Dev.write
  split
  · exact h.mono (Nat.le_succ _)
  split
  · exact h.mono (Nat.le_succ _)
  rename_i ha
  split
  · exact h.mono (Nat.le_succ _)
  rename_i hs
  split
  · exact h.lives.mono (Nat.le_succ _)
  · have hs : (s.length : Int) = 256 := by simpa using hs
    exact h.lives.count.put (a := a) ha (by omega)

theorem Dev.Ok.upd {D : Dev} {b : Nat} (h : D.Ok b) {a : Int} (ha : D.has a = true) (g : Cell → Cell) (h1 : ∀ c ∈ D.cells, (g c).s.length = 256) (h2 : ∀ c ∈ D.cells, ∀ t ∈ (g c).miss, 0 ≤ t ∧ t < (D.cells.length : Int)) (h3 : ∀ c ∈ D.cells, (g c).miss.length ≤ b) : (D.upd a g).Ok b := by
  obtain ⟨c, hc, _⟩ := cell_get D ha
  have hcm := List.mem_of_getElem? hc
  unfold Dev.upd
  rw [modify_some g hc]
  exact h.set a.toNat (h1 c hcm) (h2 c hcm) (h3 c hcm)

theorem Dev.Ok.fault {D : Dev} {b : Nat} (h : D.Ok b) (f : Flt) : (D.fault f).2.Ok (b + 1) := by
  unfold Dev.fault
  split
  · exact h.mono (Nat.le_succ _)
  rename_i hm
  have hm := may_ok (show D.may f = 0 by simpa using hm)
  have hs := h.settle f.at_
  have ha : (D.settle f.at_).has f.at_ = true := (settle_has D f.at_ f.at_).trans hm.1
  unfold Dev.hurt
  split
  · exact (hs.upd ha (fun c => { c with s := rotB f c.s 4 }) (fun c hc => (rotB_len f c.s 4).trans (hs.cs c hc)) (fun c hc => hs.mt c hc) (fun c hc => hs.ml c hc)).mono (Nat.le_succ _)
  split
  · exact (hs.upd ha (fun c => { c with s := zeros, lost := false }) (fun c hc => List.length_replicate) (fun c hc => hs.mt c hc) (fun c hc => hs.ml c hc)).mono (Nat.le_succ _)
  split
  · exact (hs.upd ha (fun c => { c with lost := true }) (fun c hc => hs.cs c hc) (fun c hc => hs.mt c hc) (fun c hc => hs.ml c hc)).mono (Nat.le_succ _)
  split
  · exact (h.upd hm.1 (fun c => { c with drop := IntKind.i64.wrap (c.drop + f.n) }) (fun c hc => h.cs c hc) (fun c hc => h.mt c hc) (fun c hc => h.ml c hc)).mono (Nat.le_succ _)
  · have h5 : f.kind = 5 := by omega
    have hto := has_iff (hm.2.2.2.2 h5)
    refine (h.mono (Nat.le_succ _)).upd hm.1 (fun c => { c with miss := c.miss ++ [f.to] }) (fun c hc => h.cs c hc) (fun c hc t ht => ?_) (fun c hc => ?_)
    · rcases List.mem_append.1 ht with ht | ht
      · exact h.mt c hc t ht
      · have : t = f.to := by simpa using ht
        rw [this]; exact hto.2
    · have := h.ml c hc
      simp; omega
end Go.Proofs.Ytolefphdldmlkaa.AL

/- The law of layer 06: has; its examples. -/
namespace Go.Proofs.Ytolefphdldmlkaa.AL
open Go Go.Proofs

def Dev.holds (D : Dev) (a : Int) (b : UInt8) : Bool := match (D.read a).1.2 == 0 with | true => (D.read a).1.1 == sect b | false => false

theorem read_len {D : Dev} {b : Nat} (h : D.Ok b) (a : Int) : (D.read a).1.1.length ≤ 256 := by
  unfold Dev.read
  split
  · exact Nat.zero_le _
  split
  · exact Nat.zero_le _
  show (D.readAt a).2.length ≤ 256
  unfold Dev.readAt
  split
  · rename_i x hx
    have : ∀ (l : List Wr), lastW (hitA a) l = some x → x ∈ l := by
      intro l
      induction l with
      | nil => intro h; cases h
      | cons y r ih =>
        intro h
        unfold lastW at h
        split at h
        · rename_i z hz
          obtain rfl := Option.some.inj h
          exact List.mem_cons_of_mem _ (ih hz)
        · split at h
          · obtain rfl := Option.some.inj h; simp
          · cases h
    rw [show (0, x.s).2 = x.s from rfl, h.ws x (this _ hx)]
    exact Nat.le_refl _
  · split
    · rename_i c hc
      split
      · exact Nat.zero_le _
      · show c.s.length ≤ 256
        rw [h.cs c (List.mem_of_getElem? hc)]
        exact Nat.le_refl _
    · exact Nat.zero_le _

theorem Dev.Ok.big {D : Dev} {b : Nat} (h : D.Ok b) (hb : b ≤ 1000000) : D.waitsIn ∧ D.waits.length ≤ 1000000 ∧ (∀ x ∈ D.waits, x.s.length ≤ 1000000) ∧ (∀ c ∈ D.cells, c.s.length ≤ 1000000) :=
  ⟨h.at_, Nat.le_trans h.wl hb, fun x hx => by rw [h.ws x hx]; omega, fun c hc => by rw [h.cs c hc]; omega⟩

theorem law06_has (D : Dev) (a : Int) (v : UInt8) (b : Nat) (hD : D.Ok b) (hb : b ≤ 1000000) : AFm Try.prog 3 f_law06_has [.ref 0 0, i64 a, .p (u8 v)] (devH D) (Pure (bl (D.holds a v)) (devH (D.read a).2)) := by
  have big := hD.big hb
  refine af_bodyM 3 hT F_law06_has rfl rfl N_law06_has rfl rfl ?_
  refine aw_seq (aw_region hT ?_)
  refine aw_seq (aw_region hT ?_)
  refine callP (af_in [0, 1, 2] (disk_Read D a big.2.1 big.2.2.1 big.2.2.2) rfl rfl rfl) ?_
  refine aw_seq (aw_region hT ?_)
  refine callP (af_at (law06_Sector v) _ rfl rfl) ?_
  refine callP (af_at (ref04_Same (D.read a).1.1 (sect v) (by have := read_len hD a; omega)) _ rfl rfl) ?_
  refine aw_seq (aw_region hT ?_)
  unfold Dev.holds
  refine boolI (fun h => ?_) (fun h => ?_)
  · have h : ((D.read a).1.2 == 0) = true := h
    refine aw_ret ?_
    rw [h]
    exact retPick [0, 1, 2] ⟨rfl, rfl⟩ rfl
  · have h : ((D.read a).1.2 == 0) = false := h
    refine aw_ret ?_
    rw [h]
    exact retPick [0, 1, 2] ⟨rfl, rfl⟩ rfl
end Go.Proofs.Ytolefphdldmlkaa.AL

/- The law of layer 06: its examples hold. -/
namespace Go.Proofs.Ytolefphdldmlkaa.AL
open Go Go.Proofs

def aw1 : Dev := Dev.new 2
def aw2 : Dev := (aw1.write 0 (sect 1)).2
def aw3 : Dev := (aw2.read 0).2
def aw4 : Dev := aw3.crashed []
def aw5 : Dev := (aw4.read 0).2
def aw6 : Dev := (aw5.fault ⟨4, 0, 0, 1, 0, 0, 0, 0, 0⟩).2
def aw7 : Dev := (aw6.write 0 (sect 2)).2
def aw8 : Dev := (aw7.read 0).2
def aw9 : Dev := (aw8.write 0 (sect 2)).2
theorem aw_f : (aw1.write 0 (sect 1)).1 = 0 := by decide +kernel
theorem aw_a : aw2.holds 0 1 = true := by decide +kernel
theorem aw_b : aw4.holds 0 0 = true := by decide +kernel
theorem aw_g : (aw5.fault ⟨4, 0, 0, 1, 0, 0, 0, 0, 0⟩).1 = 0 := by decide +kernel
theorem aw_c : aw7.holds 0 0 = true := by decide +kernel
theorem aw_d : aw9.holds 0 2 = true := by decide +kernel
theorem aw_n : (aw9.read 0).2.cells.length = 2 := by decide +kernel

set_option maxRecDepth 8000 in
theorem awake_of (D1 D2 D3 D4 D5 D6 D7 D8 D9 D10 : Dev) (s1 s2 : Bytes) (e1 : Dev.new 2 = D1) (q1 : sect 1 = s1) (q2 : sect 2 = s2)
    (e2 : (D1.write 0 s1).2 = D2) (e3 : (D2.read 0).2 = D3) (e4 : D3.crashed [] = D4) (e5 : (D4.read 0).2 = D5) (e6 : (D5.fault ⟨4, 0, 0, 1, 0, 0, 0, 0, 0⟩).2 = D6) (e7 : (D6.write 0 s2).2 = D7)
    (e8 : (D7.read 0).2 = D8) (e9 : (D8.write 0 s2).2 = D9) (e10 : (D9.read 0).2 = D10)
    (f : (D1.write 0 s1).1 = 0) (a : D2.holds 0 1 = true) (b : D4.holds 0 0 = true) (g : (D5.fault ⟨4, 0, 0, 1, 0, 0, 0, 0, 0⟩).1 = 0) (c : D7.holds 0 0 = true) (d : D9.holds 0 2 = true) (l : D10.cells.length = 2) :
    AF Try.prog f_law06_awake [] [] (Pure (bl true) []) := by
  have o1 : D1.Ok 1 := e1 ▸ ok_new 2 1
  have o2 : D2.Ok 2 := e2 ▸ o1.write 0 _
  have o3 : D3.Ok 2 := e3 ▸ o2.read 0
  have o4 : D4.Ok 2 := e4 ▸ o3.crashed []
  have o5 : D5.Ok 2 := e5 ▸ o4.read 0
  have o6 : D6.Ok 3 := e6 ▸ o5.fault _
  have o7 : D7.Ok 4 := e7 ▸ o6.write 0 _
  have o8 : D8.Ok 4 := e8 ▸ o7.read 0
  have o9 : D9.Ok 5 := e9 ▸ o8.write 0 _
  have y1 := law06_Sector 1
  have y2 := law06_Sector 2
  have n1 := disk_New 2 (by omega) (by omega)
  rw [q1] at y1
  rw [q2] at y2
  rw [e1] at n1
  refine af_body hT F_law06_awake rfl rfl N_law06_awake rfl ?_
  refine aw_seq (aw_region hT ?_)
  refine aw_cut ⟨⟨60, [(1, .ref 0 0), (2, i64 0)]⟩, devH D1⟩ True (aw_region hT ?_) (fun _ => ?_)
  · refine callP n1 ?_
    exact ⟨wk_pick [0, 1, 2] [1, 2] rfl, trivial⟩
  refine aw_cut ⟨⟨60, [(1, .ref 0 0), (2, i64 0), (3, i64 0)]⟩, devH D2⟩ True (aw_region hT ?_) (fun _ => ?_)
  · refine callP (af_at y1 _ rfl rfl) ?_
    have w := disk_Write D1 0 s1 (by have := o1.wl; omega)
    rw [f, e2] at w
    refine callP (af_in [0, 1, 2] w rfl rfl rfl) ?_
    exact ⟨wk_pick [0, 3, 4] [1, 2, 3] rfl, trivial⟩
  refine aw_cut ⟨⟨60, [(1, .ref 0 0), (2, i64 0), (3, i64 0), (4, bl true)]⟩, devH D3⟩ True (aw_region hT ?_) (fun _ => ?_)
  · have w := law06_has D2 0 1 _ o2 (by omega)
    rw [a, e3] at w
    refine callP (af_in [0, 1, 2] w rfl rfl rfl) ?_
    exact ⟨wk_pick [0, 1, 2] [1, 2, 3, 4] rfl, trivial⟩
  refine aw_cut ⟨⟨60, [(1, .ref 0 0), (2, i64 0), (3, i64 0), (4, bl true)]⟩, devH D4⟩ True (aw_region hT ?_) (fun _ => ?_)
  · have w := disk_Crash D3 [] (o3.big (by omega)).1 (o3.big (by omega)).2.1
    rw [e4] at w
    refine callP (af_args (af_in (args := [.ref 0 0, .p (.sl 1 (kx []))]) [0, 1, 2] w rfl rfl rfl) ⟨.inl rfl, .inr ⟨rfl, 1, rfl⟩, trivial⟩) ?_
    exact ⟨wk_pick [0, 3, 4] [1, 2, 3, 4] rfl, trivial⟩
  refine aw_cut ⟨⟨60, [(1, .ref 0 0), (2, i64 0), (3, i64 0), (4, bl true), (5, bl true)]⟩, devH D5⟩ True (aw_region hT ?_) (fun _ => ?_)
  · have w := law06_has D4 0 0 _ o4 (by omega)
    rw [b, e5] at w
    refine callP (af_in [0, 1, 2] w rfl rfl rfl) ?_
    exact ⟨wk_pick [0, 1, 2] [1, 2, 3, 4, 5] rfl, trivial⟩
  refine aw_cut ⟨⟨60, [(1, .ref 0 0), (2, i64 0), (3, i64 0), (4, bl true), (5, bl true), (6, i64 0)]⟩, devH D6⟩ True (aw_region hT ?_) (fun _ => ?_)
  · have w := disk_Fault D5 ⟨4, 0, 0, 1, 0, 0, 0, 0, 0⟩ _ o5 (by omega)
    rw [g, e6] at w
    refine callP (af_in [0, 1, 2] w rfl rfl rfl) ?_
    exact ⟨wk_pick [0, 1, 2] [1, 2, 3, 4, 5, 6] rfl, trivial⟩
  refine aw_cut ⟨⟨60, [(1, .ref 0 0), (2, i64 0), (3, i64 0), (4, bl true), (5, bl true), (6, i64 0)]⟩, devH D7⟩ True (aw_region hT ?_) (fun _ => ?_)
  · refine callP (af_at y2 _ rfl rfl) ?_
    have w := disk_Write D6 0 s2 (o6.big (by omega)).2.1
    rw [e7] at w
    refine callP (af_in [0, 1, 2] w rfl rfl rfl) ?_
    exact ⟨wk_pick [0, 3, 4] [1, 2, 3, 4, 5, 6] rfl, trivial⟩
  refine aw_cut ⟨⟨60, [(1, .ref 0 0), (2, i64 0), (3, i64 0), (4, bl true), (5, bl true), (6, i64 0), (7, bl true)]⟩, devH D8⟩ True (aw_region hT ?_) (fun _ => ?_)
  · have w := law06_has D7 0 0 _ o7 (by omega)
    rw [c, e8] at w
    refine callP (af_in [0, 1, 2] w rfl rfl rfl) ?_
    exact ⟨wk_pick [0, 1, 2] [1, 2, 3, 4, 5, 6, 7] rfl, trivial⟩
  refine aw_cut ⟨⟨60, [(1, .ref 0 0), (2, i64 0), (3, i64 0), (4, bl true), (5, bl true), (6, i64 0), (7, bl true)]⟩, devH D9⟩ True (aw_region hT ?_) (fun _ => ?_)
  · refine callP (af_at y2 _ rfl rfl) ?_
    have w := disk_Write D8 0 s2 (o8.big (by omega)).2.1
    rw [e9] at w
    refine callP (af_in [0, 1, 2] w rfl rfl rfl) ?_
    exact ⟨wk_pick [0, 3, 4] [1, 2, 3, 4, 5, 6, 7] rfl, trivial⟩
  refine aw_seq (aw_region hT ?_)
  have w := law06_has D9 0 2 _ o9 (by omega)
  rw [d, e10] at w
  refine callP (af_in [0, 1, 2] w rfl rfl rfl) ?_
  have w := disk_Len D10
  rw [l] at w
  refine callP (af_in [0, 1, 2] w rfl rfl rfl) ?_
  refine aw_ret ?_
  exact retPick [] ⟨rfl, rfl⟩ rfl

theorem law06_awake : AF Try.prog f_law06_awake [] [] (Pure (bl true) []) :=
  awake_of aw1 aw2 aw3 aw4 aw5 aw6 aw7 aw8 aw9 (aw9.read 0).2 (sect 1) (sect 2) rfl rfl rfl rfl rfl rfl rfl rfl rfl rfl rfl rfl aw_f aw_a aw_b aw_g aw_c aw_d aw_n
end Go.Proofs.Ytolefphdldmlkaa.AL

/- The law DiskPlain, as plain lists. -/
namespace Go.Proofs.Ytolefphdldmlkaa.AL
open Go Go.Proofs

structure Op06 where
  kind : Int
  at_ : Int
  b : UInt8
  short : Bool
  f : Flt
  keep : List Bool
def Op06.pv (x : Op06) : List PV := [.raw (.int .i64 x.kind), .raw (.int .i64 x.at_), u8 x.b, .raw (.bool x.short), .raw (.int .i64 x.f.kind), .raw (.int .i64 x.f.at_), .raw (.int .i64 x.f.off), .raw (.int .i64 x.f.n), .raw (.int .i64 x.f.to), u8 x.f.m0, u8 x.f.m1, u8 x.f.m2, u8 x.f.m3, .sl 1 (kx x.keep)]
def opx (l : List Op06) : List (List PV) := l.map Op06.pv
theorem opx_len (l : List Op06) : (opx l).length = l.length := by simp [opx]
theorem opx_get {l : List Op06} {i : Nat} {c : Op06} (h : l[i]? = some c) : (opx l)[i]? = some c.pv := by rw [opx, List.getElem?_map, h]; rfl

theorem kept_all (i : Nat) : kept [true] i = true := by unfold kept; simp [Nat.mod_one]

theorem drain_get (W : List Wr) (C : List Cell) (hw : ∀ x ∈ W, 0 ≤ x.at_) (k : Nat) : ∀ i, i ≤ W.length → (crashC W [true] i C)[k]? = match lastW (hitA k) (W.take i) with | some x => (C[k]?).map (fun c => { c with s := x.s, lost := false }) | none => C[k]?
  | 0, _ => rfl
  | i + 1, hi => by
    have ih := drain_get W C hw k i (by omega)
    have hx := List.getElem?_eq_getElem (show i < W.length by omega)
    have h0 := hw _ (List.getElem_mem (show i < W.length by omega))
    generalize W[i] = x at hx h0
    rw [lastW_take _ hx]
    unfold crashC
    rw [kept_all, List.getD_eq_getElem?_getD, hx]
    show (doneL (crashC W [true] i C) x)[k]? = _
    cases hh : hitA (k : Int) x with
    | true =>
      have hk : x.at_ = (k : Int) := by simpa using hh
      have hk : x.at_.toNat = k := by omega
      unfold doneL
      rw [hk]
      cases hc : (crashC W [true] i C)[k]? with
      | none =>
        have : C[k]? = none := by
          rw [List.getElem?_eq_none_iff] at hc ⊢
          rw [crashC_len] at hc; exact hc
        simp only [hc, this]; rfl
      | some c =>
        have hlt := (List.getElem?_eq_some_iff.1 hc).1
        simp only
        rw [List.getElem?_set_self hlt]
        rw [ih] at hc
        cases hl : lastW (hitA (k : Int)) (W.take i) with
        | none => rw [hl] at hc; simp only at hc; rw [hc]; rfl
        | some y =>
          rw [hl] at hc; simp only at hc
          cases hC : C[k]? with
          | none => rw [hC] at hc; cases hc
          | some c0 => rw [hC] at hc; obtain rfl := Option.some.inj hc; rfl
    | false =>
      have hk : ¬ x.at_ = (k : Int) := by simpa using hh
      have hk : ¬ x.at_.toNat = k := by omega
      rw [show (doneL (crashC W [true] i C) x)[k]? = (crashC W [true] i C)[k]? by
        unfold doneL; split
        · rw [List.getElem?_set_ne hk]
        · rfl]
      exact ih

def cellAt : Option Cell → Int × Bytes
  | some c => (match c.lost with | true => (20, []) | false => (0, c.s))
  | none => (20, [])
def readIn (W : List Wr) (C : List Cell) (a : Int) : Int × Bytes := match lastW (hitA a) W with | some x => (0, x.s) | none => cellAt C[a.toNat]?
theorem readAt_eq (D : Dev) (a : Int) : D.readAt a = readIn D.waits D.cells a := by
  unfold Dev.readAt readIn cellAt
  cases lastW (hitA a) D.waits <;> rfl

structure PlainOk (D : Dev) (L : Bytes) (b : Nat) : Prop where
  ok : D.Ok b
  len : D.cells.length = 20
  dead : D.dead = false
  armed : D.armed = false
  pl : ∀ c ∈ D.cells, c.drop = 0 ∧ c.miss = [] ∧ c.lost = false
  ll : L.length = 20
  val : ∀ i : Nat, i < 20 → D.readAt (i : Int) = (0, sect (L.getD i 0))

theorem PlainOk.lives {D : Dev} {L : Bytes} {b : Nat} (h : PlainOk D L b) : PlainOk D.lives L b ∧ D.lives.dead = false := by
  have : D.lives.dead = false := by unfold Dev.lives; rw [h.dead, h.armed]; rfl
  exact ⟨⟨h.ok.lives, h.len, this, h.armed, h.pl, h.ll, h.val⟩, this⟩
theorem PlainOk.count {D : Dev} {L : Bytes} {b : Nat} (h : PlainOk D L b) : PlainOk D.count L b := ⟨h.ok.count, h.len, h.dead, h.armed, h.pl, h.ll, h.val⟩

theorem plain_new : PlainOk (Dev.new 20) (List.replicate 20 0) 0 := by
  refine ⟨ok_new 20 0, List.length_replicate, rfl, rfl, fun c hc => ?_, List.length_replicate, fun i hi => ?_⟩
  · rw [List.eq_of_mem_replicate hc]; exact ⟨rfl, rfl, rfl⟩
  · rw [readAt_eq]
    show cellAt (Dev.new 20).cells[((i : Nat) : Int).toNat]? = _
    rw [show (Dev.new 20).cells[((i : Nat) : Int).toNat]? = some cell1 by
      rw [Int.toNat_natCast]; exact (List.getElem?_replicate).trans (if_pos hi)]
    rw [List.getD_eq_getElem?_getD, List.getElem?_replicate, if_pos hi]; rfl

theorem plain_has {D : Dev} {L : Bytes} {b : Nat} (h : PlainOk D L b) {a : Int} (ha : 0 ≤ a) (hb : a < 20) : D.has a = true := by
  unfold Dev.has; rw [h.len, decide_eq_true (by omega), decide_eq_true (by omega)]; rfl

theorem plain_write {D : Dev} {L : Bytes} {b : Nat} (h : PlainOk D L b) {a : Int} (ha : 0 ≤ a) (hb : a < 20) (v : UInt8) : (D.write a (sect v)).1 = 0 ∧ PlainOk (D.write a (sect v)).2 (L.set a.toNat v) (b + 1) := by
  have h1 := plain_has h ha hb
  obtain ⟨hl, hd⟩ := h.lives
  have e : D.write a (sect v) = (0, D.lives.count.put a (sect v)) := by
    unfold Dev.write; rw [h.dead, h1, show (((sect v).length : Int) != 256) = false by rw [sect_len]; rfl, hd]
  have hk := (h.ok.write a (sect v))
  rw [e] at hk ⊢
  obtain ⟨c, hc, _⟩ := cell_get D h1
  obtain ⟨p1, p2, p3⟩ := h.pl c (List.mem_of_getElem? hc)
  obtain ⟨c1, c2, c3, c4⟩ := c
  simp only at p1 p2 p3
  subst p1 p2 p3
  have ep : D.lives.count.put a (sect v) = { D.lives.count with waits := D.waits ++ [⟨a, sect v⟩] } := put_plain (D := D.lives.count) hc rfl
  rw [ep] at hk ⊢
  refine ⟨rfl, hk, h.len, hd, h.armed, h.pl, by rw [List.length_set]; exact h.ll, fun i hi => ?_⟩
  have hv := h.val i hi
  rw [readAt_eq] at hv ⊢
  show readIn (D.waits ++ [⟨a, sect v⟩]) D.cells i = _
  unfold readIn at hv ⊢
  rw [lastW_snoc]
  by_cases e2 : a = (i : Int)
  · subst e2
    rw [show hitA (i : Int) ⟨(i : Int), sect v⟩ = true by simp]
    rw [List.getD_eq_getElem?_getD, Int.toNat_natCast, List.getElem?_set_self (by rw [h.ll]; exact hi)]; rfl
  · rw [show hitA (i : Int) ⟨a, sect v⟩ = false by simpa using e2]
    rw [List.getD_eq_getElem?_getD, List.getElem?_set_ne (by omega), ← List.getD_eq_getElem?_getD]
    exact hv

theorem plain_flush {D : Dev} {L : Bytes} {b : Nat} (h : PlainOk D L b) : D.flush.1 = 0 ∧ PlainOk D.flush.2 L b := by
  obtain ⟨hl, hd⟩ := h.lives
  have e : D.flush = (0, D.lives.drain [true]) := by unfold Dev.flush; rw [h.dead, hd]
  have hk := h.ok.flush
  rw [e] at hk ⊢
  have hw : ∀ x ∈ D.waits, 0 ≤ x.at_ := fun x hx => (h.ok.at_ x hx).1
  have hg := fun k => drain_get D.waits D.cells hw k D.waits.length (Nat.le_refl _)
  refine ⟨rfl, hk, (crashC_len _ _ _ _).trans h.len, hd, h.armed, fun c hc => ?_, h.ll, fun i hi => ?_⟩
  · obtain ⟨k, hk2⟩ := List.getElem?_of_mem hc
    have hk2 : (crashC D.waits [true] D.waits.length D.cells)[k]? = some c := hk2
    rw [hg k] at hk2
    split at hk2
    · cases hC : D.cells[k]? with
      | none => rw [hC] at hk2; cases hk2
      | some c0 =>
        rw [hC] at hk2
        obtain rfl := Option.some.inj hk2
        have := h.pl c0 (List.mem_of_getElem? hC)
        exact ⟨this.1, this.2.1, rfl⟩
    · exact h.pl c (List.mem_of_getElem? hk2)
  · have hv := h.val i hi
    rw [readAt_eq] at hv ⊢
    show cellAt (crashC D.waits [true] D.waits.length D.cells)[((i : Nat) : Int).toNat]? = _
    unfold readIn at hv
    rw [Int.toNat_natCast] at hv ⊢
    rw [hg i, List.take_length]
    cases hl2 : lastW (hitA (i : Int)) D.waits with
    | some x =>
      rw [hl2] at hv
      rw [List.getElem?_eq_getElem (show i < D.cells.length by rw [h.len]; exact hi)]
      exact hv
    | none => rw [hl2] at hv; exact hv

theorem plain_read {D : Dev} {L : Bytes} {b : Nat} (h : PlainOk D L b) {i : Nat} (hi : i < 20) : D.holds i (L.getD i 0) = true ∧ PlainOk (D.read i).2 L b := by
  have h1 := plain_has h (a := i) (by omega) (by omega)
  have e : D.read i = (((D.readAt i).2, (D.readAt i).1), D.count) := by unfold Dev.read; rw [h.dead, h1]
  refine ⟨?_, by rw [e]; exact h.count⟩
  unfold Dev.holds
  rw [e, h.val i hi]
  show (match (0 : Int) == 0 with | true => sect (L.getD i 0) == sect (L.getD i 0) | false => false) = true
  simp
end Go.Proofs.Ytolefphdldmlkaa.AL

/- The law DiskPlain, walked. -/
namespace Go.Proofs.Ytolefphdldmlkaa.AL
open Go Go.Proofs

abbrev plH (D : Dev) (L : Bytes) : List ABlk := [devC D 1 2, .row t_disk_cell 4 (cx D.cells), .row t_disk_write 2 (wx D.waits), .row 28 1 (bx L)]

theorem PlainOk.mono {D : Dev} {L : Bytes} {b : Nat} (h : PlainOk D L b) : PlainOk D L (b + 1) := ⟨h.ok.mono (Nat.le_succ _), h.len, h.dead, h.armed, h.pl, h.ll, h.val⟩
theorem plain_out {D : Dev} {L : Bytes} {b : Nat} (h : PlainOk D L b) {a : Int} (ha : ¬ (0 ≤ a ∧ a < 20)) (s : Bytes) : D.write a s = (3, D) := by
  have : D.has a = false := by
    unfold Dev.has; rw [h.len]
    cases h1 : (decide (a ≥ 0) && decide (a < ((20 : Nat) : Int))) with
    | false => rfl
    | true => rw [Bool.and_eq_true, decide_eq_true_eq, decide_eq_true_eq] at h1; omega
  unfold Dev.write; rw [h.dead, this]

set_option maxRecDepth 8000 in
theorem disk_plain (l : List Op06) : AF Try.prog f_law06_DiskPlain [.p (.sl 14 (opx l))] [] (Pure (bl true) []) := by
  refine af_body hT F_law06_DiskPlain rfl rfl N_law06_DiskPlain rfl ?_
  refine aw_seq (aw_region hT ?_)
  refine aw_seq (aw_region hT ?_)
  refine callP law06_awake ?_
  refine aw_seq (aw_seq (aw_region hT ?_))
  refine aw_cond (boolI (fun h => ?_) (fun h => ?_))
  · refine aw_seq (aw_region hT ?_)
    refine aw_ret ?_
    exact retPick [] ⟨rfl, rfl⟩ rfl
  have hn : l.length ≤ 60 := by
    have h : decide (((opx l).length : Int) > 60) = false := h
    have := of_decide_eq_false h
    rw [opx_len] at this; omega
  refine aw_skip ?_
  have n1 := disk_New 20 (by omega) (by omega)
  have p1 := plain_new
  generalize Dev.new 20 = D1 at n1 p1
  refine aw_seq (aw_region hT ?_)
  refine callP n1 ?_
  refine aw_seq (aw_region hT ?_)
  refine aw_wk (Wk.trans (wk_elr 6 3 1 rfl) (wk_arr 3 (List.replicate 20 (u8 0)) rfl rfl rfl)) ?_
  refine aw_cut2 (fun s1 => ∃ D L b, PlainOk D L b ∧ b ≤ 60 ∧ s1 = ⟨⟨91, [(4, .ref 0 0), (6, .elr 3 1 0 0)]⟩, plH D L⟩) (aw_seq (aw_region hT ?_)) ?_
  · refine aw_block ?_
    refine aw_loopW (fun n s => ∃ (i : Nat) (j : Int) (D : Dev) (L : Bytes), n + i = l.length ∧ j = i ∧ PlainOk D L i ∧ s = ⟨⟨91, [(0, .p (.sl 14 (opx l))), (4, .ref 0 0), (6, .elr 3 1 0 0), (7, i64 j)]⟩, plH D L⟩) l.length ⟨⟨91, _⟩, [_, _, _, _]⟩ (wk_pick [0, 1, 2, 3] [0, 4, 6, 7] rfl) ⟨0, 0, D1, List.replicate 20 0, rfl, rfl, p1, rfl⟩ ?_
    rintro n s ⟨i, j, D, L, hni, rfl, hp, rfl⟩
    refine aw_seq (aw_seq (aw_region hT ?_))
    refine aw_cond (boolI (fun h => ?_) (fun h => ?_))
    · have hi : i < l.length := by
        have := of_decide_eq_true (show decide ((i : Int) < ((opx l).length : Int)) = true from h)
        rw [opx_len] at this; omega
      have hx := List.getElem?_eq_getElem hi
      generalize l[i] = x at hx
      have hx : (opx l)[((i : Nat) : Int).toNat]? = some x.pv := by rw [Int.toNat_natCast]; exact opx_get hx
      have hD := hp.ok.big (show i ≤ 1000000 by omega)
      refine aw_skip ?_
      refine aw_cut2 (fun s1 => ∃ D L, PlainOk D L (i + 1) ∧ s1 = ⟨⟨91, [(0, .p (.sl 14 (opx l))), (4, .ref 0 0), (6, .elr 3 1 0 0), (7, i64 i)]⟩, plH D L⟩) (aw_block (aw_seq (aw_seq (aw_region hT ?_)))) ?_
      · refine ⟨Int.natCast_nonneg _, optI hx ?_⟩
        refine aw_cond (boolI (fun h2 => ?_) (fun h2 => ?_))
        · obtain ⟨f1, f2⟩ := plain_flush hp
          have w := disk_Flush D hD.1 hD.2.1
          rw [f1] at w
          refine aw_seq (aw_seq (aw_region hT ?_))
          refine callP (af_in [0, 1, 2] w rfl rfl rfl) ?_
          refine aw_cond ?_
          refine aw_skip ?_
          refine aw_exit ?_
          exact ⟨_, wk_pick [0, 4, 5, 3] [0, 4, 6, 7] rfl, _, _, f2.mono, rfl⟩
        · refine aw_skip ?_
          by_cases ha : 0 ≤ x.at_ ∧ x.at_ < 20
          · obtain ⟨f1, f2⟩ := plain_write hp ha.1 ha.2 x.b
            have w := disk_Write D x.at_ (sect x.b) hD.2.1
            rw [f1] at w
            refine aw_seq ?_
            refine aw_draw [12] [] hT follows_mixed (by rfl) ?_
            refine ⟨Int.natCast_nonneg _, optI hx ?_⟩
            refine ⟨Int.natCast_nonneg _, optI hx ?_⟩
            refine ⟨_, af_at (law06_Sector x.b) _ rfl rfl, ?_⟩
            refine ⟨_, _, af_in [0, 1, 2] w rfl rfl rfl, ?_⟩
            refine aw_wk (wk_pick [0, 4, 5, 3] [0, 4, 6, 7, 8] rfl) ?_
            refine aw_seq (aw_region hT ?_)
            refine ⟨Int.natCast_nonneg _, optI hx ?_⟩
            refine boolI (fun h3 => ?_) (fun h3 => ?_)
            · refine ⟨Int.natCast_nonneg _, optI hx ?_⟩
              refine aw_cond (boolI (fun h4 => ?_) (fun h4 => ?_))
              · refine aw_seq ?_
                refine aw_draw [11] [] hT follows_mixed (by rfl) ?_
                refine ⟨Int.natCast_nonneg _, optI hx ?_⟩
                refine ⟨Int.natCast_nonneg _, optI hx ?_⟩
                have hL : (bx L)[0 + x.at_.toNat]? = some [u8 (L[x.at_.toNat]'(by rw [hp.ll]; omega))] := by
                  rw [Nat.zero_add, bx, List.getElem?_map, List.getElem?_eq_getElem (by rw [hp.ll]; omega)]; rfl
                refine ⟨⟨ha.1, ha.2⟩, ?_⟩
                refine optI hL ?_
                refine chkI rfl (optI rfl ?_)
                refine aw_seq (aw_region hT ?_)
                refine aw_cond ?_
                refine aw_skip ?_
                refine ⟨_, wk_pick [0, 1, 2, 3] [0, 4, 6, 7] rfl, _, _, f2, ?_⟩
                refine congrArg (St.mk _) ?_
                unfold plH
                rw [bx_set, show (bx L).set x.at_.toNat [u8 x.b] = (bx L).set (0 + x.at_.toNat) [u8 x.b] by rw [Nat.zero_add]]
                rfl
              · have h4 : decide (x.at_ < 20) = false := h4
                have := of_decide_eq_false h4
                omega
            · have h3 : decide (x.at_ ≥ 0) = false := h3
              have := of_decide_eq_false h3
              omega
          · have w := disk_Write D x.at_ (sect x.b) hD.2.1
            rw [plain_out hp ha] at w
            refine aw_seq ?_
            refine aw_draw [12] [] hT follows_mixed (by rfl) ?_
            refine ⟨Int.natCast_nonneg _, optI hx ?_⟩
            refine ⟨Int.natCast_nonneg _, optI hx ?_⟩
            refine ⟨_, af_at (law06_Sector x.b) _ rfl rfl, ?_⟩
            refine ⟨_, _, af_in [0, 1, 2] w rfl rfl rfl, ?_⟩
            refine aw_wk (wk_pick [0, 4, 5, 3] [0, 4, 6, 7, 8] rfl) ?_
            refine aw_seq (aw_region hT ?_)
            refine ⟨Int.natCast_nonneg _, optI hx ?_⟩
            have fin : ∃ D' L', PlainOk D' L' (i + 1) ∧ (⟨⟨91, [(0, .p (.sl 14 (opx l))), (4, .ref 0 0), (6, .elr 3 1 0 0), (7, i64 i)]⟩, plH D L⟩ : St) = ⟨⟨91, [(0, .p (.sl 14 (opx l))), (4, .ref 0 0), (6, .elr 3 1 0 0), (7, i64 i)]⟩, plH D' L'⟩ := ⟨D, L, hp.mono, rfl⟩
            refine boolI (fun h3 => ?_) (fun h3 => ?_)
            · refine ⟨Int.natCast_nonneg _, optI hx ?_⟩
              refine aw_cond (boolI (fun h4 => ?_) (fun h4 => ?_))
              · have h4 : decide (x.at_ < 20) = true := h4
                have h3 : decide (x.at_ ≥ 0) = true := h3
                have := of_decide_eq_true h4
                have := of_decide_eq_true h3
                omega
              · refine aw_seq (aw_region hT ?_)
                refine aw_cond ?_
                refine aw_skip ?_
                exact ⟨_, wk_pick [0, 1, 2, 3] [0, 4, 6, 7] rfl, fin⟩
            · refine aw_cond ?_
              refine aw_seq (aw_region hT ?_)
              refine aw_cond ?_
              refine aw_skip ?_
              exact ⟨_, wk_pick [0, 1, 2, 3] [0, 4, 6, 7] rfl, fin⟩
      · rintro _ ⟨D, L, hp, rfl⟩
        refine aw_region hT ?_
        refine ⟨n - 1, by omega, _, wk_pick [0, 1, 2, 3] [0, 4, 6, 7] rfl, i + 1, IntKind.i64.wrap ((i : Int) + 1), D, L, by omega, ?_, hp, rfl⟩
        rw [wrap64 _ (by omega) (by omega)]; rfl
    · refine aw_exit ?_
      refine ⟨_, wk_pick [0, 1, 2, 3] [4, 6] rfl, D, L, i, hp, by omega, rfl⟩
  · rintro _ ⟨D, L, b, hp, hb, rfl⟩
    refine aw_seq (aw_seq (aw_region hT ?_))
    refine aw_block ?_
    refine aw_loopW (fun n s => ∃ (i : Nat) (j : Int) (D : Dev), n + i = 20 ∧ j = i ∧ PlainOk D L b ∧ s = ⟨⟨91, [(4, .ref 0 0), (6, .elr 3 1 0 0), (9, i64 j)]⟩, plH D L⟩) 20 ⟨⟨91, _⟩, [_, _, _, _]⟩ (wk_pick [0, 1, 2, 3] [4, 6, 9] rfl) ⟨0, 0, D, rfl, rfl, hp, rfl⟩ ?_
    rintro n s ⟨i, j, D, hni, rfl, hp, rfl⟩
    refine aw_seq (aw_seq (aw_region hT ?_))
    refine aw_cond (boolI (fun h => ?_) (fun h => ?_))
    · have hi : i < 20 := by
        have := of_decide_eq_true (show decide ((i : Int) < 20) = true from h)
        omega
      obtain ⟨f1, f2⟩ := plain_read hp hi
      have hL : (bx L)[0 + ((i : Nat) : Int).toNat]? = some [u8 (L.getD i 0)] := by
        rw [Nat.zero_add, Int.toNat_natCast, bx, List.getElem?_map, List.getD_eq_getElem?_getD, List.getElem?_eq_getElem (by rw [hp.ll]; omega)]; rfl
      have w := law06_has D i (L.getD i 0) b hp.ok (by omega)
      rw [f1] at w
      refine aw_skip ?_
      refine aw_seq (aw_block (aw_seq (aw_region hT ?_)))
      refine ⟨⟨Int.natCast_nonneg _, by omega⟩, ?_⟩
      refine optI hL ?_
      refine callP (af_in [0, 1, 2] w rfl rfl rfl) ?_
      refine aw_cond ?_
      refine aw_skip ?_
      refine aw_region hT ?_
      refine ⟨n - 1, by omega, _, wk_pick [0, 1, 2, 3] [4, 6, 9] rfl, i + 1, IntKind.i64.wrap ((i : Int) + 1), (D.read i).2, by omega, ?_, f2, rfl⟩
      rw [wrap64 _ (by omega) (by omega)]; rfl
    · refine aw_exit ?_
      refine aw_seq (aw_region hT ?_)
      refine aw_ret ?_
      exact retPick [] ⟨rfl, rfl⟩ rfl
end Go.Proofs.Ytolefphdldmlkaa.AL

/- The law of layer 06: a call. -/
namespace Go.Proofs.Ytolefphdldmlkaa.AL
open Go Go.Proofs

abbrev Op06.av (x : Op06) : AV := .agg [i64 x.kind, i64 x.at_, .p (u8 x.b), bl x.short, i64 x.f.kind, i64 x.f.at_, i64 x.f.off, i64 x.f.n, i64 x.f.to, .p (u8 x.f.m0), .p (u8 x.f.m1), .p (u8 x.f.m2), .p (u8 x.f.m3), .p (.sl 1 (kx x.keep))]
def Op06.sec (x : Op06) : Bytes := match x.short with | true => (sect x.b).drop 1 | false => sect x.b
def Dev.does (D : Dev) (x : Op06) : Int × Dev :=
  match x.kind == 0 with
  | true => D.write x.at_ x.sec
  | false => match x.kind == 1 with
    | true => D.flush
    | false => match x.kind == 2 with
      | true => D.fault x.f
      | false => match x.kind == 3 with
        | true => (0, D.arm x.at_)
        | false => match x.kind == 4 with
          | true => (0, D.crashed x.keep)
          | false => (0, D)

theorem Dev.Ok.does {D : Dev} {b : Nat} (h : D.Ok b) (x : Op06) : (D.does x).2.Ok (b + 1) := by
  unfold Dev.does
  split
  · exact h.write _ _
  split
  · exact h.flush.mono (Nat.le_succ _)
  split
  · exact h.fault _
  split
  · exact (h.arm _).mono (Nat.le_succ _)
  split
  · exact (h.crashed _).mono (Nat.le_succ _)
  · exact h.mono (Nat.le_succ _)

theorem law06_Does (D : Dev) (x : Op06) (b : Nat) (hD : D.Ok b) (hb : b ≤ 1000000) : AFm Try.prog 1 f_law06_Does [.ref 0 0, x.av] (devH D) (Pure (i64 (D.does x).1) (devH (D.does x).2)) := by
  have big := hD.big hb
  refine af_bodyM 1 hT F_law06_Does rfl rfl N_law06_Does rfl rfl ?_
  refine aw_seq (aw_region hT ?_)
  refine aw_wk (wk_boxL 3 x.pv rfl rfl) ?_
  refine aw_seq (aw_region hT ?_)
  refine callP (af_at (law06_Sector x.b) _ rfl rfl) ?_
  refine aw_cut ⟨⟨44, [(0, .ref 0 0), (3, .p (.box x.pv)), (5, bA x.sec)]⟩, devH D⟩ True (aw_seq (aw_region hT ?_)) (fun _ => ?_)
  · refine aw_cond (boolI (fun h => ?_) (fun h => ?_))
    · have h : x.short = true := h
      refine aw_region hT ?_
      refine ⟨⟨by omega, by rw [bx_len, sect_len]; decide, Int.le_refl _⟩, ?_⟩
      have e : bx x.sec = ((bx (sect x.b)).take ((bx (sect x.b)).length : Int).toNat).drop (1 : Int).toNat := by
        unfold Op06.sec; rw [h, Int.toNat_natCast, List.take_length]
        show bx ((sect x.b).drop 1) = (bx (sect x.b)).drop 1
        rw [bx, bx, List.map_drop]
      show Wk _ _ ⟨⟨44, [(0, .ref 0 0), (3, .p (.box x.pv)), (5, .p (.sl 1 (bx x.sec)))]⟩, devH D⟩ ∧ True
      rw [e]
      exact ⟨wk_pick [0, 1, 2] [0, 3, 5] rfl, trivial⟩
    · have h : x.short = false := h
      have e : x.sec = sect x.b := by unfold Op06.sec; rw [h]
      rw [e]
      exact aw_skip ⟨wk_pick [0, 1, 2] [0, 3, 5] rfl, trivial⟩
  refine aw_cut2 (fun s1 => ∃ D2, D.does x = (0, D2) ∧ s1 = ⟨⟨44, []⟩, devH D2⟩) (aw_seq (aw_region hT ?_)) ?_
  · refine aw_block (aw_seq (aw_region hT ?_))
    refine aw_cond (boolI (fun h0 => ?_) (fun h0 => ?_))
    · have e : D.does x = D.write x.at_ x.sec := by unfold Dev.does; rw [show (x.kind == 0) = true from h0]
      refine aw_seq (aw_region hT ?_)
      refine callP (af_in [0, 1, 2] (disk_Write D x.at_ x.sec big.2.1) rfl rfl rfl) ?_
      refine aw_ret ?_
      rw [e]
      exact retPick [0, 3, 4] ⟨rfl, rfl⟩ rfl
    refine aw_seq (aw_region hT ?_)
    refine aw_cond (boolI (fun h1 => ?_) (fun h1 => ?_))
    · have e : D.does x = D.flush := by unfold Dev.does; rw [show (x.kind == 0) = false from h0, show (x.kind == 1) = true from h1]
      refine aw_seq (aw_region hT ?_)
      refine callP (af_in [0, 1, 2] (disk_Flush D big.1 big.2.1) rfl rfl rfl) ?_
      refine aw_ret ?_
      rw [e]
      exact retPick [0, 3, 4] ⟨rfl, rfl⟩ rfl
    refine aw_seq (aw_region hT ?_)
    refine aw_cond (boolI (fun h2 => ?_) (fun h2 => ?_))
    · have e : D.does x = D.fault x.f := by unfold Dev.does; rw [show (x.kind == 0) = false from h0, show (x.kind == 1) = false from h1, show (x.kind == 2) = true from h2]
      refine aw_seq (aw_region hT ?_)
      refine callP (af_in [0, 1, 2] (disk_Fault D x.f b hD hb) rfl rfl rfl) ?_
      refine aw_ret ?_
      rw [e]
      exact retPick [0, 1, 2] ⟨rfl, rfl⟩ rfl
    refine aw_seq (aw_region hT ?_)
    refine aw_cond (boolI (fun h3 => ?_) (fun h3 => ?_))
    · have e : D.does x = (0, D.arm x.at_) := by unfold Dev.does; rw [show (x.kind == 0) = false from h0, show (x.kind == 1) = false from h1, show (x.kind == 2) = false from h2, show (x.kind == 3) = true from h3]
      refine aw_region hT ?_
      refine callP (af_in [0, 1, 2] (disk_Arm D x.at_) rfl rfl rfl) ?_
      exact ⟨_, wk_pick [0, 1, 2] [] rfl, _, e, rfl⟩
    refine aw_seq (aw_region hT ?_)
    refine aw_cond (boolI (fun h4 => ?_) (fun h4 => ?_))
    · have e : D.does x = (0, D.crashed x.keep) := by unfold Dev.does; rw [show (x.kind == 0) = false from h0, show (x.kind == 1) = false from h1, show (x.kind == 2) = false from h2, show (x.kind == 3) = false from h3, show (x.kind == 4) = true from h4]
      refine aw_region hT ?_
      refine callP (af_in [0, 1, 2] (disk_Crash D x.keep big.1 big.2.1) rfl rfl rfl) ?_
      exact ⟨_, wk_pick [0, 3, 4] [] rfl, _, e, rfl⟩
    · have e : D.does x = (0, D) := by unfold Dev.does; rw [show (x.kind == 0) = false from h0, show (x.kind == 1) = false from h1, show (x.kind == 2) = false from h2, show (x.kind == 3) = false from h3, show (x.kind == 4) = false from h4]
      refine aw_skip ?_
      exact ⟨_, wk_pick [0, 1, 2] [] rfl, _, e, rfl⟩
  · rintro _ ⟨D2, e, rfl⟩
    refine aw_seq (aw_region hT ?_)
    refine aw_ret ?_
    rw [e]
    exact retPick [0, 1, 2] ⟨rfl, rfl⟩ rfl
end Go.Proofs.Ytolefphdldmlkaa.AL

/- The document's device (ref06), over the same plain value; its small functions. -/
namespace Go.Proofs.Ytolefphdldmlkaa.AL
open Go Go.Proofs

def sx (C : List Cell) : List (List PV) := C.map fun c => [bP c.s]
def lx (C : List Cell) : List (List PV) := C.map fun c => [.raw (.bool c.lost)]
def dx (C : List Cell) : List (List PV) := C.map fun c => [.raw (.int .i64 c.drop)]
def mx (C : List Cell) : List (List PV) := C.map fun c => [iP c.miss]
theorem sx_len (C : List Cell) : (sx C).length = C.length := by simp [sx]
theorem lx_len (C : List Cell) : (lx C).length = C.length := by simp [lx]
theorem dx_len (C : List Cell) : (dx C).length = C.length := by simp [dx]
theorem mx_len (C : List Cell) : (mx C).length = C.length := by simp [mx]
theorem map_get {C : List Cell} {i : Nat} {c : Cell} (g : Cell → List PV) (h : C[i]? = some c) : (C.map g)[i]? = some (g c) := by rw [List.getElem?_map, h]; rfl
/-- A cell is changed, of which this part stays. -/
theorem map_set_same {C : List Cell} {i : Nat} {c c' : Cell} (g : Cell → List PV) (h : C[i]? = some c) (hg : g c' = g c) : (C.set i c').map g = C.map g := by
  apply List.ext_getElem?
  intro j
  rw [List.map_set, List.getElem?_set]
  by_cases e : i = j
  · subst e
    have hlt := (List.getElem?_eq_some_iff.1 h).1
    rw [if_pos rfl, if_pos (by simpa using hlt), List.getElem?_map, h, hg]; rfl
  · rw [if_neg e]

abbrev refC (R : Dev) (b1 b2 b3 b4 b5 : Nat) : ABlk := .cells t_ref06_Disk [.msl b1 1 0 R.cells.length, .msl b2 1 0 R.cells.length, .msl b3 2 0 R.waits.length, .msl b4 1 0 R.cells.length, .msl b5 1 0 R.cells.length, bl R.armed, bl R.dead, i64 R.left, i64 R.ops]
abbrev refH (R : Dev) : List ABlk := [refC R 1 2 3 4 5, .row 37 1 (sx R.cells), .row 4 1 (lx R.cells), .row t_ref06_Wait 2 (wx R.waits), .row 3 1 (dx R.cells), .row 60 1 (mx R.cells)]

def Dev.dies (R : Dev) : Bool × Dev := match R.armed && (R.left == 0) with
  | true => (true, { R with dead := true })
  | false => (false, { R with left := IntKind.i64.wrap (R.left - 1) })

theorem ref_dies (R : Dev) : AFm Try.prog 6 f_ref06_Disk_dies [.ref 0 0] (refH R) (Pure (bl R.dies.1) (refH R.dies.2)) := by
  refine af_bodyM 6 hT F_ref06_Disk_dies rfl rfl N_ref06_Disk_dies rfl rfl ?_
  refine aw_seq (aw_region hT ?_)
  refine aw_seq (aw_seq (aw_region hT ?_))
  have no : (R.armed && (R.left == 0)) = false → R.dies = (false, { R with left := IntKind.i64.wrap (R.left - 1) }) := fun h => by unfold Dev.dies; rw [h]
  refine boolI (fun h => ?_) (fun h => ?_)
  · have h : R.armed = true := h
    refine aw_cond (boolI (fun h2 => ?_) (fun h2 => ?_))
    · have h2 : (R.left == 0) = true := h2
      have e : R.dies = (true, { R with dead := true }) := by unfold Dev.dies; rw [h, h2]; rfl
      refine aw_seq (aw_region hT ?_)
      refine aw_seq (aw_region hT ?_)
      refine aw_ret ?_
      rw [e]
      exact retPick [0, 1, 2, 3, 4, 5] ⟨rfl, rfl⟩ rfl
    · have h2 : (R.left == 0) = false := h2
      have e := no (by rw [h, h2]; rfl)
      refine aw_skip ?_
      refine aw_seq (aw_region hT ?_)
      refine aw_seq (aw_region hT ?_)
      refine aw_ret ?_
      rw [e]
      exact retPick [0, 1, 2, 3, 4, 5] ⟨rfl, rfl⟩ rfl
  · have h : R.armed = false := h
    have e := no (by rw [h]; rfl)
    refine aw_cond ?_
    refine aw_skip ?_
    refine aw_seq (aw_region hT ?_)
    refine aw_seq (aw_region hT ?_)
    refine aw_ret ?_
    rw [e]
    exact retPick [0, 1, 2, 3, 4, 5] ⟨rfl, rfl⟩ rfl

theorem refH_done (R : Dev) (x : Wr) {c : Cell} (hc : R.cells[x.at_.toNat]? = some c) : refH (R.done x) = [refC R 1 2 3 4 5, .row 37 1 ((sx R.cells).set (0 + x.at_.toNat) [bP x.s]), .row 4 1 ((lx R.cells).set (0 + x.at_.toNat) [.raw (.bool false)]), .row t_ref06_Wait 2 (wx R.waits), .row 3 1 (dx R.cells), .row 60 1 (mx R.cells)] := by
  have e : (R.done x).cells = R.cells.set x.at_.toNat { c with s := x.s, lost := false } := doneL_some hc
  unfold refH refC
  rw [e, List.length_set, Nat.zero_add]
  have h1 : sx (R.cells.set x.at_.toNat { c with s := x.s, lost := false }) = (sx R.cells).set x.at_.toNat [bP x.s] := by simp [sx, List.map_set]
  have h2 : lx (R.cells.set x.at_.toNat { c with s := x.s, lost := false }) = (lx R.cells).set x.at_.toNat [.raw (.bool false)] := by simp [lx, List.map_set]
  have h3 : dx (R.cells.set x.at_.toNat { c with s := x.s, lost := false }) = dx R.cells := map_set_same _ hc rfl
  have h4 : mx (R.cells.set x.at_.toNat { c with s := x.s, lost := false }) = mx R.cells := map_set_same _ hc rfl
  rw [h1, h2, h3, h4]
  rfl

theorem ref_does (R : Dev) (x : Wr) (h0 : 0 ≤ x.at_) (h1 : x.at_.toNat < R.cells.length) : AFm Try.prog 6 f_ref06_Disk_does [.ref 0 0, .agg [i64 x.at_, bA x.s]] (refH R) (Pure (.tup []) (refH (R.done x))) := by
  have hc := List.getElem?_eq_getElem h1
  generalize R.cells[x.at_.toNat] = c at hc
  have g1 : (sx R.cells)[0 + x.at_.toNat]? = some [bP c.s] := by rw [Nat.zero_add]; exact map_get _ hc
  have g2 : (lx R.cells)[0 + x.at_.toNat]? = some [.raw (.bool c.lost)] := by rw [Nat.zero_add]; exact map_get _ hc
  refine af_bodyM 6 hT F_ref06_Disk_does rfl rfl N_ref06_Disk_does rfl rfl ?_
  refine aw_seq (aw_region hT ?_)
  refine aw_wk (wk_boxL 6 [.raw (.int .i64 x.at_), bP x.s] rfl rfl) ?_
  refine aw_seq ?_
  refine aw_draw [9] [] hT follows_mixed (by rfl) ?_
  refine ⟨⟨h0, by omega⟩, ?_⟩
  refine optI g1 ?_
  refine aw_draw [7] [] hT follows_mixed (by rfl) ?_
  refine ⟨⟨h0, by omega⟩, ?_⟩
  refine optI g2 ?_
  exact retPick [0, 1, 2, 3, 4, 5] ⟨rfl, (refH_done R x hc).symm⟩ rfl
end Go.Proofs.Ytolefphdldmlkaa.AL

/- The document's device: a flush, a crash. -/
namespace Go.Proofs.Ytolefphdldmlkaa.AL
open Go Go.Proofs

def Dev.rflush (R : Dev) : Int × Dev := match R.dead with
  | true => (21, R)
  | false => match R.dies.1 with
    | true => (21, R.dies.2)
    | false => (0, R.dies.2.drain [true])

theorem dies_same (R : Dev) : R.dies.2.cells = R.cells ∧ R.dies.2.waits = R.waits := by
  unfold Dev.dies; split <;> exact ⟨rfl, rfl⟩
theorem crashC_yes {W : List Wr} {keep : List Bool} {C : List Cell} {i : Nat} {x : Wr} (hk : kept keep i = true) (hx : W[i]? = some x) : crashC W keep (i + 1) C = doneL (crashC W keep i C) x := by
  have hxd : W.getD i ⟨0, []⟩ = x := by rw [List.getD_eq_getElem?_getD, hx]; rfl
  conv => lhs; unfold crashC
  rw [hk, hxd]
theorem crashC_no {W : List Wr} {keep : List Bool} {C : List Cell} {i : Nat} (hk : kept keep i = false) : crashC W keep (i + 1) C = crashC W keep i C := by
  conv => lhs; unfold crashC
  rw [hk]

theorem ref_Flush (R : Dev) (hw : R.waitsIn) (hn : R.waits.length ≤ 1000000) : AFm Try.prog 1 f_ref06_Disk_Flush [.ref 0 0] (refH R) (Pure (i64 R.rflush.1) (refH R.rflush.2)) := by
  refine af_bodyM 1 hT F_ref06_Disk_Flush rfl rfl N_ref06_Disk_Flush rfl rfl ?_
  refine aw_seq (aw_region hT ?_)
  refine aw_cut ⟨⟨33, [(0, .ref 0 0)]⟩, refH R.dies.2⟩ (R.dead = false ∧ R.dies.1 = false) (aw_seq (aw_region hT ?_)) ?_
  · refine boolI (fun h => ?_) (fun h => ?_)
    · have h : R.dead = true := h
      have e : R.rflush = (21, R) := by unfold Dev.rflush; rw [h]
      refine aw_cond ?_
      refine aw_seq (aw_region hT ?_)
      refine aw_ret ?_
      rw [e]
      exact retPick [0, 1, 2, 3, 4, 5] ⟨rfl, rfl⟩ rfl
    · have h : R.dead = false := h
      refine callP (af_in [0, 1, 2, 3, 4, 5] (ref_dies R) rfl rfl rfl) ?_
      refine aw_cond (boolI (fun h2 => ?_) (fun h2 => ?_))
      · have h2 : R.dies.1 = true := h2
        have e : R.rflush = (21, R.dies.2) := by unfold Dev.rflush; rw [h, h2]
        refine aw_seq (aw_region hT ?_)
        refine aw_ret ?_
        rw [e]
        exact retPick [0, 1, 2, 3, 4, 5] ⟨rfl, rfl⟩ rfl
      · exact aw_skip ⟨wk_pick [0, 1, 2, 3, 4, 5] [0] rfl, h, h2⟩
  rintro ⟨h, h2⟩
  have e : R.rflush = (0, R.dies.2.drain [true]) := by unfold Dev.rflush; rw [h, h2]
  rw [e]
  have hwE : R.dies.2.waitsIn := by
    unfold Dev.waitsIn; rw [(dies_same R).1, (dies_same R).2]; exact hw
  have hnE : R.dies.2.waits.length ≤ 1000000 := by rw [(dies_same R).2]; exact hn
  generalize R.dies.2 = E at hwE hnE
  refine aw_cut ⟨⟨33, [(0, .ref 0 0)]⟩, refH { E with cells := crashC E.waits [true] E.waits.length E.cells }⟩ True (aw_seq (aw_region hT ?_)) (fun _ => ?_)
  · refine aw_block ?_
    refine aw_loopW (fun n s => ∃ (i : Nat) (j : Int) (C : List Cell), n + i = E.waits.length ∧ j = i ∧ C = crashC E.waits [true] i E.cells ∧ s = ⟨⟨33, [(0, .ref 0 0), (3, i64 j)]⟩, refH { E with cells := C }⟩) E.waits.length ⟨⟨33, _⟩, [_, _, _, _, _, _]⟩ (wk_pick [0, 1, 2, 3, 4, 5] [0, 3] rfl) ⟨0, 0, _, by omega, rfl, rfl, rfl⟩ ?_
    rintro n s ⟨i, j, C, hni, rfl, hC, rfl⟩
    refine aw_seq (aw_seq (aw_region hT ?_))
    refine aw_cond (boolI (fun h => ?_) (fun h => ?_))
    · have hi : i < E.waits.length := by
        have := of_decide_eq_true (show decide ((i : Int) < (E.waits.length : Int)) = true from h)
        omega
      have hx := List.getElem?_eq_getElem hi
      have hin := hwE _ (List.getElem_mem hi)
      generalize E.waits[i] = x at hx hin
      have hCl : C.length = E.cells.length := by rw [hC, crashC_len]
      refine aw_skip ?_
      refine aw_seq (aw_block (aw_region hT ?_))
      refine ⟨⟨Int.natCast_nonneg _, of_decide_eq_true h⟩, ?_⟩
      refine optI (show (wx E.waits)[0 + ((i : Nat) : Int).toNat]? = some x.pv by rw [Nat.zero_add, Int.toNat_natCast]; exact wx_get hx) ?_
      refine callP (af_in [0, 1, 2, 3, 4, 5] (ref_does { E with cells := C } x hin.1 (by show x.at_.toNat < C.length; omega)) rfl rfl rfl) ?_
      refine aw_region hT ?_
      refine ⟨n - 1, by omega, _, wk_pick [0, 1, 2, 3, 4, 5] [0, 3] rfl, i + 1, IntKind.i64.wrap ((i : Int) + 1), doneL C x, by omega, ?_, ?_, rfl⟩
      · rw [wrap64 _ (by omega) (by omega)]; rfl
      · rw [crashC_yes (kept_all i) hx, ← hC]
    · have hi : i = E.waits.length := by
        have : ¬ ((i : Int) < (E.waits.length : Int)) := of_decide_eq_false h
        omega
      refine aw_exit ?_
      subst hi
      rw [← hC]
      exact ⟨wk_pick [0, 1, 2, 3, 4, 5] [0] rfl, trivial⟩
  · refine aw_seq (aw_region hT ?_)
    refine aw_seq (aw_region hT ?_)
    refine aw_wk (Wk.trans (wk_phantom t_ref06_Wait 2) (wk_cells 0 [.msl 1 1 0 (crashC E.waits [true] E.waits.length E.cells).length, .msl 2 1 0 (crashC E.waits [true] E.waits.length E.cells).length, .msl 6 2 0 0, .msl 4 1 0 (crashC E.waits [true] E.waits.length E.cells).length, .msl 5 1 0 (crashC E.waits [true] E.waits.length E.cells).length, bl E.armed, bl E.dead, i64 E.left, i64 E.ops] rfl ⟨.inl rfl, .inl rfl, .inr (.inr (.inl ⟨6, 2, 0, rfl, rfl⟩)), .inl rfl, .inl rfl, .inl rfl, .inl rfl, .inl rfl, .inl rfl, trivial⟩)) ?_
    refine aw_ret ?_
    exact retPick [0, 1, 2, 6, 4, 5] ⟨rfl, rfl⟩ rfl

theorem ref_Crash (R : Dev) (keep : List Bool) (hw : R.waitsIn) (hn : R.waits.length ≤ 1000000) : AFm Try.prog 1 f_ref06_Disk_Crash [.ref 0 0, .p (.sl 1 (kx keep))] (refH R) (Pure (.tup []) (refH (R.crashed keep))) := by
  refine af_bodyM 1 hT F_ref06_Disk_Crash rfl rfl N_ref06_Disk_Crash rfl rfl ?_
  refine aw_cut ⟨⟨44, [(0, .ref 0 0)]⟩, refH { R with cells := crashC R.waits keep R.waits.length R.cells }⟩ True (aw_seq (aw_region hT ?_)) (fun _ => ?_)
  · refine aw_block ?_
    refine aw_loopW (fun n s => ∃ (i : Nat) (j : Int) (C : List Cell), n + i = R.waits.length ∧ j = i ∧ C = crashC R.waits keep i R.cells ∧ s = ⟨⟨44, [(0, .ref 0 0), (1, .p (.sl 1 (kx keep))), (4, i64 j)]⟩, refH { R with cells := C }⟩) R.waits.length ⟨⟨44, _⟩, [_, _, _, _, _, _]⟩ (wk_pick [0, 1, 2, 3, 4, 5] [0, 1, 4] rfl) ⟨0, 0, _, by omega, rfl, rfl, rfl⟩ ?_
    rintro n s ⟨i, j, C, hni, rfl, hC, rfl⟩
    refine aw_seq (aw_seq (aw_region hT ?_))
    refine aw_cond (boolI (fun h => ?_) (fun h => ?_))
    · have hi : i < R.waits.length := by
        have := of_decide_eq_true (show decide ((i : Int) < (R.waits.length : Int)) = true from h)
        omega
      have hx := List.getElem?_eq_getElem hi
      have hin := hw _ (List.getElem_mem hi)
      generalize R.waits[i] = x at hx hin
      have hCl : C.length = R.cells.length := by rw [hC, crashC_len]
      refine aw_skip ?_
      refine aw_cut ⟨⟨44, [(0, .ref 0 0), (1, .p (.sl 1 (kx keep))), (4, i64 i)]⟩, refH { R with cells := crashC R.waits keep (i + 1) R.cells }⟩ True (aw_block (aw_seq (aw_region hT ?_))) (fun _ => ?_)
      · refine boolI (fun h1 => ?_) (fun h1 => ?_)
        · have h1' : 0 < keep.length := by
            have : ((kx keep).length : Int) > 0 := of_decide_eq_true h1
            rw [kx_len] at this; omega
          have e1 : ((i : Int).tmod ((kx keep).length : Int)) = ((i % keep.length : Nat) : Int) := by
            rw [kx_len, Int.tmod_eq_emod_of_nonneg (Int.natCast_nonneg _)]; exact (Int.natCast_emod i keep.length).symm
          have hlt : i % keep.length < keep.length := Nat.mod_lt _ h1'
          have hk := List.getElem?_eq_getElem hlt
          generalize keep[i % keep.length] = b at hk
          have hkept : kept keep i = b := by
            unfold kept; rw [List.getD_eq_getElem?_getD, hk, decide_eq_true h1']; rfl
          refine chkI (b := decide (((kx keep).length : Int) ≠ 0)) (decide_eq_true (by rw [kx_len]; omega)) ?_
          refine ⟨by rw [e1]; omega, optI (show (kx keep)[((i : Int).tmod ((kx keep).length : Int)).toNat]? = some [.raw (.bool b)] by
            rw [e1, Int.toNat_natCast, kx, List.getElem?_map, hk]; rfl) ?_⟩
          refine aw_cond (boolI (fun hb => ?_) (fun hb => ?_))
          · refine aw_region hT ?_
            refine ⟨⟨Int.natCast_nonneg _, of_decide_eq_true h⟩, ?_⟩
            refine optI (show (wx R.waits)[0 + ((i : Nat) : Int).toNat]? = some x.pv by rw [Nat.zero_add, Int.toNat_natCast]; exact wx_get hx) ?_
            refine callP (af_in [0, 1, 2, 3, 4, 5] (ref_does { R with cells := C } x hin.1 (by show x.at_.toNat < C.length; omega)) rfl rfl rfl) ?_
            rw [crashC_yes (hkept.trans hb) hx, ← hC]
            exact ⟨wk_pick [0, 1, 2, 3, 4, 5] [0, 1, 4] rfl, trivial⟩
          · refine aw_skip ?_
            rw [crashC_no (hkept.trans hb), ← hC]
            exact ⟨wk_pick [0, 1, 2, 3, 4, 5] [0, 1, 4] rfl, trivial⟩
        · have hk : kept keep i = false := by
            have : ¬ ((kx keep).length : Int) > 0 := of_decide_eq_false h1
            rw [kx_len] at this
            unfold kept; rw [decide_eq_false (by omega)]; rfl
          refine aw_cond ?_
          refine aw_skip ?_
          rw [crashC_no hk, ← hC]
          exact ⟨wk_pick [0, 1, 2, 3, 4, 5] [0, 1, 4] rfl, trivial⟩
      · refine aw_region hT ?_
        refine ⟨n - 1, by omega, _, wk_pick [0, 1, 2, 3, 4, 5] [0, 1, 4] rfl, i + 1, IntKind.i64.wrap ((i : Int) + 1), crashC R.waits keep (i + 1) R.cells, by omega, ?_, rfl, rfl⟩
        rw [wrap64 _ (by omega) (by omega)]; rfl
    · have hi : i = R.waits.length := by
        have : ¬ ((i : Int) < (R.waits.length : Int)) := of_decide_eq_false h
        omega
      refine aw_exit ?_
      subst hi
      rw [← hC]
      exact ⟨wk_pick [0, 1, 2, 3, 4, 5] [0] rfl, trivial⟩
  · refine aw_seq (aw_region hT ?_)
    refine aw_seq (aw_region hT ?_)
    refine aw_region hT ?_
    exact ⟨_, _, Wk.trans (wk_phantom t_ref06_Wait 2) (Wk.trans (wk_cells 0 [.msl 1 1 0 (crashC R.waits keep R.waits.length R.cells).length, .msl 2 1 0 (crashC R.waits keep R.waits.length R.cells).length, .msl 6 2 0 0, .msl 4 1 0 (crashC R.waits keep R.waits.length R.cells).length, .msl 5 1 0 (crashC R.waits keep R.waits.length R.cells).length, bl false, bl false, i64 R.left, i64 R.ops] rfl ⟨.inl rfl, .inl rfl, .inr (.inr (.inl ⟨6, 2, 0, rfl, rfl⟩)), .inl rfl, .inl rfl, .inl rfl, .inl rfl, .inl rfl, .inl rfl, trivial⟩) (wk_pick [0, 1, 2, 6, 4, 5] [0] rfl)), rfl, rfl⟩
end Go.Proofs.Ytolefphdldmlkaa.AL

/- The law DiskKeeps, as plain lists. -/
namespace Go.Proofs.Ytolefphdldmlkaa.AL
open Go Go.Proofs

structure KeepOk (D : Dev) (a : Int) (v : UInt8) (b : Nat) : Prop where
  ok : D.Ok b
  a0 : 0 ≤ a
  len : D.cells.length = 20
  cell : ∃ c, D.cells[a.toNat]? = some c ∧ c.s = sect v ∧ c.lost = false
  ws : ∀ x ∈ D.waits, x.at_ ≠ a
  ms : ∀ c ∈ D.cells, ∀ t ∈ c.miss, t ≠ a

theorem doneL_ne {C : List Cell} {x : Wr} {a : Int} (h0 : 0 ≤ x.at_) (ha : 0 ≤ a) (h : x.at_ ≠ a) : (doneL C x)[a.toNat]? = C[a.toNat]? := by
  unfold doneL; split
  · rw [List.getElem?_set_ne (by omega)]
  · rfl
theorem crashC_ne {W : List Wr} {keep : List Bool} {C : List Cell} {a : Int} (ha : 0 ≤ a) (h0 : ∀ x ∈ W, 0 ≤ x.at_) (h : ∀ x ∈ W, x.at_ ≠ a) : ∀ i, i ≤ W.length → (crashC W keep i C)[a.toNat]? = C[a.toNat]?
  | 0, _ => rfl
  | i + 1, hi => by
    have ih := crashC_ne (keep := keep) (C := C) ha h0 h i (by omega)
    unfold crashC
    split
    · have hx : W.getD i ⟨0, []⟩ ∈ W := by
        rw [List.getD_eq_getElem?_getD, List.getElem?_eq_getElem (by omega)]
        exact List.getElem_mem _
      rw [doneL_ne (h0 _ hx) ha (h _ hx)]; exact ih
    · exact ih
theorem settleC_ne {W : List Wr} {a p : Int} (ha : 0 ≤ a) (hp : p ≠ a) : ∀ {C : List Cell}, (∀ x ∈ W, 0 ≤ x.at_) → (settleC p W C)[a.toNat]? = C[a.toNat]? := by
  induction W with
  | nil => intro C _; rfl
  | cons x r ih =>
    intro C h0
    show (settleC p r (match hitA p x with | true => doneL C x | false => C))[a.toNat]? = _
    rw [ih fun y hy => h0 y (by simp [hy])]
    split
    · rename_i hh
      have : x.at_ = p := by simpa using hh
      exact doneL_ne (h0 x (by simp)) ha (by rw [this]; exact hp)
    · rfl

theorem KeepOk.lives {D : Dev} {a : Int} {v : UInt8} {b : Nat} (h : KeepOk D a v b) : KeepOk D.lives a v b := ⟨h.ok.lives, h.a0, h.len, h.cell, h.ws, h.ms⟩
theorem KeepOk.count {D : Dev} {a : Int} {v : UInt8} {b : Nat} (h : KeepOk D a v b) : KeepOk D.count a v b := ⟨h.ok.count, h.a0, h.len, h.cell, h.ws, h.ms⟩
theorem KeepOk.arm {D : Dev} {a : Int} {v : UInt8} {b : Nat} (h : KeepOk D a v b) (n : Int) : KeepOk (D.arm n) a v b := ⟨h.ok.arm n, h.a0, h.len, h.cell, h.ws, h.ms⟩
theorem KeepOk.mono {D : Dev} {a : Int} {v : UInt8} {b : Nat} (h : KeepOk D a v b) : KeepOk D a v (b + 1) := ⟨h.ok.mono (Nat.le_succ _), h.a0, h.len, h.cell, h.ws, h.ms⟩

theorem KeepOk.drain {D : Dev} {a : Int} {v : UInt8} {b : Nat} (h : KeepOk D a v b) (keep : List Bool) : KeepOk (D.drain keep) a v b := by
  refine ⟨h.ok.drain keep, h.a0, (crashC_len _ _ _ _).trans h.len, ?_, fun x hx => by simp [Dev.drain] at hx, fun c hc t ht => ?_⟩
  · obtain ⟨c, h1, h2⟩ := h.cell
    exact ⟨c, (crashC_ne h.a0 (fun x hx => (h.ok.at_ x hx).1) h.ws _ (Nat.le_refl _)).trans h1, h2⟩
  · obtain ⟨c0, h0, h1, _⟩ := crashC_mem hc (Nat.le_refl _)
    rw [h1] at ht
    exact h.ms c0 h0 t ht
theorem KeepOk.crashed {D : Dev} {a : Int} {v : UInt8} {b : Nat} (h : KeepOk D a v b) (keep : List Bool) : KeepOk (D.crashed keep) a v b := by
  have h2 := h.drain keep
  exact ⟨h.ok.crashed keep, h.a0, h2.len, h2.cell, h2.ws, h2.ms⟩
theorem KeepOk.flush {D : Dev} {a : Int} {v : UInt8} {b : Nat} (h : KeepOk D a v b) : KeepOk D.flush.2 a v b := by
  unfold Dev.flush
  split
  · exact h
  split
  · exact h.lives
  · exact h.lives.drain _
theorem KeepOk.settle {D : Dev} {a : Int} {v : UInt8} {b : Nat} (h : KeepOk D a v b) {p : Int} (hp : p ≠ a) : KeepOk (D.settle p) a v b := by
  refine ⟨h.ok.settle p, h.a0, (settleC_len _ _ _).trans h.len, ?_, fun x hx => h.ws x (List.mem_filter.1 hx).1, fun c hc t ht => ?_⟩
  · obtain ⟨c, h1, h2⟩ := h.cell
    exact ⟨c, (settleC_ne h.a0 hp (fun x hx => (h.ok.at_ x hx).1)).trans h1, h2⟩
  · obtain ⟨c0, h0, h1, _⟩ := settleC_mem hc
    rw [h1] at ht
    exact h.ms c0 h0 t ht

/-- A cell of another place is changed. -/
theorem KeepOk.upd {D : Dev} {a : Int} {v : UInt8} {b : Nat} (h : KeepOk D a v b) {p : Int} (h0 : 0 ≤ p) (hp : p ≠ a) (g : Cell → Cell) (hok : (D.upd p g).Ok b) (hm : ∀ c ∈ D.cells, ∀ t ∈ (g c).miss, t ≠ a) : KeepOk (D.upd p g) a v b := by
  have ha := h.a0
  refine ⟨hok, h.a0, (List.length_modify ..).trans h.len, ?_, h.ws, fun c hc t ht => ?_⟩
  · obtain ⟨c, h1, h2⟩ := h.cell
    refine ⟨c, ?_, h2⟩
    show (D.cells.modify p.toNat g)[a.toNat]? = some c
    rw [List.getElem?_modify, h1]
    show some (if p.toNat = a.toNat then g c else c) = some c
    rw [if_neg (by omega)]
  · have hc : c ∈ D.cells.modify p.toNat g := hc
    obtain ⟨k, hk⟩ := List.getElem?_of_mem hc
    rw [List.getElem?_modify] at hk
    cases hck : D.cells[k]? with
    | none => rw [hck] at hk; cases hk
    | some c0 =>
      rw [hck] at hk
      have hk : some (if p.toNat = k then g c0 else c0) = some c := hk
      have hmem := List.mem_of_getElem? hck
      by_cases e : p.toNat = k
      · rw [if_pos e] at hk
        obtain rfl := Option.some.inj hk
        exact hm c0 hmem t ht
      · rw [if_neg e] at hk
        obtain rfl := Option.some.inj hk
        exact h.ms c0 hmem t ht

theorem upd_set {D : Dev} {p : Int} {c : Cell} (g : Cell → Cell) (h : D.cells[p.toNat]? = some c) : D.upd p g = { D with cells := D.cells.set p.toNat (g c) } := by
  unfold Dev.upd; rw [modify_some g h]

theorem KeepOk.put {D : Dev} {a : Int} {v : UInt8} {b : Nat} (h : KeepOk D a v b) {p : Int} (hp : D.has p = true) (hpa : p ≠ a) {s : Bytes} (hs : s.length = 256) : KeepOk (D.put p s) a v (b + 1) := by
  have hok := h.ok.put hp hs
  have hlt := has_iff hp
  have ha := h.a0
  obtain ⟨c, hc, _⟩ := cell_get D hp
  have hcm := List.mem_of_getElem? hc
  obtain ⟨c1, c2, c3, c4⟩ := c
  have upd : ∀ (c' : Cell), (∀ t ∈ c'.miss, t ≠ a) → (∃ c, (D.cells.set p.toNat c')[a.toNat]? = some c ∧ c.s = sect v ∧ c.lost = false) ∧ ∀ c ∈ D.cells.set p.toNat c', ∀ t ∈ c.miss, t ≠ a := fun c' h' => by
    refine ⟨?_, fun c hc t ht => ?_⟩
    · obtain ⟨c, h1, h2⟩ := h.cell
      exact ⟨c, by rw [List.getElem?_set_ne (by omega)]; exact h1, h2⟩
    · rcases List.mem_or_eq_of_mem_set hc with hc | rfl
      · exact h.ms c hc t ht
      · exact h' t ht
  cases h3 : decide (c3 > 0) with
  | true =>
    rw [put_drop hc h3] at hok ⊢
    have hu := upd ⟨c1, c2, IntKind.i64.wrap (c3 - 1), c4⟩ (fun t ht => h.ms _ hcm t ht)
    exact ⟨hok, h.a0, (List.length_set ..).trans h.len, hu.1, h.ws, hu.2⟩
  | false =>
    cases c4 with
    | nil =>
      rw [put_plain hc h3] at hok ⊢
      refine ⟨hok, h.a0, h.len, h.cell, fun x hx => ?_, h.ms⟩
      rcases List.mem_append.1 hx with hx | hx
      · exact h.ws x hx
      · have : x = ⟨p, s⟩ := by simpa using hx
        rw [this]; exact hpa
    | cons t r =>
      rw [put_miss hc h3] at hok ⊢
      have ht := h.ms _ hcm t (by simp)
      have hu := upd ⟨c1, c2, c3, r⟩ (fun t' ht' => h.ms _ hcm t' (by simp [ht']))
      refine ⟨hok, h.a0, (List.length_set ..).trans h.len, hu.1, fun x hx => ?_, hu.2⟩
      rcases List.mem_append.1 hx with hx | hx
      · exact h.ws x hx
      · have : x = ⟨t, s⟩ := by simpa using hx
        rw [this]; exact ht

theorem KeepOk.write {D : Dev} {a : Int} {v : UInt8} {b : Nat} (h : KeepOk D a v b) {p : Int} (hpa : p ≠ a) (s : Bytes) : KeepOk (D.write p s).2 a v (b + 1) := by
  unfold Dev.write
  split
  · exact h.mono
  split
  · exact h.mono
  rename_i hp
  split
  · exact h.mono
  rename_i hs
  split
  · exact h.lives.mono
  · have hs : (s.length : Int) = 256 := by simpa using hs
    exact h.lives.count.put (p := p) hp hpa (by omega)

theorem KeepOk.fault {D : Dev} {a : Int} {v : UInt8} {b : Nat} (h : KeepOk D a v b) (f : Flt) (h1 : f.at_ ≠ a) (h2 : f.to ≠ a) : KeepOk (D.fault f).2 a v (b + 1) := by
  have hok := h.ok.fault f
  unfold Dev.fault at hok ⊢
  split
  · exact h.mono
  rename_i hm0
  rw [hm0] at hok
  have hm := may_ok (show D.may f = 0 by simpa using hm0)
  have h0 := (has_iff hm.1).2.1
  have hs := (h.settle h1).mono
  have hok : (D.hurt f).Ok (b + 1) := hok
  show KeepOk (D.hurt f) a v (b + 1)
  unfold Dev.hurt at hok ⊢
  split
  · rename_i hk; rw [if_pos hk] at hok
    exact hs.upd h0 h1 _ hok (fun c hc => hs.ms c hc)
  rename_i k1; rw [if_neg k1] at hok
  split
  · rename_i hk; rw [if_pos hk] at hok
    exact hs.upd h0 h1 _ hok (fun c hc => hs.ms c hc)
  rename_i k2; rw [if_neg k2] at hok
  split
  · rename_i hk; rw [if_pos hk] at hok
    exact hs.upd h0 h1 _ hok (fun c hc => hs.ms c hc)
  rename_i k3; rw [if_neg k3] at hok
  split
  · rename_i hk; rw [if_pos hk] at hok
    exact h.mono.upd h0 h1 _ hok (fun c hc => h.ms c hc)
  rename_i k4; rw [if_neg k4] at hok
  refine h.mono.upd h0 h1 _ hok (fun c hc t ht => ?_)
  rcases List.mem_append.1 ht with ht | ht
  · exact h.ms c hc t ht
  · have : t = f.to := by simpa using ht
    rw [this]; exact h2

/-- Is a call of that place? -/
def Op06.of (x : Op06) (a : Int) : Bool := ((x.kind == 0) && (x.at_ == a)) || ((x.kind == 2) && ((x.f.at_ == a) || (x.f.to == a)))
theorem KeepOk.does {D : Dev} {a : Int} {v : UInt8} {b : Nat} (h : KeepOk D a v b) (x : Op06) (hx : x.of a = false) : KeepOk (D.does x).2 a v (b + 1) := by
  unfold Op06.of at hx
  simp only [Bool.or_eq_false_iff, Bool.and_eq_false_iff, beq_eq_false_iff_ne] at hx
  unfold Dev.does
  split
  · rename_i hk
    have hk : x.kind = 0 := by simpa using hk
    exact h.write (hx.1.resolve_left (fun h => h hk)) _
  split
  · exact h.flush.mono
  split
  · rename_i hk
    have hk : x.kind = 2 := by simpa using hk
    have := hx.2.resolve_left (fun h => h hk)
    exact h.fault _ this.1 this.2
  split
  · exact (h.arm _).mono
  split
  · exact (h.crashed _).mono
  · exact h.mono

theorem keep_end {D : Dev} {a : Int} {v : UInt8} {b : Nat} (h : KeepOk D a v b) (ha : a < 20) : (D.crashed []).holds a v = true := by
  have hl : (D.crashed []).cells.length = 20 := (crashC_len _ _ _ _).trans h.len
  have h1 : (D.crashed []).has a = true := by
    unfold Dev.has; rw [hl, decide_eq_true (show a ≥ 0 from h.a0), decide_eq_true (by omega)]; rfl
  obtain ⟨c, hc, hs, hlost⟩ := (h.crashed []).cell
  have e : (D.crashed []).readAt a = (0, sect v) := by
    rw [readAt_eq]
    show cellAt (D.crashed []).cells[a.toNat]? = _
    rw [hc]
    show (match c.lost with | true => (20, []) | false => ((0 : Int), c.s)) = _
    rw [hlost, ← hs]
  have h2 : (D.crashed []).dead = false := rfl
  generalize D.crashed [] = E at *
  unfold Dev.holds
  have e2 : E.read a = (((E.readAt a).2, (E.readAt a).1), E.count) := by unfold Dev.read; rw [h2, h1]
  rw [e2, e]
  show (match (0 : Int) == 0 with | true => sect v == sect v | false => false) = true
  simp

theorem keep_start {v : UInt8} {a : Int} (ha : 0 ≤ a) (hb : a < 20) : ((Dev.new 20).write a (sect v)).1 = 0 ∧ ((Dev.new 20).write a (sect v)).2.flush.1 = 0 ∧ KeepOk ((Dev.new 20).write a (sect v)).2.flush.2 a v 1 := by
  obtain ⟨h1, h2⟩ := plain_write plain_new ha hb v
  obtain ⟨h3, h4⟩ := plain_flush h2
  refine ⟨h1, h3, ?_⟩
  generalize ((Dev.new 20).write a (sect v)).2 = E at h2 h4 h3
  have e : E.flush = (0, E.lives.drain [true]) := by unfold Dev.flush; rw [h2.dead, h2.lives.2]
  have hv := h4.val a.toNat (by omega)
  rw [Int.toNat_of_nonneg ha, readAt_eq, List.getD_eq_getElem?_getD, List.getElem?_set_self (by simp; omega)] at hv
  have hv : cellAt E.flush.2.cells[a.toNat]? = (0, sect v) := by
    have hw : E.flush.2.waits = [] := by rw [e]; rfl
    rw [hw] at hv; exact hv
  refine ⟨h4.ok, ha, h4.len, ?_, fun x hx => ?_, fun c hc t ht => ?_⟩
  · have hlt : a.toNat < E.flush.2.cells.length := by rw [h4.len]; omega
    have hc := List.getElem?_eq_getElem hlt
    have hp := h4.pl _ (List.getElem_mem hlt)
    generalize E.flush.2.cells[a.toNat] = c at hc hp
    rw [hc] at hv
    have hv : (match c.lost with | true => (20, []) | false => ((0 : Int), c.s)) = (0, sect v) := hv
    rw [hp.2.2] at hv
    exact ⟨c, hc, by simpa using hv, hp.2.2⟩
  · have hw : E.flush.2.waits = [] := by rw [e]; rfl
    rw [hw] at hx; cases hx
  · rw [(h4.pl c hc).2.1] at ht; cases ht
end Go.Proofs.Ytolefphdldmlkaa.AL
