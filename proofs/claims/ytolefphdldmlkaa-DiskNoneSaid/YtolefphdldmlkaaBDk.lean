/- The layer 06 (disk): what rots. -/
import Derived.Test.YtolefphdldmlkaaBDj
namespace Go.Proofs.Ytolefphdldmlkaa.AL
open Go Go.Proofs

theorem clone_u8M (l : Bytes) (hl : l.length ≤ 1000000) : AF Try.prog f_slices_Clone_byte [bA l] [] (Pure (.msl 0 1 0 l.length) [.row t_u8 1 (bx l)]) := by
  have hb := bx_len l
  show AF Try.prog f_slices_Clone_byte [.p (.sl 1 (bx l))] [] _
  rw [← hb]
  generalize bx l = xs at hb
  refine af_body hT F_slices_Clone_byte rfl rfl N_slices_Clone_byte rfl ?_
  refine aw_seq (aw_region hT ?_)
  refine aw_seq (aw_seq (aw_region hT ?_))
  intro b hn
  refine aw_cond (boolI (fun h => ?_) (fun h => ?_))
  · refine aw_seq (aw_region hT ?_)
    refine aw_ret ?_
    rw [hn h]
    exact retNil t_u8 1 ⟨rfl, rfl⟩
  · refine aw_skip ?_
    refine aw_seq (aw_region hT ?_)
    refine ⟨rfl, ⟨?_, ?_⟩, ?_⟩
    · show (0 + xs.length) * 1 ≤ _; omega
    · show 0 + xs.length ≤ _; omega
    refine aw_ret ?_
    exact retPick [1] ⟨rfl, rfl⟩ rfl

def Flt.m (f : Flt) : Nat → UInt8 | 0 => f.m0 | 1 => f.m1 | 2 => f.m2 | _ => f.m3
def rotB (f : Flt) (s : Bytes) : Nat → Bytes
  | 0 => s
  | i + 1 => match decide (f.off + i < (s.length : Int)) with
    | true => (rotB f s i).set (f.off.toNat + i) ((rotB f s i).getD (f.off.toNat + i) 0 ^^^ f.m i)
    | false => rotB f s i
theorem rotB_len (f : Flt) (s : Bytes) : ∀ i, (rotB f s i).length = s.length
  | 0 => rfl
  | i + 1 => by
    unfold rotB; split
    · rw [List.length_set, rotB_len f s i]
    · exact rotB_len f s i

theorem xor_u8 (a b : UInt8) : IntKind.u8.wrap ((BitVec.ofInt 8 (a.toNat : Int) ^^^ BitVec.ofInt 8 (b.toNat : Int)).toNat : Int) = ((a ^^^ b).toNat : Int) := by
  have h1 : BitVec.ofInt 8 (a.toNat : Int) = a.toBitVec := by
    apply BitVec.eq_of_toNat_eq; simp
  have h2 : BitVec.ofInt 8 (b.toNat : Int) = b.toBitVec := by
    apply BitVec.eq_of_toNat_eq; simp
  rw [h1, h2]
  have h3 : (a.toBitVec ^^^ b.toBitVec) = (a ^^^ b).toBitVec := rfl
  rw [h3]
  have h4 : (a ^^^ b).toBitVec.toNat < 256 := (a ^^^ b).toBitVec.isLt
  show IntKind.u8.wrap (((a ^^^ b).toBitVec.toNat : Nat) : Int) = (((a ^^^ b).toBitVec.toNat : Nat) : Int)
  generalize (a ^^^ b).toBitVec.toNat = n at h4
  rw [IntKind.wrap_u8]; omega

theorem rot_at (f : Flt) (i : Nat) (h0 : 0 ≤ f.off) (h1 : f.off < 256) (hi : i < 4) : IntKind.i64.wrap (f.off + ((i : Nat) : Int)) = f.off + (i : Int) ∧ (IntKind.i64.wrap (f.off + ((i : Nat) : Int))).toNat = f.off.toNat + i := by
  rw [wrap64 _ (by omega) (by omega)]; omega
theorem rot_get (f : Flt) (s : Bytes) (i : Nat) (h0 : 0 ≤ f.off) (h1 : f.off < 256) (hi : i < 4) (h : f.off + (i : Int) < (s.length : Int)) :
    (bx (rotB f s i))[0 + (IntKind.i64.wrap (f.off + ((i : Nat) : Int))).toNat]? = some [u8 ((rotB f s i).getD (f.off.toNat + i) 0)] := by
  rw [Nat.zero_add, (rot_at f i h0 h1 hi).2]
  have hl : f.off.toNat + i < (rotB f s i).length := by rw [rotB_len]; omega
  rw [bx, List.getElem?_map, List.getElem?_eq_getElem hl, List.getD_eq_getElem?_getD, List.getElem?_eq_getElem hl]; rfl
theorem rot_yes (f : Flt) (s : Bytes) (i : Nat) (h0 : 0 ≤ f.off) (h1 : f.off < 256) (hi : i < 4) (h : f.off + (i : Int) < (s.length : Int)) :
    bx (rotB f s (i + 1)) = (bx (rotB f s i)).set (0 + (IntKind.i64.wrap (f.off + ((i : Nat) : Int))).toNat) [.raw (.int .u8 (IntKind.u8.wrap ((BitVec.ofInt 8 (((rotB f s i).getD (f.off.toNat + i) 0).toNat : Int) ^^^ BitVec.ofInt 8 ((f.m i).toNat : Int)).toNat : Int)))] := by
  rw [Nat.zero_add, (rot_at f i h0 h1 hi).2, xor_u8]
  conv => lhs; unfold rotB
  rw [decide_eq_true h]
  show bx (List.set _ _ _) = _
  rw [bx, List.map_set]; rfl
theorem rot_no (f : Flt) (s : Bytes) (i : Nat) (h : ¬ f.off + (i : Int) < (s.length : Int)) : rotB f s (i + 1) = rotB f s i := by
  conv => lhs; unfold rotB
  rw [decide_eq_false h]

theorem disk_rot (D : Dev) (f : Flt) (hw : D.waitsIn) (hn : D.waits.length ≤ 1000000) (hh : D.has f.at_ = true) (h0 : 0 ≤ f.off) (h1 : f.off < 256) (hs : ∀ c ∈ (D.settle f.at_).cells, c.s.length ≤ 1000000) :
    AFm Try.prog 3 f_disk_Disk_rot [.ref 0 0, f.av] (devH D) (Pure (.tup []) (devH ((D.settle f.at_).upd f.at_ fun c => { c with s := rotB f c.s 4 }))) := by
  refine af_bodyM 3 hT F_disk_Disk_rot rfl rfl N_disk_Disk_rot rfl rfl ?_
  refine aw_seq (aw_region hT ?_)
  refine aw_wk (wk_boxL 3 f.pv rfl rfl) ?_
  refine aw_seq (aw_region hT ?_)
  refine callP (af_in [0, 1, 2] (disk_settle D f.at_ hw hn) rfl rfl rfl) ?_
  have hlt := has_iff ((settle_has D f.at_ f.at_).trans hh)
  obtain ⟨c, hc, g1⟩ := cell_get (D.settle f.at_) ((settle_has D f.at_ f.at_).trans hh)
  have hcs := hs _ (List.mem_of_getElem? hc)
  refine aw_seq ?_
  refine aw_draw [9] [] hT follows_mixed (by rfl) ?_
  refine ⟨⟨hlt.2.1, hlt.2.2⟩, ?_⟩
  refine optI g1 ?_
  refine ⟨_, _, af_lift (clone_u8M c.s hcs) _ rfl, ?_⟩
  refine aw_seq (aw_seq (aw_region hT ?_))
  refine aw_block ?_
  refine aw_loopW (fun n s => ∃ (i : Nat) (j : Int), n + i = 4 ∧ j = i ∧ s = ⟨⟨54, [(0, .ref 0 0), (3, .p (.box f.pv)), (4, .msl 3 1 0 c.s.length), (22, .agg [.p (u8 f.m0), .p (u8 f.m1), .p (u8 f.m2), .p (u8 f.m3)]), (23, i64 j)]⟩, devH (D.settle f.at_) ++ [.row t_u8 1 (bx (rotB f c.s i))]⟩) 4 ⟨⟨54, _⟩, [_, _, _, _]⟩ (wk_pick [0, 1, 2, 4] [0, 3, 4, 22, 23] rfl) ⟨0, _, rfl, rfl, rfl⟩ ?_
  rintro n s ⟨i, j, hni, rfl, rfl⟩
  refine aw_seq (aw_region hT ?_)
  refine aw_seq (aw_cond (boolI (fun h => ?_) (fun h => ?_)))
  · have hi : i < 4 := by
      have := of_decide_eq_true (show decide ((i : Int) < 4) = true from h)
      omega
    refine aw_skip ?_
    obtain rfl | rfl | rfl | rfl : i = 0 ∨ i = 1 ∨ i = 2 ∨ i = 3 := by omega
    · refine aw_seq (aw_block (aw_seq (aw_region hT ?_)))
      refine ⟨⟨by omega, by omega⟩, ?_⟩
      have ha := rot_at f 0 h0 h1 (by omega)
      refine aw_seq (aw_region hT ?_)
      refine aw_cond (boolI (fun h3 => ?_) (fun h3 => ?_))
      · have h3 : f.off + ((0 : Nat) : Int) < (c.s.length : Int) := by
          have := of_decide_eq_true h3
          rw [ha.1] at this; exact this
        refine aw_region hT ?_
        refine ⟨⟨by rw [ha.1]; omega, by rw [ha.1]; exact h3⟩, ?_⟩
        refine optI (rot_get f c.s 0 h0 h1 (by omega) h3) ?_
        refine ⟨⟨by rw [ha.1]; omega, by rw [ha.1]; exact h3⟩, ?_⟩
        refine optI (rot_get f c.s 0 h0 h1 (by omega) h3) ?_
        refine aw_region hT ?_
        refine ⟨n - 1, by omega, _, wk_pick [0, 1, 2, 3] [0, 3, 4, 22, 23] rfl, 0 + 1, IntKind.i64.wrap (((0 : Nat) : Int) + 1), by omega, by decide, ?_⟩
        refine congrArg (St.mk _) ?_
        rw [rot_yes f c.s 0 h0 h1 (by omega) h3]
        rfl
      · have h3 : ¬ f.off + ((0 : Nat) : Int) < (c.s.length : Int) := by
          have := of_decide_eq_false h3
          rw [ha.1] at this; exact this
        refine aw_skip ?_
        refine aw_region hT ?_
        refine ⟨n - 1, by omega, _, wk_pick [0, 1, 2, 3] [0, 3, 4, 22, 23] rfl, 0 + 1, IntKind.i64.wrap (((0 : Nat) : Int) + 1), by omega, by decide, ?_⟩
        refine congrArg (St.mk _) ?_
        rw [rot_no f c.s 0 h3]
        rfl
    · refine aw_seq (aw_block (aw_seq (aw_region hT ?_)))
      refine ⟨⟨by omega, by omega⟩, ?_⟩
      have ha := rot_at f 1 h0 h1 (by omega)
      refine aw_seq (aw_region hT ?_)
      refine aw_cond (boolI (fun h3 => ?_) (fun h3 => ?_))
      · have h3 : f.off + ((1 : Nat) : Int) < (c.s.length : Int) := by
          have := of_decide_eq_true h3
          rw [ha.1] at this; exact this
        refine aw_region hT ?_
        refine ⟨⟨by rw [ha.1]; omega, by rw [ha.1]; exact h3⟩, ?_⟩
        refine optI (rot_get f c.s 1 h0 h1 (by omega) h3) ?_
        refine ⟨⟨by rw [ha.1]; omega, by rw [ha.1]; exact h3⟩, ?_⟩
        refine optI (rot_get f c.s 1 h0 h1 (by omega) h3) ?_
        refine aw_region hT ?_
        refine ⟨n - 1, by omega, _, wk_pick [0, 1, 2, 3] [0, 3, 4, 22, 23] rfl, 1 + 1, IntKind.i64.wrap (((1 : Nat) : Int) + 1), by omega, by decide, ?_⟩
        refine congrArg (St.mk _) ?_
        rw [rot_yes f c.s 1 h0 h1 (by omega) h3]
        rfl
      · have h3 : ¬ f.off + ((1 : Nat) : Int) < (c.s.length : Int) := by
          have := of_decide_eq_false h3
          rw [ha.1] at this; exact this
        refine aw_skip ?_
        refine aw_region hT ?_
        refine ⟨n - 1, by omega, _, wk_pick [0, 1, 2, 3] [0, 3, 4, 22, 23] rfl, 1 + 1, IntKind.i64.wrap (((1 : Nat) : Int) + 1), by omega, by decide, ?_⟩
        refine congrArg (St.mk _) ?_
        rw [rot_no f c.s 1 h3]
        rfl
    · refine aw_seq (aw_block (aw_seq (aw_region hT ?_)))
      refine ⟨⟨by omega, by omega⟩, ?_⟩
      have ha := rot_at f 2 h0 h1 (by omega)
      refine aw_seq (aw_region hT ?_)
      refine aw_cond (boolI (fun h3 => ?_) (fun h3 => ?_))
      · have h3 : f.off + ((2 : Nat) : Int) < (c.s.length : Int) := by
          have := of_decide_eq_true h3
          rw [ha.1] at this; exact this
        refine aw_region hT ?_
        refine ⟨⟨by rw [ha.1]; omega, by rw [ha.1]; exact h3⟩, ?_⟩
        refine optI (rot_get f c.s 2 h0 h1 (by omega) h3) ?_
        refine ⟨⟨by rw [ha.1]; omega, by rw [ha.1]; exact h3⟩, ?_⟩
        refine optI (rot_get f c.s 2 h0 h1 (by omega) h3) ?_
        refine aw_region hT ?_
        refine ⟨n - 1, by omega, _, wk_pick [0, 1, 2, 3] [0, 3, 4, 22, 23] rfl, 2 + 1, IntKind.i64.wrap (((2 : Nat) : Int) + 1), by omega, by decide, ?_⟩
        refine congrArg (St.mk _) ?_
        rw [rot_yes f c.s 2 h0 h1 (by omega) h3]
        rfl
      · have h3 : ¬ f.off + ((2 : Nat) : Int) < (c.s.length : Int) := by
          have := of_decide_eq_false h3
          rw [ha.1] at this; exact this
        refine aw_skip ?_
        refine aw_region hT ?_
        refine ⟨n - 1, by omega, _, wk_pick [0, 1, 2, 3] [0, 3, 4, 22, 23] rfl, 2 + 1, IntKind.i64.wrap (((2 : Nat) : Int) + 1), by omega, by decide, ?_⟩
        refine congrArg (St.mk _) ?_
        rw [rot_no f c.s 2 h3]
        rfl
    · refine aw_seq (aw_block (aw_seq (aw_region hT ?_)))
      refine ⟨⟨by omega, by omega⟩, ?_⟩
      have ha := rot_at f 3 h0 h1 (by omega)
      refine aw_seq (aw_region hT ?_)
      refine aw_cond (boolI (fun h3 => ?_) (fun h3 => ?_))
      · have h3 : f.off + ((3 : Nat) : Int) < (c.s.length : Int) := by
          have := of_decide_eq_true h3
          rw [ha.1] at this; exact this
        refine aw_region hT ?_
        refine ⟨⟨by rw [ha.1]; omega, by rw [ha.1]; exact h3⟩, ?_⟩
        refine optI (rot_get f c.s 3 h0 h1 (by omega) h3) ?_
        refine ⟨⟨by rw [ha.1]; omega, by rw [ha.1]; exact h3⟩, ?_⟩
        refine optI (rot_get f c.s 3 h0 h1 (by omega) h3) ?_
        refine aw_region hT ?_
        refine ⟨n - 1, by omega, _, wk_pick [0, 1, 2, 3] [0, 3, 4, 22, 23] rfl, 3 + 1, IntKind.i64.wrap (((3 : Nat) : Int) + 1), by omega, by decide, ?_⟩
        refine congrArg (St.mk _) ?_
        rw [rot_yes f c.s 3 h0 h1 (by omega) h3]
        rfl
      · have h3 : ¬ f.off + ((3 : Nat) : Int) < (c.s.length : Int) := by
          have := of_decide_eq_false h3
          rw [ha.1] at this; exact this
        refine aw_skip ?_
        refine aw_region hT ?_
        refine ⟨n - 1, by omega, _, wk_pick [0, 1, 2, 3] [0, 3, 4, 22, 23] rfl, 3 + 1, IntKind.i64.wrap (((3 : Nat) : Int) + 1), by omega, by decide, ?_⟩
        refine congrArg (St.mk _) ?_
        rw [rot_no f c.s 3 h3]
        rfl
  · refine aw_exit ?_
    have hi : i = 4 := by
      have := of_decide_eq_false (show decide ((i : Int) < 4) = false from h)
      omega
    subst hi
    refine aw_wk (wk_frz1 4 3 rfl rfl (by rw [bx_len, rotB_len]; omega)) ?_
    refine aw_draw [9] [] hT follows_mixed (by rfl) ?_
    refine ⟨⟨hlt.2.1, hlt.2.2⟩, ?_⟩
    refine optI g1 ?_
    refine retPick [0, 1, 2] ⟨rfl, ?_⟩ rfl
    refine Eq.trans ?_ (devH_upd (D.settle f.at_) f.at_ (fun c => { c with s := rotB f c.s 4 }) hc).symm
    refine congrArg (fun z => [devC (D.settle f.at_) 1 2, ABlk.row t_disk_cell 4 ((cx (D.settle f.at_).cells).set (0 + f.at_.toNat) [.sl 1 z, .raw (.bool c.lost), .raw (.int .i64 c.drop), iP c.miss]), ABlk.row t_disk_write 2 (wx (D.settle f.at_).waits)]) ?_
    show ((bx (rotB f c.s 4)).drop 0).take c.s.length = _
    rw [List.drop_zero, ← rotB_len f c.s 4, ← bx_len, List.take_length]
end Go.Proofs.Ytolefphdldmlkaa.AL
