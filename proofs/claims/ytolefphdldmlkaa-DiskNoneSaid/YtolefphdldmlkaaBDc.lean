/- The layer 06 (disk): a crash, a flush. -/
import Derived.Test.YtolefphdldmlkaaBDb
namespace Go.Proofs.Ytolefphdldmlkaa.AL
open Go Go.Proofs

def kx (l : List Bool) : List (List PV) := l.map fun b => [.raw (.bool b)]
theorem kx_len (l : List Bool) : (kx l).length = l.length := by simp [kx]

/-- Is the i-th write kept? -/
def kept (keep : List Bool) (i : Nat) : Bool := decide (0 < keep.length) && keep.getD (i % keep.length) false
def crashC (W : List Wr) (keep : List Bool) : Nat → List Cell → List Cell
  | 0, cs => cs
  | i + 1, cs => match kept keep i with
    | true => doneL (crashC W keep i cs) (W.getD i ⟨0, []⟩)
    | false => crashC W keep i cs
theorem crashC_len (W : List Wr) (keep : List Bool) (cs : List Cell) : ∀ i, (crashC W keep i cs).length = cs.length
  | 0 => rfl
  | i + 1 => by
    unfold crashC; split
    · rw [doneL_len, crashC_len W keep cs i]
    · exact crashC_len W keep cs i
/-- What waits is done, as far as it is kept, and forgotten. -/
def Dev.drain (D : Dev) (keep : List Bool) : Dev := { D with cells := crashC D.waits keep D.waits.length D.cells, waits := [] }
def Dev.waitsIn (D : Dev) : Prop := ∀ x ∈ D.waits, 0 ≤ x.at_ ∧ x.at_ < (D.cells.length : Int)

theorem wrap64 (n : Int) (h0 : -9223372036854775808 ≤ n) (h : n ≤ 9223372036854775807) : IntKind.i64.wrap n = n := by
  rw [IntKind.wrap_i64]; omega

theorem disk_crash (D : Dev) (keep : List Bool) (hw : D.waitsIn) (hn : D.waits.length ≤ 1000000) : AFm Try.prog 1 f_disk_Disk_crash [.ref 0 0, .p (.sl 1 (kx keep))] (devH D) (Pure (.tup []) (devH (D.drain keep))) := by
  refine af_bodyM 1 hT F_disk_Disk_crash rfl rfl N_disk_Disk_crash rfl rfl ?_
  refine aw_seq (aw_seq (aw_region hT ?_))
  refine aw_block ?_
  refine aw_loopW (fun n s => ∃ (i : Nat) (j : Int) (C : List Cell), n + i = D.waits.length ∧ j = i ∧ C = crashC D.waits keep i D.cells ∧ s = ⟨⟨35, [(0, .ref 0 0), (1, .p (.sl 1 (kx keep))), (9, .msl 2 2 0 D.waits.length), (10, i64 D.waits.length), (11, i64 j)]⟩, devH { D with cells := C }⟩) D.waits.length ⟨⟨35, _⟩, [_, _, _]⟩ (wk_pick [0, 1, 2] [0, 1, 9, 10, 11] rfl) ⟨0, _, _, by omega, rfl, rfl, rfl⟩ ?_
  rintro n s ⟨i, j, C, hni, rfl, hC, rfl⟩
  refine aw_seq (aw_region hT ?_)
  refine aw_seq (aw_cond (boolI (fun h => ?_) (fun h => ?_)))
  · have hi : i < D.waits.length := by
      have := of_decide_eq_true (show decide ((i : Int) < (D.waits.length : Int)) = true from h)
      omega
    have hx := List.getElem?_eq_getElem hi
    have hin := hw _ (List.getElem_mem hi)
    generalize D.waits[i] = x at hx hin
    have hCl : C.length = D.cells.length := by rw [hC, crashC_len]
    refine aw_skip ?_
    refine aw_seq (aw_block (aw_seq (aw_region hT ?_)))
    refine ⟨⟨Int.natCast_nonneg _, of_decide_eq_true h⟩, ?_⟩
    refine optI (show (wx D.waits)[0 + ((i : Nat) : Int).toNat]? = some x.pv by rw [Nat.zero_add, Int.toNat_natCast]; exact wx_get hx) ?_
    refine aw_seq (aw_region hT ?_)
    have out : ∀ b, kept keep i = b → (match b with | true => doneL C x | false => C) = crashC D.waits keep (i + 1) D.cells := fun b hb => by
      have hxd : D.waits.getD i ⟨0, []⟩ = x := by rw [List.getD_eq_getElem?_getD, hx]; rfl
      unfold crashC; rw [hb, hxd, ← hC]
    refine boolI (fun h1 => ?_) (fun h1 => ?_)
    · have h1' : 0 < keep.length := by
        have : ((kx keep).length : Int) > 0 := of_decide_eq_true h1
        rw [kx_len] at this; omega
      have e1 : ((i : Int).tmod ((kx keep).length : Int)) = ((i % keep.length : Nat) : Int) := by
        rw [kx_len, Int.tmod_eq_emod_of_nonneg (Int.natCast_nonneg _)]; exact (Int.natCast_emod i keep.length).symm
      have hlt : i % keep.length < keep.length := Nat.mod_lt _ h1'
      have hk := List.getElem?_eq_getElem hlt
      generalize keep[i % keep.length] = b at hk
      have hkept : kept keep i = b := by
        unfold kept; rw [List.getD_eq_getElem?_getD, hk, decide_eq_true h1']; rfl
      refine chkI (b := decide (((kx keep).length : Int) ≠ 0)) (decide_eq_true (by rw [kx_len]; omega)) ?_
      refine ⟨by rw [e1]; omega, optI (show (kx keep)[((i : Int).tmod ((kx keep).length : Int)).toNat]? = some [.raw (.bool b)] by
        rw [e1, Int.toNat_natCast, kx, List.getElem?_map, hk]; rfl) ?_⟩
      refine aw_cond (boolI (fun hb => ?_) (fun hb => ?_))
      · refine aw_region hT ?_
        refine callP (af_in [0, 1, 2] (disk_done { D with cells := C } x hin.1 (by show x.at_.toNat < C.length; omega)) rfl rfl rfl) ?_
        refine aw_region hT ?_
        refine ⟨n - 1, by omega, _, wk_pick [0, 1, 2] [0, 1, 9, 10, 11] rfl, i + 1, _, doneL C x, by omega, ?_, ?_, rfl⟩
        · rw [wrap64 _ (by omega) (by omega)]; rfl
        · exact (out _ (hkept.trans hb))
      · refine aw_skip ?_
        refine aw_region hT ?_
        refine ⟨n - 1, by omega, _, wk_pick [0, 1, 2] [0, 1, 9, 10, 11] rfl, i + 1, _, C, by omega, ?_, ?_, rfl⟩
        · rw [wrap64 _ (by omega) (by omega)]; rfl
        · exact (out _ (hkept.trans hb))
    · have hk : kept keep i = false := by
        have : ¬ ((kx keep).length : Int) > 0 := of_decide_eq_false h1
        rw [kx_len] at this
        unfold kept; rw [decide_eq_false (by omega)]; rfl
      refine aw_cond ?_
      refine aw_skip ?_
      refine aw_region hT ?_
      refine ⟨n - 1, by omega, _, wk_pick [0, 1, 2] [0, 1, 9, 10, 11] rfl, i + 1, _, C, by omega, ?_, ?_, rfl⟩
      · rw [wrap64 _ (by omega) (by omega)]; rfl
      · exact (out _ hk)
  · refine aw_exit ?_
    refine aw_region hT ?_
    have hi : i = D.waits.length := by
      have : ¬ ((i : Int) < (D.waits.length : Int)) := of_decide_eq_false h
      omega
    refine ⟨_, _, Wk.trans (wk_phantom t_disk_write 2) (Wk.trans (wk_cells 0 [.msl 1 4 0 C.length, .msl 3 2 0 0, bl D.armed, bl D.dead, i64 D.left, i64 D.ops] rfl ⟨.inl rfl, .inr (.inr (.inl ⟨3, 2, 0, rfl, rfl⟩)), .inl rfl, .inl rfl, .inl rfl, .inl rfl, trivial⟩) (wk_pick [0, 1, 3] [0] rfl)), rfl, ?_⟩
    rw [hC, hi]
    rfl
end Go.Proofs.Ytolefphdldmlkaa.AL
