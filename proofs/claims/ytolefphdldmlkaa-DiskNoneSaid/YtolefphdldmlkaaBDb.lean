/- The layer 06 (disk): lists are cloned; a write that waits is done; a crash. -/
import Derived.Test.YtolefphdldmlkaaBDa
namespace Go.Proofs.Ytolefphdldmlkaa.AL
open Go Go.Proofs

theorem bx_len (l : Bytes) : (bx l).length = l.length := by simp [bx]
theorem bx_nil {l : Bytes} (h : bx l = []) : l = [] := by cases l with | nil => rfl | cons a r => simp [bx] at h
theorem ix_len (l : List Int) : (ix l).length = l.length := by simp [ix]
theorem cx_len (l : List Cell) : (cx l).length = l.length := by simp [cx]
theorem wx_len (l : List Wr) : (wx l).length = l.length := by simp [wx]

theorem clone_u8 (l : Bytes) (hl : l.length ≤ 1000000) : AF Try.prog f_slices_Clone_byte [bA l] [] (Pure (bA l) []) := by
  have hb := bx_len l
  generalize hx : bx l = xs at hb
  show AF Try.prog f_slices_Clone_byte [.p (.sl 1 (bx l))] [] (Pure (.p (.sl 1 (bx l))) [])
  rw [hx]
  refine af_frz (t := t_u8) (n := xs.length) ?_ rfl
  refine af_body hT F_slices_Clone_byte rfl rfl N_slices_Clone_byte rfl ?_
  refine aw_seq (aw_region hT ?_)
  refine aw_seq (aw_seq (aw_region hT ?_))
  intro b hn
  refine aw_cond (boolI (fun h => ?_) (fun h => ?_))
  · refine aw_seq (aw_region hT ?_)
    refine aw_ret ?_
    rw [hn h]
    exact retNil t_u8 1 ⟨rfl, rfl⟩
  · refine aw_skip ?_
    refine aw_seq (aw_region hT ?_)
    refine ⟨rfl, ⟨?_, ?_⟩, ?_⟩
    · show (0 + xs.length) * 1 ≤ _; omega
    · show 0 + xs.length ≤ _; omega
    refine aw_ret ?_
    exact retPick [1] ⟨rfl, rfl⟩ rfl

theorem clone_i64 (l : List Int) (hl : l.length ≤ 1000000) : AF Try.prog f_slices_Clone_int [.p (iP l)] [] (Pure (.msl 0 1 0 l.length) [.row t_i64 1 (ix l)]) := by
  have hb := ix_len l
  rw [← hb]
  show AF Try.prog f_slices_Clone_int [.p (.sl 1 (ix l))] [] (Pure (.msl 0 1 0 (ix l).length) [.row t_i64 1 (ix l)])
  generalize ix l = xs at hb
  refine af_body hT F_slices_Clone_int rfl rfl N_slices_Clone_int rfl ?_
  refine aw_seq (aw_region hT ?_)
  refine aw_seq (aw_seq (aw_region hT ?_))
  intro b hn
  refine aw_cond (boolI (fun h => ?_) (fun h => ?_))
  · refine aw_seq (aw_region hT ?_)
    refine aw_ret ?_
    rw [hn h]
    exact retNil t_i64 1 ⟨rfl, rfl⟩
  · refine aw_skip ?_
    refine aw_seq (aw_region hT ?_)
    refine ⟨rfl, ⟨?_, ?_⟩, ?_⟩
    · show (0 + xs.length) * 8 ≤ _; omega
    · show 0 + xs.length ≤ _; omega
    refine aw_ret ?_
    exact retPick [1] ⟨rfl, rfl⟩ rfl

/-- A write is done. -/
def doneL (l : List Cell) (x : Wr) : List Cell := match l[x.at_.toNat]? with
  | some c => l.set x.at_.toNat { c with s := x.s, lost := false }
  | none => l
def Dev.done (D : Dev) (x : Wr) : Dev := { D with cells := doneL D.cells x }
theorem doneL_len (l : List Cell) (x : Wr) : (doneL l x).length = l.length := by unfold doneL; split <;> simp

theorem cx_get {l : List Cell} {i : Nat} {c : Cell} (h : l[i]? = some c) : (cx l)[i]? = some c.pv := by rw [cx, List.getElem?_map, h]; rfl
theorem cx_set (l : List Cell) (i : Nat) (c : Cell) : cx (l.set i c) = (cx l).set i c.pv := by simp [cx, List.map_set]
theorem wx_get {l : List Wr} {i : Nat} {c : Wr} (h : l[i]? = some c) : (wx l)[i]? = some c.pv := by rw [wx, List.getElem?_map, h]; rfl

theorem doneL_some {l : List Cell} {x : Wr} {c : Cell} (h : l[x.at_.toNat]? = some c) : doneL l x = l.set x.at_.toNat { c with s := x.s, lost := false } := by
  unfold doneL; rw [h]

theorem disk_done (D : Dev) (x : Wr) (h0 : 0 ≤ x.at_) (h1 : x.at_.toNat < D.cells.length) : AFm Try.prog 3 f_disk_Disk_done [.ref 0 0, .agg [i64 x.at_, bA x.s]] (devH D) (Pure (.tup []) (devH (D.done x))) := by
  have hc := List.getElem?_eq_getElem h1
  generalize D.cells[x.at_.toNat] = c at hc
  have e : (D.done x).cells = D.cells.set x.at_.toNat { c with s := x.s, lost := false } := doneL_some hc
  have el : (D.done x).cells.length = D.cells.length := doneL_len _ _
  have hlt : x.at_ < (D.cells.length : Int) := by omega
  have g1 : (cx D.cells)[0 + x.at_.toNat]? = some c.pv := by rw [Nat.zero_add]; exact cx_get hc
  have g2 : ∀ e, ((cx D.cells).set (0 + x.at_.toNat) e)[0 + x.at_.toNat]? = some e := fun e => by
    rw [Nat.zero_add]; exact List.getElem?_set_self (by rw [cx_len]; exact h1)
  refine af_bodyM 3 hT F_disk_Disk_done rfl rfl N_disk_Disk_done rfl rfl ?_
  refine aw_seq (aw_region hT ?_)
  refine aw_wk (wk_boxL 3 [.raw (.int .i64 x.at_), bP x.s] rfl rfl) ?_
  refine aw_draw [16, 19] [] hT follows_mixed (by rfl) ?_
  refine ⟨⟨h0, hlt⟩, ?_⟩
  refine optI g1 ?_
  refine ⟨⟨h0, hlt⟩, ?_⟩
  refine optI (g2 _) ?_
  refine ⟨rfl, ?_⟩
  refine retPick [0, 1, 2] ⟨rfl, ?_⟩ rfl
  have el' : ((D.done x).cells.length : Int) = D.cells.length := by rw [el]
  show [devC D 1 2, .row t_disk_cell 4 (((cx D.cells).set (0 + x.at_.toNat) _).set (0 + x.at_.toNat) _), .row t_disk_write 2 (wx D.waits)] = [devC (D.done x) 1 2, .row t_disk_cell 4 (cx (D.done x).cells), .row t_disk_write 2 (wx D.waits)]
  rw [show devC (D.done x) 1 2 = devC D 1 2 by unfold devC; rw [el]; rfl, e, cx_set, List.set_set, Nat.zero_add]
  rfl
end Go.Proofs.Ytolefphdldmlkaa.AL
