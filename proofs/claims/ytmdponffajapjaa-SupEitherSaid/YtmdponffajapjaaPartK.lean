/- A part of the proof. -/
import Derived.Test.YtmdponffajapjaaPartJ
import Derived.Laws.IdiomArrays
/- What one, and bytes, read as (seat rc). -/
namespace Go.Proofs.Ytmdponffajapjaa.AL
open Go Go.RowKit Go.ChangeShapes Go.WideShapes Go.ChangeAt Go.Deep Go.Proofs

theorem raw_int {W : World} {I : Nat → Prop} (k : IntKind) (n : Int) : PRep W I (.raw (.int k n)) (.int k n) := .raw _ rfl
theorem raw_bool {W : World} {I : Nat → Prop} (b : Bool) : PRep W I (.raw (.bool b)) (.bool b) := .raw _ rfl
theorem rep_int {W : World} {I : Nat → Prop} {ι : Nat → Option Nat} (n : Int) : ARep W I ι (i64 n) (.int .i64 n) := .p (.raw _ rfl)
theorem rep_u8 {W : World} {I : Nat → Prop} {ι : Nat → Option Nat} (b : UInt8) : ARep W I ι (.p (u8 b)) (.int .u8 (b.toNat : Int)) := .p (.raw _ rfl)

section
variable {H : Type} {enc : TypeId × Value → H} {W : World} {spare : Nat → Bool} {held : Bool}

theorem u8_of {n : Int} (h : (Lit.int .u8 n).wf = true) : ∃ b : UInt8, n = (b.toNat : Int) := by
  have h2 : 0 ≤ n ∧ n < 256 := by
    simp [Lit.wf] at h
    have h3 : IntKind.u8.min = 0 := rfl
    have h4 : IntKind.u8.max = 255 := rfl
    omega
  refine ⟨UInt8.ofNat n.toNat, ?_⟩
  rw [UInt8.toNat_ofNat']
  omega

theorem c3 : Try.prog.cellsOf 3 = 1 := by kernel_rfl
theorem c4 : Try.prog.cellsOf 4 = 1 := by kernel_rfl
theorem c5 : Try.prog.cellsOf 5 = 1 := by kernel_rfl
theorem c23 : Try.prog.cellsOf 23 = 4 := by kernel_rfl
theorem c25 : Try.prog.cellsOf 25 = 12 := by kernel_rfl
theorem c26 : Try.prog.cellsOf 26 = 1 := by kernel_rfl

set_option maxRecDepth 20000 in
theorem geo_cells (n : Nat) (cs : List Value) (x : DataW H × List MemPlace) (h : DataW.trod enc Try.prog W 0 spare held n 23 cs = some x) : ∃ g : GeoV, cs = g.vals := by
  obtain ⟨xs, m, _, rfl, hl, hlen, hf⟩ := DataW.trod_struct Try.underlying23 h
  rw [c23] at hl
  have h0 := hf 0 _ rfl
  have h1 := hf 1 _ rfl
  have h2 := hf 2 _ rfl
  have h3 := hf 3 _ rfl
  match xs, hlen with
  | [y0, y1, y2, y3], _ =>
    match cs, hl with
    | [v0, v1, v2, v3], _ =>
      simp [c3] at h0 h1 h2 h3
      obtain ⟨a0, e0, _⟩ := DataW.trod_int Try.underlying3 h0
      obtain ⟨a1, e1, _⟩ := DataW.trod_int Try.underlying3 h1
      obtain ⟨a2, e2, _⟩ := DataW.trod_int Try.underlying3 h2
      obtain ⟨a3, e3, _⟩ := DataW.trod_int Try.underlying3 h3
      simp at e0 e1 e2 e3
      exact ⟨⟨a0, a1, a2, a3⟩, by rw [e0, e1, e2, e3]⟩

set_option maxRecDepth 20000 in
theorem sup_cells (n : Nat) (cs : List Value) (x : DataW H × List MemPlace) (h : DataW.trod enc Try.prog W 0 spare held n 25 cs = some x) : ∃ s : Sup, cs = s.vals := by
  obtain ⟨xs, m, _, rfl, hl, hlen, hf⟩ := DataW.trod_struct Try.underlying25 h
  rw [c25] at hl
  have h0 := hf 0 _ rfl
  have h1 := hf 1 _ rfl
  have h2 := hf 2 _ rfl
  have h3 := hf 3 _ rfl
  have h4 := hf 4 _ rfl
  have h5 := hf 5 _ rfl
  have h6 := hf 6 _ rfl
  have h7 := hf 7 _ rfl
  have h8 := hf 8 _ rfl
  match xs, hlen with
  | [y0, y1, y2, y3, y4, y5, y6, y7, y8], _ =>
    match cs, hl with
    | [v0, v1, v2, v3, v4, v5, v6, v7, v8, v9, v10, v11], _ =>
      simp [c3, c23] at h0 h1 h2 h3 h4 h5 h6 h7 h8
      obtain ⟨a0, e0, _⟩ := DataW.trod_int Try.underlying3 h0
      obtain ⟨a1, e1, _⟩ := DataW.trod_int Try.underlying3 h1
      obtain ⟨a2, e2, _⟩ := DataW.trod_int Try.underlying3 h2
      obtain ⟨a3, e3, _⟩ := DataW.trod_int Try.underlying3 h3
      obtain ⟨a4, e4, _⟩ := DataW.trod_int Try.underlying3 h4
      obtain ⟨a5, e5, _⟩ := DataW.trod_int Try.underlying3 h5
      obtain ⟨a6, e6, _⟩ := DataW.trod_int Try.underlying3 h6
      obtain ⟨a7, e7, _⟩ := DataW.trod_int Try.underlying3 h7
      obtain ⟨g, e8⟩ := geo_cells _ _ _ h8
      simp at e0 e1 e2 e3 e4 e5 e6 e7 e8
      obtain ⟨f8, f9, f10, f11⟩ := e8
      exact ⟨⟨a0, a1, a2, a3, a4, a5, a6, a7, g⟩, by rw [e0, e1, e2, e3, e4, e5, e6, e7, f8, f9, f10, f11]⟩

set_option maxRecDepth 20000 in
theorem sup_rep {v : Value} {d : DataW H} {ps : List MemPlace} {r : Reach} {b0 : Nat} {ι : Nat → Option Nat}
    (hval : Value.okWide Try.prog W r b0 25 v) (h : DataW.Trod enc Try.prog W 0 spare held 25 v d ps) : ∃ s : Sup, ARep W (· < W.heap.size) ι s.av v := by
  obtain ⟨cs, rfl, hsz⟩ := okWide_struct Try.underlying25 hval
  obtain ⟨n, hn⟩ := h
  obtain ⟨s, hcs⟩ := sup_cells n _ _ hn
  have : cs = s.vals.toArray := by
    cases cs; simpa [Value.cells] using hcs
  subst this
  refine ⟨s, .agg _ _ rfl fun i u hu => ?_⟩
  match i, hu with
  | 0, hu => cases hu; exact rep_int _
  | 1, hu => cases hu; exact rep_int _
  | 2, hu => cases hu; exact rep_int _
  | 3, hu => cases hu; exact rep_int _
  | 4, hu => cases hu; exact rep_int _
  | 5, hu => cases hu; exact rep_int _
  | 6, hu => cases hu; exact rep_int _
  | 7, hu => cases hu; exact rep_int _
  | 8, hu => cases hu; exact rep_int _
  | 9, hu => cases hu; exact rep_int _
  | 10, hu => cases hu; exact rep_int _
  | 11, hu => cases hu; exact rep_int _
  | i + 12, hu => cases hu

set_option maxRecDepth 20000 in
theorem bytes_rep {v : Value} {d : DataW H} {ps : List MemPlace} {r : Reach} {b0 : Nat} {ι : Nat → Option Nat}
    (hval : Value.okWide Try.prog W r b0 26 v) (h : DataW.Trod enc Try.prog W 0 spare held 26 v d ps) : ∃ l : Bytes, ARep W (· < W.heap.size) ι (bA l) v :=
  rep_slice Try.underlying26 hval h (fun b : UInt8 => [u8 b]) 1 c5 (by decide) fun n cs x hx => by
    obtain ⟨a, e, _, w⟩ := DataW.trod_int Try.underlying5 hx
    obtain ⟨b, rfl⟩ := u8_of w
    refine ⟨b, rfl, fun i u hu v hv => ?_⟩
    rw [e] at hv
    match i, hu, hv with
    | 0, hu, hv => simp at hu hv; subst hu; subst hv; exact raw_int _ _
    | i + 1, hu, hv => simp at hu
end
end Go.Proofs.Ytmdponffajapjaa.AL

/- What a list of bytes reads as (seat rc). -/
namespace Go.Proofs.Ytmdponffajapjaa.AL
open Go Go.RowKit Go.ChangeShapes Go.WideShapes Go.ChangeAt Go.Deep Go.Proofs
section
variable {H : Type} {enc : TypeId × Value → H} {W : World} {spare : Nat → Bool} {held : Bool}
theorem byte_el (n : Nat) (cs : List Value) (x : DataW H × List MemPlace) (hx : DataW.trod enc Try.prog W 0 spare held n 5 cs = some x) : ∃ b : UInt8, ([u8 b] : List PV).length = 1 ∧ ∀ (i : Nat) (u : PV), ([u8 b] : List PV)[i]? = some u → ∀ v : Value, cs[i]? = some v → PRep W (· < W.heap.size) u v := by
  obtain ⟨a, e, _, w⟩ := DataW.trod_int Try.underlying5 hx
  obtain ⟨b, rfl⟩ := u8_of w
  refine ⟨b, rfl, fun i u hu v hv => ?_⟩
  rw [e] at hv
  match i, hu, hv with
  | 0, hu, hv => simp at hu hv; subst hu; subst hv; exact raw_int _ _
  | i + 1, hu, hv => simp at hu
set_option maxRecDepth 20000 in
theorem lists_rep {v : Value} {d : DataW H} {ps : List MemPlace} {r : Reach} {b0 : Nat} {ι : Nat → Option Nat}
    (hval : Value.okWide Try.prog W r b0 36 v) (h : DataW.Trod enc Try.prog W 0 spare held 36 v d ps) : ∃ l : List Bytes, ARep W (· < W.heap.size) ι (.p (.sl 1 (catX l))) v :=
  rep_slice Try.underlying36 hval h (fun b : Bytes => [bP b]) 1 c26 (by decide) fun n cs x hx => by
    obtain ⟨l, v, hv, hp⟩ := rep_sliceT Try.underlying26 hx (fun b : UInt8 => [u8 b]) 1 c5 (by decide) byte_el
    refine ⟨l, rfl, fun i u hu w hw => ?_⟩
    rw [hv] at hw
    match i, hu, hw with
    | 0, hu, hw => simp at hu hw; subst hu; subst hw; exact hp
    | i + 1, hu, hw => simp at hu
end
end Go.Proofs.Ytmdponffajapjaa.AL

/- The law SupLeft. -/
namespace Go.Proofs.Ytmdponffajapjaa.AL
open Go Go.Proofs

def kb (l : Bool × Bool × Bool × Bool) : Nat → Bool
  | 0 => l.1
  | 1 => l.2.1
  | 2 => l.2.2.1
  | 3 => l.2.2.2
  | _ => false
def kP (l : Bool × Bool × Bool × Bool) : List PV := [.raw (.bool l.1), .raw (.bool l.2.1), .raw (.bool l.2.2.1), .raw (.bool l.2.2.2)]
def kA (l : Bool × Bool × Bool × Bool) : AV := .agg [bl l.1, bl l.2.1, bl l.2.2.1, bl l.2.2.2]
def leftK (lost : Nat → Bool) : Nat → Bool
  | 0 => false
  | k + 1 => !lost k || leftK lost k
theorem leftK_any (lost : Nat → Bool) : (List.range 4).any (fun k => !(decide (k < 4) && lost k)) = leftK lost 4 := by
  show (!(true && lost 0) || (!(true && lost 1) || (!(true && lost 2) || (!(true && lost 3) || false)))) = (!lost 3 || (!lost 2 || (!lost 1 || (!lost 0 || false))))
  cases lost 0 <;> cases lost 1 <;> cases lost 2 <;> cases lost 3 <;> rfl

set_option maxRecDepth 20000 in
theorem sup_left (x : Sup) (l : Bool × Bool × Bool × Bool) : AF Try.prog f_law10_SupLeft [x.av, kA l] [] (Pure (bl true) []) := by
  refine AF.mono (R := fun r H' => ∃ z, z = true ∧ r = bl z ∧ H' = []) ?_ (by rintro r H' ⟨b, rfl, rfl, rfl⟩; exact ⟨rfl, rfl⟩)
  have wm := sup_May x
  refine af_body hT F_law10_SupLeft rfl rfl N_law10_SupLeft rfl ?_
  refine aw_seq (aw_region hT ?_)
  refine aw_wk (wk_boxL 0 x.pv rfl rfl) ?_
  refine aw_wk (wk_boxL 1 (kP l) rfl rfl) ?_
  refine aw_seq (aw_region hT ?_)
  refine callP (af_at law10_awake _ rfl rfl) ?_
  refine aw_cut ⟨⟨69, [(2, .p (.box x.pv)), (3, .p (.box (kP l)))]⟩, []⟩ (x.may = true) (aw_seq (aw_region hT ?_)) ?_
  · refine callP (af_at wm _ rfl rfl) ?_
    refine aw_cond (boolI (fun h => ?_) (fun h => ?_))
    · refine aw_seq (aw_region hT ?_)
      refine aw_ret ?_
      exact retPick [] ⟨true, rfl, rfl, rfl⟩ rfl
    · have h : (!x.may) = false := h
      exact aw_skip ⟨wk_pick [] [2, 3] rfl, (Bool.not_eq_false' _).mp h⟩
  intro hm
  have c1 := cleanP_new 8 0
  have n1 := disk_New 8 (by omega) (by omega)
  generalize Dev.new 8 = D1 at n1 c1
  obtain ⟨D2, i1, c2, hc2⟩ := installP hm c1 (by omega)
  have w2 := sup_Install D1 x 0 c1.ok (by omega)
  rw [i1] at w2
  have hl : ∀ k : Nat, k ≤ 4 → CleanP (loses D2 (kb l) k) 8 (0 + 4 + k) := fun k hk => (losesP c2 (kb l) k (by omega)).1
  obtain ⟨c3, r3⟩ := leftP hm c2 (by omega) hc2 (kb l) (n := 4) (by omega)
  rw [leftK_any] at r3
  have w3 := sup_Read (loses D2 (kb l) 4) _ c3.ok (by omega)
  rw [r3] at w3
  generalize (loses D2 (kb l) 4).supRead.2 = D4 at w3
  refine aw_cut ⟨⟨69, [(2, .p (.box x.pv)), (3, .p (.box (kP l))), (6, .ref 0 0)]⟩, devH D1⟩ True (aw_region hT ?_) (fun _ => ?_)
  · refine callP n1 ?_
    exact ⟨wk_pick [0, 1, 2] [2, 3, 6] rfl, trivial⟩
  refine aw_cut ⟨⟨69, [(2, .p (.box x.pv)), (3, .p (.box (kP l))), (6, .ref 0 0), (8, i64 0)]⟩, devH D2⟩ True (aw_region hT ?_) (fun _ => ?_)
  · refine callP (af_in [0, 1, 2] w2 rfl rfl rfl) ?_
    exact ⟨wk_pick [0, 3, 4] [2, 3, 6, 8] rfl, trivial⟩
  refine aw_seq (aw_region hT ?_)
  refine aw_cut ⟨⟨69, [(2, .p (.box x.pv)), (6, .ref 0 0), (8, i64 0), (9, bl (leftK (kb l) 4))]⟩, devH (loses D2 (kb l) 4)⟩ True (aw_seq (aw_region hT ?_)) (fun _ => ?_)
  · refine aw_block ?_
    refine aw_loopW (fun n s => ∃ (k : Nat) (j : Int) (E : Dev) (g : Bool), n + k = 4 ∧ j = k ∧ E = loses D2 (kb l) k ∧ g = leftK (kb l) k ∧ s = ⟨⟨69, [(2, .p (.box x.pv)), (3, .p (.box (kP l))), (6, .ref 0 0), (8, i64 0), (9, bl g), (10, i64 j)]⟩, devH E⟩) 4 ⟨⟨69, _⟩, _⟩ (wk_pick [0, 1, 2] [2, 3, 6, 8, 9, 10] rfl) ⟨0, 0, D2, false, rfl, rfl, rfl, rfl, rfl⟩ ?_
    rintro n s ⟨k, j, E, g, hnk, rfl, hE, hg, rfl⟩
    refine aw_seq (aw_seq (aw_region hT ?_))
    refine aw_cond (boolI (fun h => ?_) (fun h => ?_))
    · have hk := of_decide_eq_true (show decide ((k : Int) < 4) = true from h)
      have ce := hl k (by omega)
      rw [← hE] at ce
      have w := disk_Fault E (loseF k) _ ce.ok (by omega)
      have eE : kb l k = true → loses D2 (kb l) (k + 1) = (E.fault (loseF k)).2 := fun e => by rw [hE, loses, e]
      have eE2 : kb l k = false → loses D2 (kb l) (k + 1) = E := fun e => by rw [hE, loses, e]
      have eg : leftK (kb l) (k + 1) = (!kb l k || g) := by rw [hg]; rfl
      obtain ⟨b, hb⟩ : ∃ b, b = kb l k := ⟨_, rfl⟩
      rw [← hb] at eE eE2 eg
      generalize E.fault (loseF k) = Y at w eE
      obtain ⟨f, F⟩ := Y
      have w : AFm Try.prog 3 f_disk_Disk_Fault [.ref 0 0, (loseF k).av] (devH E) (Pure (i64 f) (devH F)) := w
      have eE : b = true → loses D2 (kb l) (k + 1) = F := eE
      obtain ⟨G, hG⟩ : ∃ G, G = loses D2 (kb l) (k + 1) := ⟨_, rfl⟩
      refine aw_skip ?_
      refine aw_cut ⟨⟨69, [(2, .p (.box x.pv)), (3, .p (.box (kP l))), (6, .ref 0 0), (8, i64 0), (9, bl (!b || g)), (10, i64 k)]⟩, devH G⟩ True (aw_block (aw_seq (aw_region hT ?_))) (fun _ => ?_)
      · refine ⟨⟨Int.natCast_nonneg _, by omega⟩, ?_⟩
        have hk4 : k = 0 ∨ k = 1 ∨ k = 2 ∨ k = 3 := by omega
        rcases hk4 with rfl | rfl | rfl | rfl
        all_goals
          refine aw_cond (boolI (fun h => ?_) (fun h => ?_))
          · have h : b = true := hb.trans h
            rw [hG, eE h, h]
            refine aw_region hT ?_
            refine callP (af_in [0, 1, 2] w rfl rfl rfl) ?_
            exact ⟨wk_pick [0, 1, 2] [2, 3, 6, 8, 9, 10] rfl, trivial⟩
          · have h : b = false := hb.trans h
            rw [hG, eE2 h, h]
            refine aw_region hT ?_
            exact ⟨wk_pick [0, 1, 2] [2, 3, 6, 8, 9, 10] rfl, trivial⟩
      · refine aw_region hT ?_
        refine ⟨n - 1, by omega, _, wk_pick [0, 1, 2] [2, 3, 6, 8, 9, 10] rfl, k + 1, IntKind.i64.wrap ((k : Int) + 1), G, _, by omega, ?_, hG, eg.symm, rfl⟩
        rw [wrap64 _ (by omega) (by omega)]; rfl
    · have hk := of_decide_eq_false (show decide ((k : Int) < 4) = false from h)
      have hk3 : k = 4 := by omega
      rw [hk3] at hE hg
      rw [← hE, ← hg]
      refine aw_exit ?_
      exact ⟨wk_pick [0, 1, 2] [2, 6, 8, 9] rfl, trivial⟩
  generalize leftK (kb l) 4 = g at w3
  cases g with
  | true =>
    refine aw_cut ⟨⟨69, [(2, .p (.box x.pv)), (8, i64 0), (9, bl true), (11, .ref 0 0), (12, i64 0)]⟩, [supC x]⟩ True (aw_region hT ?_) (fun _ => ?_)
    · refine callP (af_in [0, 1, 2] w3 rfl rfl rfl) ?_
      exact ⟨wk_pick [3] [2, 8, 9, 11, 12] rfl, trivial⟩
    refine aw_seq (aw_seq (aw_region hT ?_))
    refine aw_cond ?_
    refine aw_skip ?_
    refine aw_seq (aw_region hT ?_)
    refine ⟨.bool true, fun w => (eq_super _ _ x x w).trans (by rw [decide_eq_true rfl]), rfl, ?_⟩
    refine aw_ret ?_
    exact retPick [] ⟨_, rfl, rfl, rfl⟩ rfl
  | false =>
    refine aw_cut ⟨⟨69, [(2, .p (.box x.pv)), (8, i64 0), (9, bl false), (11, .ref 0 0), (12, i64 22)]⟩, [supC Sup.zero]⟩ True (aw_region hT ?_) (fun _ => ?_)
    · refine callP (af_in [0, 1, 2] w3 rfl rfl rfl) ?_
      exact ⟨wk_pick [3] [2, 8, 9, 11, 12] rfl, trivial⟩
    refine aw_seq (aw_seq (aw_region hT ?_))
    refine aw_cond ?_
    refine aw_seq (aw_region hT ?_)
    refine ⟨.bool true, fun w => (eq_super _ _ Sup.zero Sup.zero w).trans (by rw [decide_eq_true rfl]), rfl, ?_⟩
    refine aw_ret ?_
    exact retPick [] ⟨_, rfl, rfl, rfl⟩ rfl
end Go.Proofs.Ytmdponffajapjaa.AL

/- The layers 04, 07 and 10: sectors that are changed later. -/
namespace Go.Proofs.Ytmdponffajapjaa.AL
open Go Go.Proofs Go.Proofs.Ytmdponffajapjaa.AL.Crc

theorem crc_SealM (l : Bytes) (hl : l.length ≤ 900000) : AF Try.prog f_crc_Seal [bA l] [] (Pure (.msl 0 1 0 (bx (sealB l)).length) [.row t_u8 1 (bx (sealB l))]) := by
  have w := slices_ConcatM [l, leB 4 (sum l).toNat] (by simp) (by simp [leB_len]; omega)
  have e : [l, leB 4 (sum l).toNat].flatten = sealB l := by simp [sealB]
  rw [e] at w
  refine af_body hT F_crc_Seal rfl rfl N_crc_Seal rfl ?_
  refine aw_seq (aw_region hT ?_)
  refine aw_seq (aw_regionF (fun k => Nat.beq 4 k) hT ?_)
  refine callP (crc_Sum l (by omega)) ?_
  refine callP (crc_four (sum l).toNat) ?_
  refine ⟨⟨rfl, rfl⟩, ?_⟩
  refine callP w ?_
  refine aw_ret ?_
  exact retPick [0] ⟨rfl, rfl⟩ rfl


set_option maxRecDepth 20000 in
theorem block_Seal_okM (k v a e q : Nat) (body : Bytes) (hn : (Blk.mk k v a e q body).nums = true) (hb : body.length ≤ 228) :
    AF Try.prog f_block_Seal [(Blk.mk k v a e q body).av] [] (Pure (.tup [.msl 0 1 0 (bx (sealB (Blk.mk k v a e q body).all)).length, i64 0]) [.row t_u8 1 (bx (sealB (Blk.mk k v a e q body).all))]) := by
  have hbl := bx_len body
  have hall := all_len (Blk.mk k v a e q body) hb
  refine af_body hT F_block_Seal rfl rfl N_block_Seal rfl ?_
  refine aw_seq (aw_region hT ?_)
  refine aw_wk (wk_boxL 0 (Blk.mk k v a e q body).pv rfl rfl) ?_
  have wn := block_numbers (Blk.mk k v a e q body)
  rw [hn] at wn
  refine aw_cut ⟨⟨46, [(1, .p (.box (Blk.mk k v a e q body).pv))]⟩, []⟩ True (aw_block (aw_seq (aw_region hT ?_))) (fun _ => ?_)
  · refine callP (af_at wn _ rfl rfl) ?_
    refine aw_cond ?_
    refine aw_seq (aw_region hT ?_)
    refine aw_cond (boolI (fun h => ?_) (fun h => ?_))
    · have h := of_decide_eq_true (show decide (((bx body).length : Int) > 228) = true from h)
      omega
    · exact aw_skip ⟨wk_pick [] [1] rfl, trivial⟩
  have l1 := block_lay [[u8 81], [u8 77], [.raw (.int .u8 (IntKind.u8.wrap (k : Int)))], [u8 0]] 4 [v, a, e, q] (by simp) (by omega) (by simp)
  generalize hM : [[u8 81], [u8 77], [PV.raw (.int .u8 (IntKind.u8.wrap (k : Int)))], [u8 0]] ++ bx (layB 4 [v, a, e, q]) = M at l1
  have hMl : M.length = 20 := by rw [← hM, List.length_append, bx_len, layB_len]; rfl
  have l2 := block_lay M 2 [(bx body).length, 0] (by omega) (by omega) (by simp)
  have hH : M ++ bx (layB 2 [(bx body).length, 0]) = bx (Blk.mk k v a e q body).head := by
    unfold Blk.head
    rw [hbl, bx_app, bx_app, ← hM, u8_wrapN]
    rfl
  have hhl := head_len (Blk.mk k v a e q body)
  refine aw_cut ⟨⟨46, [(1, .p (.box (Blk.mk k v a e q body).pv)), (4, .msl 0 1 0 M.length)]⟩, [.row t_u8 1 M]⟩ True (aw_regionF (fun k => Nat.beq 12 k) hT ?_) (fun _ => ?_)
  · refine ⟨⟨rfl, rfl⟩, ?_⟩
    refine callP (af_in [0] l1 rfl rfl rfl) ?_
    exact ⟨wk_pick [1] [1, 4] rfl, trivial⟩
  refine aw_cut ⟨⟨46, [(1, .p (.box (Blk.mk k v a e q body).pv)), (4, .p (.sl 1 (bx (Blk.mk k v a e q body).head)))]⟩, []⟩ True (aw_regionF (fun k => Nat.beq 4 k) hT ?_) (fun _ => ?_)
  · refine ⟨⟨rfl, rfl⟩, ?_⟩
    refine callP (af_in [0] l2 rfl rfl rfl) ?_
    refine ⟨Wk.trans (wk_pick [1] [1, 4] rfl) (Wk.trans (wk_frzE 4 0 _ hH rfl rfl rfl) (wk_pick [] [1, 4] rfl)), trivial⟩
  generalize hA : (Blk.mk k v a e q body).all = A at hall
  have hcopy : setL (setL (List.replicate 252 [u8 0]) 0 (bx (Blk.mk k v a e q body).head)) 24 (bx body) = bx A := by
    rw [← hA]
    unfold Blk.all
    rw [bx_app, bx_app]
    have h1 : (bx (Blk.mk k v a e q body).head).length = 24 := by rw [bx_len, hhl]
    have e1 : setL (List.replicate 252 [u8 0]) 0 (bx (Blk.mk k v a e q body).head) = bx (Blk.mk k v a e q body).head ++ List.replicate 228 [u8 0] := by
      unfold setL; rw [h1, List.take_zero, List.drop_replicate, List.nil_append]
    rw [e1]
    unfold setL
    rw [List.take_append_of_le_length (by omega), List.take_of_length_le (by omega), List.drop_append, List.drop_replicate, h1, hbl]
    rw [List.drop_eq_nil_of_le (by omega), List.nil_append]
    rw [show (228 : Nat) - (24 + body.length - 24) = 228 - body.length by omega]
    congr 1
    unfold bx; rw [List.map_replicate]
  refine aw_seq (aw_region hT ?_)
  refine ⟨⟨rfl, by omega, by decide, by omega⟩, ?_⟩
  refine aw_cut ⟨⟨46, [(1, .p (.box (Blk.mk k v a e q body).pv)), (5, .msl 0 1 0 252)]⟩, [.row t_u8 1 (setL (List.replicate 252 [u8 0]) 0 (bx (Blk.mk k v a e q body).head))]⟩ True (aw_region hT ?_) (fun _ => ?_)
  · have h1 : (bx (Blk.mk k v a e q body).head).length = 24 := by rw [bx_len, hhl]
    refine ⟨⟨?_, ?_⟩, ?_⟩
    · show 0 + 252 ≤ (List.replicate 252 _).length
      rw [List.length_replicate]; omega
    · show (bx (Blk.mk k v a e q body).head).length ≤ 252
      omega
    exact ⟨wk_pick [0] [1, 5] rfl, trivial⟩
  have hl0 : (setL (List.replicate 252 [u8 0]) 0 (bx (Blk.mk k v a e q body).head)).length = 252 := by
    rw [setL_length (by rw [List.length_replicate, bx_len, hhl]; omega), List.length_replicate]
  generalize hS : setL (List.replicate 252 [u8 0]) 0 (bx (Blk.mk k v a e q body).head) = S at hcopy hl0
  refine aw_cut ⟨⟨46, [(5, .p (.sl 1 (bx A)))]⟩, []⟩ True ?_ (fun _ => ?_)
  · refine aw_draw [4] [] hT follows_mixed (by rfl) ?_
    refine ⟨⟨by omega, by decide, Int.le_refl _⟩, ?_⟩
    refine ⟨⟨?_, ?_⟩, ?_⟩
    · show 0 + 24 + (252 - 24) ≤ S.length
      omega
    · show (bx body).length ≤ 252 - 24
      omega
    have hSl : (setL S 24 (bx body)).length = 252 := by rw [setL_length (by omega), hl0]
    exact ⟨Wk.trans (wk_frzE 5 0 252 hcopy hSl.symm rfl rfl) (wk_pick [] [5] rfl), trivial⟩
  · refine aw_seq (aw_region hT ?_)
    refine callP (crc_SealM A (by omega)) ?_
    refine aw_ret ?_
    exact retPick [0] ⟨rfl, rfl⟩ rfl

set_option maxRecDepth 20000 in
theorem sup_SectorM {x : Sup} {i : Int} (hm : x.may = true) (h0i : 0 ≤ i) (h4i : i < 4) : AF Try.prog f_sup_Sector [x.av, i64 i] [] (Pure (.tup [.msl 0 1 0 (bx (sealB (x.blk i).all)).length, i64 0]) [.row t_u8 1 (bx (sealB (x.blk i).all))]) := by
  refine af_body hT F_sup_Sector rfl rfl N_sup_Sector rfl ?_
  refine aw_seq (aw_region hT ?_)
  refine aw_cut ⟨⟨32, [(1, i64 i), (2, .ref 0 0)]⟩, [supC x]⟩ True (aw_seq (aw_region hT ?_)) ?_
  · refine callP (af_at (sup_May x) _ rfl rfl) ?_
    rw [hm]
    refine boolI (fun h1 => ?_) (fun h1 => ?_)
    · have h1 : decide (i < 0) = true := h1
      exact absurd (of_decide_eq_true h1) (by omega)
    · refine aw_cond (boolI (fun h2 => ?_) (fun h2 => ?_))
      · have h2 : decide (i ≥ 4) = true := h2
        exact absurd (of_decide_eq_true h2) (by omega)
      · exact aw_skip ⟨wk_pick [0] [1, 2] rfl, trivial⟩
  intro _
  have hn := may_nine hm
  have hlen := numsD_len hn
  have hlen : (numsD x.nine).length ≤ 45 := hlen
  have wo := sup_walk_out x fun n h => ⟨(hn n h).1, by have := (hn n h).2; omega⟩
  have wa := Out_All (numsD x.nine) (by omega)
  have ws : AF Try.prog f_block_Seal [(x.blk i).av] [] (Pure (.tup [.msl 0 1 0 (bx (sealB (x.blk i).all)).length, i64 0]) [.row t_u8 1 (bx (sealB (x.blk i).all))]) := by
    obtain ⟨k, v, a, e, q, hbk, k1, k4, hv, ha, he, hq⟩ := nums_nat (may_blk hm h0i h4i).1
    have := block_Seal_okM k v a e q (x.blk i).body (by rw [← hbk]; exact (may_blk hm h0i h4i).1) (may_blk hm h0i h4i).2
    rw [← hbk] at this
    exact this
  generalize sealB (x.blk i).all = Z at ws ⊢
  unfold Sup.blk at ws
  generalize numsD x.nine = B at wo wa ws hlen
  refine aw_cut ⟨⟨32, [(1, i64 i), (2, .ref 0 0), (6, .ref 1 0)]⟩, secH x []⟩ True (aw_region hT ?_) (fun _ => ?_)
  · refine ⟨Wk.trans (wk_phantom t_u8 1) (Wk.trans (wk_cells 1 [.msl 2 1 0 0] rfl ⟨.inr (.inr (.inl ⟨2, 1, 0, rfl, rfl⟩)), trivial⟩) (wk_pick [0, 1, 2] [1, 2, 6] rfl)), trivial⟩
  refine aw_cut ⟨⟨32, [(1, i64 i), (2, .ref 0 0), (6, .ref 1 0)]⟩, secH x B⟩ True (aw_region hT ?_) (fun _ => ?_)
  · refine callP (af_in [0, 1, 2] wo rfl rfl rfl) ?_
    exact ⟨wk_pick [0, 1, 3] [1, 2, 6] rfl, trivial⟩
  refine aw_seq ?_
  refine aw_draw [9] [] hT follows_mixed (by rfl) ?_
  refine ⟨_, af_in [1, 2] wa rfl rfl rfl, ?_⟩
  refine ⟨_, _, af_lift ws _ rfl, ?_⟩
  refine aw_ret ?_
  exact retPick [3] ⟨rfl, rfl⟩ rfl
end Go.Proofs.Ytmdponffajapjaa.AL

/- The law SupFew, plain: up to four changed bytes in a row are seen. -/
namespace Go.Proofs.Ytmdponffajapjaa.AL
open Go Go.Proofs Go.Proofs.Ytmdponffajapjaa.AL.Crc

theorem word4_leB (n : Nat) : word4 (UInt8.ofNat n) (UInt8.ofNat (n / 256)) (UInt8.ofNat (n / 256 ^ 2)) (UInt8.ofNat (n / 256 ^ 3)) = BitVec.ofNat 32 n := by
  apply BitVec.eq_of_getLsbD_eq
  intro i hi
  have h1 : i = 8 * (i / 8) + i % 8 := by omega
  rw [h1, word4_bit _ _ _ _ (show i / 8 < 4 by omega) (show i % 8 < 8 by omega)]
  have key : ∀ j, j < 4 → (wd (UInt8.ofNat (n / 256 ^ j))).getLsbD (i % 8) = (BitVec.ofNat 32 n).getLsbD (8 * j + i % 8) := by
    intro j hj
    unfold wd
    rw [BitVec.getLsbD_ofNat, BitVec.getLsbD_ofNat, UInt8.toNat_ofNat', show (256 : Nat) ^ j = 2 ^ (8 * j) by rw [show (256 : Nat) = 2 ^ 8 from rfl, Nat.pow_mul], show (2 : Nat) ^ 8 = 2 ^ 8 from rfl, Nat.testBit_mod_two_pow, Nat.testBit_div_two_pow, decide_eq_true (show i % 8 < 32 by omega), decide_eq_true (show i % 8 < 8 by omega), decide_eq_true (show 8 * j + i % 8 < 32 by omega), Bool.true_and, Bool.true_and, Bool.true_and, Nat.add_comm]
  have h2 : i / 8 = 0 ∨ i / 8 = 1 ∨ i / 8 = 2 ∨ i / 8 = 3 := by omega
  rcases h2 with h | h | h | h <;> rw [h] <;> unfold sel4
  · have := key 0 (by omega); rwa [Nat.pow_zero, Nat.div_one] at this
  · have := key 1 (by omega); rwa [Nat.pow_one] at this
  · exact key 2 (by omega)
  · exact key 3 (by omega)

theorem run_whole {p : Bytes} (hp : wholeB p = true) : run all1 p = stN 32 all1 := by
  unfold wholeB at hp
  split at hp
  · rename_i h4
    have h4 := of_decide_eq_true h4
    have e : p = p.take (p.length - 4) ++ leB 4 (sum (p.take (p.length - 4))).toNat := by
      rw [← eq_of_beq hp, List.take_append_drop]
    generalize p.take (p.length - 4) = m at e
    rw [e, run_append]
    show run (run all1 m) [UInt8.ofNat ((sum m).toNat / 256 ^ 0), UInt8.ofNat ((sum m).toNat / 256 ^ 1), UInt8.ofNat ((sum m).toNat / 256 ^ 2), UInt8.ofNat ((sum m).toNat / 256 ^ 3)] = _
    rw [run4, Nat.pow_zero, Nat.div_one, Nat.pow_one, word4_leB, BitVec.ofNat_toNat, BitVec.setWidth_eq]
    congr 1
    show run all1 m ^^^ (run all1 m ^^^ all1) = all1
    rw [← BitVec.xor_assoc, BitVec.xor_self, BitVec.zero_xor]
  · exact absurd hp (by decide)

def chg (s : Bytes) (by_ : Nat → UInt8) (a : Nat) : Nat → Bytes
  | 0 => s
  | k + 1 => (chg s by_ a k).set (a + k) ((chg s by_ a k).getD (a + k) 0 ^^^ by_ k)
def chd (by_ : Nat → UInt8) : Nat → Bool
  | 0 => false
  | k + 1 => chd by_ k || by_ k != 0
theorem chg_len (s : Bytes) (b : Nat → UInt8) (a : Nat) : ∀ k, (chg s b a k).length = s.length
  | 0 => rfl
  | k + 1 => by rw [chg, List.length_set, chg_len s b a k]
theorem set_at (l r : Bytes) (x y : UInt8) (n : Nat) (h : n = l.length) : (l ++ x :: r).set n y = l ++ y :: r := by subst h; simp
theorem getD_at (l r : Bytes) (x : UInt8) (n : Nat) (h : n = l.length) : (l ++ x :: r).getD n 0 = x := by subst h; simp
theorem chg4 (l r : Bytes) (x0 x1 x2 x3 : UInt8) (b : Nat → UInt8) : chg (l ++ x0 :: x1 :: x2 :: x3 :: r) b l.length 4 = l ++ (x0 ^^^ b 0) :: (x1 ^^^ b 1) :: (x2 ^^^ b 2) :: (x3 ^^^ b 3) :: r := by
  have e1 : chg (l ++ x0 :: x1 :: x2 :: x3 :: r) b l.length 1 = l ++ (x0 ^^^ b 0) :: x1 :: x2 :: x3 :: r := by
    show (l ++ x0 :: x1 :: x2 :: x3 :: r).set (l.length + 0) ((l ++ x0 :: x1 :: x2 :: x3 :: r).getD (l.length + 0) 0 ^^^ b 0) = _
    rw [getD_at _ _ _ _ (Nat.add_zero _), set_at _ _ _ _ _ (Nat.add_zero _)]
  have e2 : chg (l ++ x0 :: x1 :: x2 :: x3 :: r) b l.length 2 = (l ++ [x0 ^^^ b 0]) ++ (x1 ^^^ b 1) :: x2 :: x3 :: r := by
    rw [chg, e1, show l ++ (x0 ^^^ b 0) :: x1 :: x2 :: x3 :: r = (l ++ [x0 ^^^ b 0]) ++ x1 :: x2 :: x3 :: r by simp]
    rw [getD_at _ _ _ _ (by simp), set_at _ _ _ _ _ (by simp)]
  have e3 : chg (l ++ x0 :: x1 :: x2 :: x3 :: r) b l.length 3 = (l ++ [x0 ^^^ b 0, x1 ^^^ b 1]) ++ (x2 ^^^ b 2) :: x3 :: r := by
    rw [chg, e2, show (l ++ [x0 ^^^ b 0]) ++ (x1 ^^^ b 1) :: x2 :: x3 :: r = (l ++ [x0 ^^^ b 0, x1 ^^^ b 1]) ++ x2 :: x3 :: r by simp]
    rw [getD_at _ _ _ _ (by simp), set_at _ _ _ _ _ (by simp)]
  rw [chg, e3, show (l ++ [x0 ^^^ b 0, x1 ^^^ b 1]) ++ (x2 ^^^ b 2) :: x3 :: r = (l ++ [x0 ^^^ b 0, x1 ^^^ b 1, x2 ^^^ b 2]) ++ x3 :: r by simp]
  rw [getD_at _ _ _ _ (by simp), set_at _ _ _ _ _ (by simp)]
  simp
theorem xorL_self : ∀ l : Bytes, xorL l l = List.replicate l.length 0
  | [] => rfl
  | x :: r => by
    show (x ^^^ x) :: xorL r r = _
    rw [xorL_self r, UInt8.xor_self]; rfl
theorem xorL_app : ∀ (l l' r r' : Bytes), l.length = l'.length → xorL (l ++ r) (l' ++ r') = xorL l l' ++ xorL r r'
  | [], [], r, r', _ => rfl
  | x :: l, y :: l', r, r', h => by
    show (x ^^^ y) :: xorL (l ++ r) (l' ++ r') = _
    rw [xorL_app l l' r r' (by simpa using h)]; rfl
  | [], _ :: _, _, _, h => by simp at h
  | _ :: _, [], _, _, h => by simp at h
theorem xor_back (x b : UInt8) : x ^^^ (x ^^^ b) = b := by rw [← UInt8.xor_assoc, UInt8.xor_self, UInt8.zero_xor]

theorem chd_all {b : Nat → UInt8} (h0 : b 0 = 0) (h1 : b 1 = 0) (h2 : b 2 = 0) (h3 : b 3 = 0) : chd b 4 = false := by
  unfold chd chd chd chd chd; rw [h0, h1, h2, h3]; rfl
theorem chd_none {b : Nat → UInt8} (h : chd b 4 = false) : b 0 = 0 ∧ b 1 = 0 ∧ b 2 = 0 ∧ b 3 = 0 := by
  unfold chd chd chd chd chd at h
  simp only [Bool.or_eq_false_iff, bne_eq_false_iff_eq] at h
  exact ⟨h.1.1.1.2, h.1.1.2, h.1.2, h.2⟩

theorem few_whole {s : Bytes} (hs : wholeB s = true) (hl : s.length = 256) (b : Nat → UInt8) {a : Nat} (ha : a ≤ 252) (hp : wholeB (chg s b a 4) = true) : b 0 = 0 ∧ b 1 = 0 ∧ b 2 = 0 ∧ b 3 = 0 := by
  obtain ⟨l, r, x0, x1, x2, x3, rfl, rfl⟩ : ∃ l r x0 x1 x2 x3, s = l ++ x0 :: x1 :: x2 :: x3 :: r ∧ a = l.length := by
    have h1 : (s.drop a).length = 256 - a := by rw [List.length_drop, hl]
    match hd : s.drop a, h1 with
    | x0 :: x1 :: x2 :: x3 :: r, _ => exact ⟨s.take a, r, x0, x1, x2, x3, by rw [← hd, List.take_append_drop], by rw [List.length_take]; omega⟩
    | [], h => simp at h; omega
    | [_], h => simp at h; omega
    | [_, _], h => simp at h; omega
    | [_, _, _], h => simp at h; omega
  have h1 := run_whole hs
  have h2 := run_whole hp
  rw [chg4] at h2
  have h3 := run_diff (l ++ x0 :: x1 :: x2 :: x3 :: r) (l ++ (x0 ^^^ b 0) :: (x1 ^^^ b 1) :: (x2 ^^^ b 2) :: (x3 ^^^ b 3) :: r) all1 all1 (by simp)
  rw [h1, h2, BitVec.xor_self, BitVec.xor_self, xorL_app _ _ _ _ rfl, xorL_self] at h3
  have e : xorL (x0 :: x1 :: x2 :: x3 :: r) ((x0 ^^^ b 0) :: (x1 ^^^ b 1) :: (x2 ^^^ b 2) :: (x3 ^^^ b 3) :: r) = [b 0, b 1, b 2, b 3] ++ List.replicate r.length 0 := by
    show (x0 ^^^ (x0 ^^^ b 0)) :: (x1 ^^^ (x1 ^^^ b 1)) :: (x2 ^^^ (x2 ^^^ b 2)) :: (x3 ^^^ (x3 ^^^ b 3)) :: xorL r r = _
    rw [xor_back, xor_back, xor_back, xor_back, xorL_self]; rfl
  rw [e, ← List.append_assoc] at h3
  exact run_burst h3.symm

theorem few_told {x : Sup} {i : Int} (hm : x.may = true) (h0 : 0 ≤ i) (h4 : i < 4) (b : Nat → UInt8) {a : Nat} (ha : a ≤ 252) :
    toldB (chg (sealB (x.blk i).all) b a 4) i = match chd b 4 with | true => (Sup.zero, false) | false => (x, true) := by
  obtain ⟨e1, e2⟩ := sector_ok hm h0 h4
  have ht := told_sector hm h0 h4
  rw [e1] at ht
  have hl : (sealB (x.blk i).all).length = 256 := by rw [sealB_len, all_len _ (may_blk hm h0 h4).2]
  have hw := whole_seal (x.blk i).all
  generalize sealB (x.blk i).all = s at ht hl hw
  have ht : toldB s i = (x, true) := ht
  cases hc : chd b 4 with
  | true =>
    have hn : wholeB (chg s b a 4) = false := by
      cases hq : wholeB (chg s b a 4) with
      | false => rfl
      | true =>
        obtain ⟨b0, b1, b2, b3⟩ := few_whole hw hl b ha hq
        rw [chd_all b0 b1 b2 b3] at hc
        exact absurd hc (by decide)
    have ho : (openB (chg s b a 4)).2 = 7 := by
      unfold openB
      rw [chg_len, hl, hn]; rfl
    unfold toldB
    rw [ho]; rfl
  | false =>
    obtain ⟨b0, b1, b2, b3⟩ := chd_none hc
    have : chg s b a 4 = s := by
      have st : ∀ k y, b k = 0 → y = s → y.set (a + k) (y.getD (a + k) 0 ^^^ b k) = s := by
        rintro k y hb rfl
        rw [hb, UInt8.xor_zero]
        apply List.ext_getElem?
        intro j
        rw [List.getElem?_set]
        split
        · rename_i e; subst e
          split
          · rename_i h; simp [h]
          · rename_i h; simp at h; simp [h]
        · rfl
      exact st 3 _ b3 (st 2 _ b2 (st 1 _ b1 (st 0 _ b0 rfl)))
    rw [this, ht]
end Go.Proofs.Ytmdponffajapjaa.AL

/- The law SupFew. -/
namespace Go.Proofs.Ytmdponffajapjaa.AL
open Go Go.Proofs Go.Proofs.Ytmdponffajapjaa.AL.Crc

def fb (l : UInt8 × UInt8 × UInt8 × UInt8) : Nat → UInt8
  | 0 => l.1
  | 1 => l.2.1
  | 2 => l.2.2.1
  | 3 => l.2.2.2
  | _ => 0
def fP (l : UInt8 × UInt8 × UInt8 × UInt8) : List PV := [u8 l.1, u8 l.2.1, u8 l.2.2.1, u8 l.2.2.2]
def fA (l : UInt8 × UInt8 × UInt8 × UInt8) : AV := .agg [.p (u8 l.1), .p (u8 l.2.1), .p (u8 l.2.2.1), .p (u8 l.2.2.2)]

theorem u8_nz (b : UInt8) : (b != 0) = ((b.toNat : Int) != 0) := by
  cases h : b != 0 with
  | true =>
    have h := bne_iff_ne.1 h
    symm
    rw [bne_iff_ne]
    intro e
    exact h (UInt8.toNat_inj.1 (by rw [show b.toNat = 0 by omega]; rfl))
  | false =>
    have h : b = 0 := by simpa using h
    subst h; rfl

set_option maxRecDepth 20000 in
theorem sup_few (x : Sup) (i a : Int) (l : UInt8 × UInt8 × UInt8 × UInt8) : AF Try.prog f_law10_SupFew [x.av, i64 i, i64 a, fA l] [] (Pure (bl true) []) := by
  refine AF.mono (R := fun r H' => ∃ z, z = true ∧ r = bl z ∧ H' = []) ?_ (by rintro r H' ⟨b, rfl, rfl, rfl⟩; exact ⟨rfl, rfl⟩)
  have wm := sup_May x
  refine af_body hT F_law10_SupFew rfl rfl N_law10_SupFew rfl ?_
  refine aw_seq (aw_region hT ?_)
  refine aw_wk (wk_boxL 0 x.pv rfl rfl) ?_
  refine aw_wk (wk_boxL 1 (fP l) rfl rfl) ?_
  refine aw_seq (aw_region hT ?_)
  refine callP (af_at law10_awake _ rfl rfl) ?_
  refine aw_cut ⟨⟨99, [(1, i64 i), (2, i64 a), (4, .p (.box x.pv)), (7, .p (.box (fP l)))]⟩, []⟩ (x.may = true ∧ 0 ≤ i ∧ i < 4 ∧ 0 ≤ a ∧ a ≤ 252) (aw_seq (aw_region hT ?_)) ?_
  · refine callP (af_at wm _ rfl rfl) ?_
    have out : AW Try.prog none 0 (.skip) ⟨⟨0, []⟩, []⟩ (fun _ _ => True) := aw_skip trivial
    refine boolI (fun h => ?_) (fun h => ?_)
    · refine aw_cond ?_
      refine aw_seq (aw_region hT ?_)
      refine aw_ret ?_
      exact retPick [] ⟨true, rfl, rfl, rfl⟩ rfl
    have h : (!x.may) = false := h
    refine boolI (fun h1 => ?_) (fun h1 => ?_)
    · refine aw_cond ?_
      refine aw_seq (aw_region hT ?_)
      refine aw_ret ?_
      exact retPick [] ⟨true, rfl, rfl, rfl⟩ rfl
    have h1 := of_decide_eq_false (show decide (i < 0) = false from h1)
    refine boolI (fun h2 => ?_) (fun h2 => ?_)
    · refine aw_cond ?_
      refine aw_seq (aw_region hT ?_)
      refine aw_ret ?_
      exact retPick [] ⟨true, rfl, rfl, rfl⟩ rfl
    have h2 := of_decide_eq_false (show decide (i > 3) = false from h2)
    refine boolI (fun h3 => ?_) (fun h3 => ?_)
    · refine aw_cond ?_
      refine aw_seq (aw_region hT ?_)
      refine aw_ret ?_
      exact retPick [] ⟨true, rfl, rfl, rfl⟩ rfl
    have h3 := of_decide_eq_false (show decide (a < 0) = false from h3)
    refine aw_cond (boolI (fun h4 => ?_) (fun h4 => ?_))
    · refine aw_seq (aw_region hT ?_)
      refine aw_ret ?_
      exact retPick [] ⟨true, rfl, rfl, rfl⟩ rfl
    have h4 := of_decide_eq_false (show decide (a > 252) = false from h4)
    exact aw_skip ⟨wk_pick [] [1, 2, 4, 7] rfl, (Bool.not_eq_false' _).mp h, by omega, by omega, by omega, by omega⟩
  rintro ⟨hm, i0, i4, a0, a1⟩
  obtain ⟨A, rfl⟩ : ∃ A : Nat, a = A := ⟨a.toNat, by omega⟩
  have ws := sup_SectorM hm i0 i4
  have ht := few_told hm i0 i4 (fb l) (a := A) (by omega)
  have hl : (sealB (x.blk i).all).length = 256 := by rw [sealB_len, all_len _ (may_blk hm i0 i4).2]
  generalize sealB (x.blk i).all = S at ws ht hl
  have hbl := bx_len S
  refine aw_cut ⟨⟨99, [(1, i64 i), (2, i64 A), (4, .p (.box x.pv)), (7, .p (.box (fP l))), (10, .msl 0 1 0 256), (11, i64 0)]⟩, [.row t_u8 1 (bx S)]⟩ True (aw_region hT ?_) (fun _ => ?_)
  · refine callP ws ?_
    rw [hbl, hl]
    exact ⟨wk_pick [0] [1, 2, 4, 7, 10, 11] rfl, trivial⟩
  refine aw_seq (aw_seq (aw_region hT ?_))
  refine aw_cond ?_
  refine aw_skip ?_
  refine aw_seq (aw_region hT ?_)
  refine aw_cut ⟨⟨99, [(1, i64 i), (4, .p (.box x.pv)), (10, .p (.sl 1 (bx (chg S (fb l) A 4)))), (12, bl (chd (fb l) 4))]⟩, []⟩ True (aw_seq (aw_region hT ?_)) (fun _ => ?_)
  · refine aw_block ?_
    refine aw_loopW (fun n s => ∃ (k : Nat) (j : Int) (T : Bytes) (g : Bool), n + k = 4 ∧ j = k ∧ T = chg S (fb l) A k ∧ g = chd (fb l) k ∧ s = ⟨⟨99, [(1, i64 i), (2, i64 A), (4, .p (.box x.pv)), (7, .p (.box (fP l))), (10, .msl 0 1 0 256), (12, bl g), (13, i64 j)]⟩, [.row t_u8 1 (bx T)]⟩) 4 ⟨⟨99, _⟩, _⟩ (wk_pick [0] [1, 2, 4, 7, 10, 12, 13] rfl) ⟨0, 0, S, false, rfl, rfl, rfl, rfl, rfl⟩ ?_
    rintro n s ⟨k, j, T, g, hnk, rfl, hT', hg, rfl⟩
    have hTl : T.length = 256 := by rw [hT', chg_len, hl]
    have hTb := bx_len T
    refine aw_seq (aw_seq (aw_region hT ?_))
    refine aw_cond (boolI (fun h => ?_) (fun h => ?_))
    · have hk := of_decide_eq_true (show decide ((k : Int) < 4) = true from h)
      have hw : IntKind.i64.wrap ((A : Int) + k) = ((A + k : Nat) : Int) := by rw [wrap64 _ (by omega) (by omega)]; omega
      have hx := List.getElem?_eq_getElem (show A + k < T.length by omega)
      have hgd : T.getD (A + k) 0 = T[A + k]'(by omega) := by rw [List.getD_eq_getElem?_getD, hx]; rfl
      generalize T[A + k]'(by omega) = c at hx hgd
      have hxp : (bx T)[0 + (IntKind.i64.wrap ((A : Int) + k)).toNat]? = some [u8 c] := by rw [hw, Int.toNat_natCast, Nat.zero_add]; exact bx_get hx
      obtain ⟨T', hT2⟩ : ∃ T', T' = chg S (fb l) A (k + 1) := ⟨_, rfl⟩
      have hset : (bx T).set (0 + (IntKind.i64.wrap ((A : Int) + k)).toNat) [.raw (.int .u8 (IntKind.u8.wrap ((BitVec.ofInt 8 (c.toNat : Int) ^^^ BitVec.ofInt 8 ((fb l k).toNat : Int)).toNat : Int)))] = bx T' := by
        rw [xor_u8, hw, Int.toNat_natCast, Nat.zero_add, hT2, chg, ← hT', hgd, bx, bx, List.map_set]
      obtain ⟨g', hg'⟩ : ∃ g', g' = chd (fb l) (k + 1) := ⟨_, rfl⟩
      have hgs : g' = (g || fb l k != 0) := by rw [hg', chd, hg]
      refine aw_skip ?_
      refine aw_cut2 (fun st => ∃ q, g' = q ∧ st = ⟨⟨99, [(1, i64 i), (2, i64 A), (4, .p (.box x.pv)), (7, .p (.box (fP l))), (10, .msl 0 1 0 256), (12, bl q), (13, i64 k)]⟩, [.row t_u8 1 (bx T')]⟩) (aw_block ?_) ?_
      · have hk4 : k = 0 ∨ k = 1 ∨ k = 2 ∨ k = 3 := by omega
        rw [← hset]
        refine aw_seq ?_
        refine aw_draw [15] [] hT follows_mixed (by rfl) ?_
        refine ⟨⟨by rw [hw]; exact Int.natCast_nonneg _, by rw [hw]; show ((A + k : Nat) : Int) < ((256 : Nat) : Int); omega⟩, ?_⟩
        refine optI hxp ?_
        refine ⟨⟨Int.natCast_nonneg _, by omega⟩, ?_⟩
        rcases hk4 with rfl | rfl | rfl | rfl
        all_goals
          refine ⟨⟨by rw [hw]; exact Int.natCast_nonneg _, by rw [hw]; show ((A + _ : Nat) : Int) < ((256 : Nat) : Int); omega⟩, ?_⟩
          refine optI hxp ?_
          refine aw_region hT ?_
          refine boolI (fun h1 => ?_) (fun h1 => ?_)
          · have h1 : g = true := h1
            exact ⟨_, wk_pick [0] [1, 2, 4, 7, 10, 12, 13] rfl, true, by rw [hgs, h1]; rfl, rfl⟩
          · have h1 : g = false := h1
            refine ⟨⟨by decide, by decide⟩, ?_⟩
            exact ⟨_, wk_pick [0] [1, 2, 4, 7, 10, 12, 13] rfl, _, by rw [hgs, h1]; exact u8_nz _, rfl⟩
      · rintro _ ⟨q, rfl, rfl⟩
        refine aw_region hT ?_
        refine ⟨n - 1, by omega, _, wk_pick [0] [1, 2, 4, 7, 10, 12, 13] rfl, k + 1, IntKind.i64.wrap ((k : Int) + 1), T', g', by omega, ?_, hT2, hg', rfl⟩
        rw [wrap64 _ (by omega) (by omega)]; rfl
    · have hk := of_decide_eq_false (show decide ((k : Int) < 4) = false from h)
      have hk4 : k = 4 := by omega
      rw [hk4] at hT' hg
      rw [← hg, ← hT']
      refine aw_exit ?_
      exact ⟨Wk.trans (wk_frzE 10 0 256 rfl (by omega) rfl rfl) (wk_pick [] [1, 4, 10, 12] rfl), trivial⟩
  have w2 := sup_Told (chg S (fb l) A 4) i (by rw [chg_len]; omega)
  rw [ht] at w2
  generalize chg S (fb l) A 4 = T at w2
  generalize chd (fb l) 4 = g at w2
  cases g with
  | true =>
    refine aw_cut ⟨⟨99, [(4, .p (.box x.pv)), (12, bl true), (14, .ref 0 0), (15, bl false)]⟩, [supC Sup.zero]⟩ True (aw_region hT ?_) (fun _ => ?_)
    · refine callP (af_at w2 _ rfl rfl) ?_
      exact ⟨wk_pick [0] [4, 12, 14, 15] rfl, trivial⟩
    refine aw_seq (aw_region hT ?_)
    refine aw_ret ?_
    exact retPick [] ⟨_, rfl, rfl, rfl⟩ rfl
  | false =>
    refine aw_cut ⟨⟨99, [(4, .p (.box x.pv)), (12, bl false), (14, .ref 0 0), (15, bl true)]⟩, [supC x]⟩ True (aw_region hT ?_) (fun _ => ?_)
    · refine callP (af_at w2 _ rfl rfl) ?_
      exact ⟨wk_pick [0] [4, 12, 14, 15] rfl, trivial⟩
    refine aw_seq (aw_region hT ?_)
    refine ⟨.bool true, fun w => (eq_super _ _ x x w).trans (by rw [decide_eq_true rfl]), rfl, ?_⟩
    refine aw_ret ?_
    exact retPick [] ⟨_, rfl, rfl, rfl⟩ rfl
end Go.Proofs.Ytmdponffajapjaa.AL

/- Devices that may die in the midst of writes, and what a crash leaves of them (plain). -/
namespace Go.Proofs.Ytmdponffajapjaa.AL
open Go Go.Proofs

/-- A device of which no write goes wrong but that may die. -/
structure LiveP (D : Dev) (N b : Nat) : Prop where
  ok : D.Ok b
  dead : D.dead = false
  waits : D.waits = []
  len : D.cells.length = N
  well : ∀ c ∈ D.cells, c.drop = 0 ∧ c.miss = []
theorem CleanP.live {D : Dev} {N b : Nat} (h : CleanP D N b) : LiveP D N b := ⟨h.ok, h.dead, h.waits, h.len, h.well⟩
theorem LiveP.arm {D : Dev} {N b : Nat} (h : LiveP D N b) (n : Int) : LiveP (D.arm n) N b := ⟨h.ok.arm n, h.dead, h.waits, h.len, h.well⟩
def fine (s : Bytes) : Cell := ⟨s, false, 0, []⟩
/-- It died; this waits. -/
structure DiedP (D E : Dev) (N b : Nat) (x : Put9) : Prop where
  ok : E.Ok b
  dead : E.dead = true
  cells : E.cells = D.cells
  waits : E.waits = [] ∨ E.waits = [⟨x.at_, x.s⟩]

theorem liveP_once {D : Dev} {N b : Nat} (h : LiveP D N b) {k : Nat} (hk : k < N) {s : Bytes} (hs : s.length = 256) :
    (∃ E, D.once k s = ((true, 0), E) ∧ LiveP E N (b + 1) ∧ E.cells = D.cells.set k (fine s)) ∨ ∃ E, D.once k s = ((false, 21), E) ∧ DiedP D E N (b + 1) ⟨k, s⟩ := by
  obtain ⟨c, hc⟩ : ∃ c, D.cells[k]? = some c := ⟨_, List.getElem?_eq_getElem (by rw [h.len]; omega)⟩
  have hlt := (List.getElem?_eq_some_iff.1 hc).1
  obtain ⟨cd, cm⟩ := h.well c (List.mem_of_getElem? hc)
  have hh : D.has k = true := hasP h.len hk
  have okw := h.ok.write k s
  cases hl : D.lives.dead with
  | true =>
    have e : D.write k s = (21, D.lives) := by
      unfold Dev.write
      rw [h.dead, hh, show ((s.length : Int) != 256) = false by rw [hs]; rfl, hl]
    refine .inr ⟨D.lives, ?_, ⟨h.ok.lives.mono (Nat.le_succ _), hl, rfl, .inl h.waits⟩⟩
    unfold Dev.once; rw [e]; rfl
  | false =>
    have hput : D.lives.count.put k s = { D.lives.count with waits := [⟨k, s⟩] } := by
      unfold Dev.put
      rw [Int.toNat_natCast, show D.lives.count.cells[k]? = some c from hc]
      simp only
      rw [cd, cm]
      show { D.lives.count with waits := D.waits ++ [(⟨k, s⟩ : Wr)] } = _
      rw [h.waits]; rfl
    have e : D.write k s = (0, { D.lives.count with waits := [⟨k, s⟩] }) := by
      rw [← hput]
      unfold Dev.write
      rw [h.dead, hh, show ((s.length : Int) != 256) = false by rw [hs]; rfl, hl]
    rw [e] at okw
    simp only at okw
    have okf := okw.flush
    cases hl2 : Dev.dead (Dev.lives { D.lives.count with waits := [⟨k, s⟩] }) with
    | true =>
      have ef : Dev.flush { D.lives.count with waits := [⟨k, s⟩] } = (21, Dev.lives { D.lives.count with waits := [⟨k, s⟩] }) := by
        unfold Dev.flush
        rw [show Dev.dead { D.lives.count with waits := [⟨k, s⟩] } = false from hl, hl2]
      rw [ef] at okf
      refine .inr ⟨Dev.lives { D.lives.count with waits := [⟨k, s⟩] }, ?_, ⟨okf, hl2, rfl, .inr rfl⟩⟩
      unfold Dev.once; rw [e]; simp only; rw [ef]; rfl
    | false =>
      have ef : Dev.flush { D.lives.count with waits := [⟨k, s⟩] } = (0, (Dev.lives { D.lives.count with waits := [⟨k, s⟩] }).drain [true]) := by
        unfold Dev.flush
        rw [show Dev.dead { D.lives.count with waits := [⟨k, s⟩] } = false from hl, hl2]
      rw [ef] at okf
      have hcells : ((Dev.lives { D.lives.count with waits := [⟨k, s⟩] }).drain [true]).cells = D.cells.set k (fine s) := by
        show doneL D.cells ⟨k, s⟩ = _
        rw [doneL_some (x := ⟨k, s⟩) (show D.cells[((k : Nat) : Int).toNat]? = some c by rw [Int.toNat_natCast]; exact hc)]
        show D.cells.set ((k : Nat) : Int).toNat { c with s := s, lost := false } = _
        rw [Int.toNat_natCast, cd, cm]; rfl
      have hwell : ∀ c ∈ D.cells.set k (fine s), c.drop = 0 ∧ c.miss = [] := fun x hx => by
        rcases List.mem_or_eq_of_mem_set hx with hx | rfl
        · exact h.well x hx
        · exact ⟨rfl, rfl⟩
      have cE : LiveP ((Dev.lives { D.lives.count with waits := [⟨k, s⟩] }).drain [true]) N (b + 1) := ⟨okf, hl2, rfl, by rw [hcells, List.length_set]; exact h.len, by rw [hcells]; exact hwell⟩
      have eo : D.once k s = ((Dev.lives { D.lives.count with waits := [⟨k, s⟩] }).drain [true]).hhas k s := by
        unfold Dev.once; rw [e]; simp only; rw [ef]; rfl
      generalize (Dev.lives { D.lives.count with waits := [⟨k, s⟩] }).drain [true] = E at cE hcells eo
      have hce : E.cells[((k : Nat) : Int).toNat]? = some (fine s) := by rw [hcells, Int.toNat_natCast]; exact List.getElem?_set_self hlt
      refine .inl ⟨E.count, ?_, ⟨cE.ok.count, cE.dead, cE.waits, cE.len, cE.well⟩, hcells⟩
      rw [eo, hhasP cE.dead cE.waits (hasP cE.len hk) hce]
      simp [fine]

theorem liveP_one {D : Dev} {N b : Nat} (h : LiveP D N b) {k : Nat} (hk : k < N) {s : Bytes} (hs : s.length = 256) :
    (∃ E, D.one k s = (0, E) ∧ LiveP E N (b + 1) ∧ E.cells = D.cells.set k (fine s)) ∨ ∃ E, D.one k s = (21, E) ∧ DiedP D E N (b + 1) ⟨k, s⟩ := by
  rcases liveP_once h hk hs with ⟨E, h1, h2, h3⟩ | ⟨E, h1, h2⟩
  · refine .inl ⟨E, ?_, h2, h3⟩
    show Dev.tryK 4 D k s = _
    unfold Dev.tryK
    rw [h1]; rfl
  · refine .inr ⟨E, ?_, h2⟩
    show Dev.tryK 4 D k s = _
    unfold Dev.tryK
    rw [h1]; rfl

/-- What is written, one behind the other. -/
def putsC : List Put9 → List Cell → List Cell
  | [], cs => cs
  | p :: r, cs => putsC r (cs.set p.at_.toNat (fine p.s))
theorem putsC_len : ∀ (l : List Put9) (cs : List Cell), (putsC l cs).length = cs.length
  | [], _ => rfl
  | p :: r, cs => by rw [putsC, putsC_len r, List.length_set]
theorem putsC_app (l r : List Put9) (cs : List Cell) : putsC (l ++ r) cs = putsC r (putsC l cs) := by
  induction l generalizing cs with
  | nil => rfl
  | cons p l ih => exact ih _
/-- A put that may be. -/
def PutP (N : Nat) (p : Put9) : Prop := 0 ≤ p.at_ ∧ p.at_ < (N : Int) ∧ p.s.length = 256

theorem liveP_each {N : Nat} : ∀ (ps : List Put9) {D : Dev} {b : Nat} (m : Int), (∀ p ∈ ps, PutP N p) → LiveP D N b →
    (∃ E m', eachK oneG ps D m = (0, (E, m')) ∧ LiveP E N (b + ps.length) ∧ E.cells = putsC ps D.cells) ∨
    ∃ E m' j x, j < ps.length ∧ ps[j]? = some x ∧ eachK oneG ps D m = (21, (E, m')) ∧ E.Ok (b + ps.length) ∧ E.dead = true ∧ E.cells = putsC (ps.take j) D.cells ∧ (E.waits = [] ∨ E.waits = [⟨x.at_, x.s⟩])
  | [], D, b, m, _, h => .inl ⟨D, m, rfl, h, rfl⟩
  | p :: r, D, b, m, hp, h => by
    obtain ⟨h0, h1, h2⟩ := hp p (by simp)
    have hk : ((p.at_.toNat : Nat) : Int) = p.at_ := by omega
    have eg : ∀ e E, D.one p.at_ p.s = (e, E) → oneG D m p.at_ p.s = (e, (E, more e m)) := fun e E he => by unfold oneG; rw [he]
    rcases liveP_one h (k := p.at_.toNat) (by omega) h2 with ⟨E, g1, g2, g3⟩ | ⟨E, g1, g2⟩
    · rw [hk] at g1
      have eg := eg _ _ g1
      rcases liveP_each r (more 0 m) (fun q hq => hp q (by simp [hq])) g2 with ⟨F, m', k1, k2, k3⟩ | ⟨F, m', j, x, k0, k1, k2, k3, k4, k5, k6⟩
      · refine .inl ⟨F, m', ?_, by rw [List.length_cons, show b + (r.length + 1) = b + 1 + r.length by omega]; exact k2, by rw [k3, g3]; rfl⟩
        rw [eachK_cons, eg]; exact k1
      · refine .inr ⟨F, m', j + 1, x, by rw [List.length_cons]; omega, by rw [List.getElem?_cons_succ]; exact k1, ?_, by rw [List.length_cons, show b + (r.length + 1) = b + 1 + r.length by omega]; exact k3, k4, by rw [k5, g3]; rfl, k6⟩
        rw [eachK_cons, eg]; exact k2
    · rw [hk] at g1 g2
      have eg := eg _ _ g1
      refine .inr ⟨E, more 21 m, 0, p, by simp, rfl, ?_, g2.ok.mono (by rw [List.length_cons]; omega), g2.dead, g2.cells, g2.waits⟩
      rw [eachK_cons, eg]; rfl

/-- THE CRASH: of writes one behind the other the first ones are there, behind a crash. -/
theorem crashP {N : Nat} (ps : List Put9) {D : Dev} {b : Nat} (hp : ∀ p ∈ ps, PutP N p) (h : LiveP D N b) (keep : List Bool) :
    (D.all9 ps).2.Ok (b + ps.length) ∧ ∃ j, j ≤ ps.length ∧ CleanP ((D.all9 ps).2.crashed keep) N (b + ps.length) ∧ ((D.all9 ps).2.crashed keep).cells = putsC (ps.take j) D.cells ∧ (((D.all9 ps).1 = 0 ∧ j = ps.length) ∨ (D.all9 ps).1 = 21) := by
  have wellS : ∀ (l : List Put9) (cs : List Cell), (∀ c ∈ cs, c.drop = 0 ∧ c.miss = []) → ∀ c ∈ putsC l cs, c.drop = 0 ∧ c.miss = [] := by
    intro l
    induction l with
    | nil => exact fun cs h => h
    | cons p l ih =>
      intro cs hcs
      refine ih _ fun c hc => ?_
      rcases List.mem_or_eq_of_mem_set hc with hc | rfl
      · exact hcs c hc
      · exact ⟨rfl, rfl⟩
  have fin : ∀ (E : Dev) (j : Nat), (E.crashed keep).cells = putsC (ps.take j) D.cells → E.Ok (b + ps.length) → CleanP (E.crashed keep) N (b + ps.length) := fun E j hE ok =>
    ⟨ok.crashed keep, rfl, rfl, rfl, by rw [hE, putsC_len, h.len], by rw [hE]; exact wellS _ _ h.well⟩
  rcases liveP_each ps 0 hp h with ⟨E, m', h1, h2, h3⟩ | ⟨E, m', j, x, h0, hx, h1, h2, h3, h4, h5⟩
  · have e : D.all9 ps = (0, E) := by unfold Dev.all9; rw [h1]
    rw [e]
    have hc : (E.crashed keep).cells = putsC (ps.take ps.length) D.cells := by
      show crashC E.waits keep E.waits.length E.cells = _
      rw [h2.waits, List.take_length]; exact h3
    exact ⟨h2.ok, ps.length, Nat.le_refl _, fin E _ hc h2.ok, hc, .inl ⟨rfl, rfl⟩⟩
  · have e : D.all9 ps = (21, E) := by unfold Dev.all9; rw [h1]
    rw [e]
    refine ⟨h2, ?_⟩
    have hj : (E.crashed keep).cells = putsC (ps.take j) D.cells ∨ (E.crashed keep).cells = putsC (ps.take (j + 1)) D.cells := by
      show crashC E.waits keep E.waits.length E.cells = _ ∨ crashC E.waits keep E.waits.length E.cells = _
      rcases h5 with h5 | h5
      · rw [h5]; exact .inl h4
      · rw [h5]
        show (match kept keep 0 with | true => doneL E.cells ⟨x.at_, x.s⟩ | false => E.cells) = _ ∨ (match kept keep 0 with | true => doneL E.cells ⟨x.at_, x.s⟩ | false => E.cells) = _
        cases kept keep 0 with
        | false => exact .inl h4
        | true =>
          right
          obtain ⟨q0, q1, q2⟩ := hp x (List.mem_of_getElem? hx)
          have hlen : x.at_.toNat < E.cells.length := by rw [h4, putsC_len, h.len]; omega
          have hc := List.getElem?_eq_getElem hlen
          have hw : ∀ c ∈ E.cells, c.drop = 0 ∧ c.miss = [] := by rw [h4]; exact wellS _ _ h.well
          have hcw := hw _ (List.getElem_mem hlen)
          generalize E.cells[x.at_.toNat] = c at hc hcw
          show doneL E.cells ⟨x.at_, x.s⟩ = _
          rw [doneL_some (x := ⟨x.at_, x.s⟩) hc, List.take_add_one, hx, putsC_app, ← h4]
          show E.cells.set x.at_.toNat { c with s := x.s, lost := false } = E.cells.set x.at_.toNat (fine x.s)
          unfold fine
          rw [← hcw.1, ← hcw.2]
    rcases hj with hj | hj
    · exact ⟨j, by omega, fin E _ hj h2, hj, .inr rfl⟩
    · exact ⟨j + 1, by omega, fin E _ hj h2, hj, .inr rfl⟩
end Go.Proofs.Ytmdponffajapjaa.AL

/- The law SupEither. -/
namespace Go.Proofs.Ytmdponffajapjaa.AL
open Go Go.Proofs

theorem putsC_range (x : Sup) (cs : List Cell) (hl : 4 ≤ cs.length) : ∀ j, j ≤ 4 → ∀ k, (putsC ((List.range j).map x.put) cs)[k]? = if k < j then some (fine (x.sector k).1) else cs[k]?
  | 0, _, k => by rw [if_neg (by omega)]; rfl
  | j + 1, hj, k => by
    rw [List.range_succ, List.map_append, putsC_app]
    show ((putsC ((List.range j).map x.put) cs).set ((j : Nat) : Int).toNat (fine (x.sector j).1))[k]? = _
    rw [Int.toNat_natCast, List.getElem?_set, putsC_len]
    by_cases e : j = k
    · subst e; rw [if_pos rfl, if_pos (by omega), if_pos (by omega)]
    · rw [if_neg e, putsC_range x cs hl j (by omega) k]
      by_cases e2 : k < j
      · rw [if_pos e2, if_pos (by omega)]
      · rw [if_neg e2, if_neg (by omega)]

theorem pk2 {l : List Bytes} {x y : Sup} {j : Nat} (hx : 1 ≤ x.gen) (hy : x.gen < y.gen) : ∀ k : Nat, (∀ i : Nat, i < k → ∃ s, l[i]? = some s ∧ toldB s i = if i < j then (y, true) else (x, true)) → pk l k = if k = 0 then Sup.zero else if 0 < j then y else x
  | 0, _ => by rw [if_pos rfl]; rfl
  | k + 1, h => by
    have ih := pk2 hx hy k fun i hi => h i (by omega)
    obtain ⟨s, h1, h2⟩ := h k (by omega)
    rw [pk_step h1, h2, ih, if_neg (show ¬ k + 1 = 0 by omega)]
    have z : Sup.zero.gen = 0 := rfl
    by_cases k0 : k = 0
    · subst k0
      rw [if_pos rfl]
      by_cases j0 : 0 < j
      · rw [if_pos j0, if_pos j0]
        show (match true && decide (y.gen > Sup.zero.gen) with | true => y | false => Sup.zero) = y
        rw [decide_eq_true (show y.gen > Sup.zero.gen by omega)]; rfl
      · rw [if_neg j0, if_neg j0]
        show (match true && decide (x.gen > Sup.zero.gen) with | true => x | false => Sup.zero) = x
        rw [decide_eq_true (show x.gen > Sup.zero.gen by omega)]; rfl
    · rw [if_neg k0]
      by_cases j0 : 0 < j
      · rw [if_pos j0]
        by_cases kj : k < j
        · rw [if_pos kj]
          show (match true && decide (y.gen > y.gen) with | true => y | false => y) = y
          rw [decide_eq_false (show ¬ y.gen > y.gen by omega)]; rfl
        · rw [if_neg kj]
          show (match true && decide (x.gen > y.gen) with | true => x | false => y) = y
          rw [decide_eq_false (show ¬ x.gen > y.gen by omega)]; rfl
      · rw [if_neg j0, if_neg (show ¬ k < j by omega)]
        show (match true && decide (x.gen > x.gen) with | true => x | false => x) = x
        rw [decide_eq_false (show ¬ x.gen > x.gen by omega)]; rfl

theorem read2P {D : Dev} {N b : Nat} (h : CleanP D N b) (hN : 4 ≤ N) {x y : Sup} {j : Nat} (hx : 1 ≤ x.gen) (hy : x.gen < y.gen) (hg : ∀ k : Nat, k < 4 → toldB (cellB D k) k = if k < j then (y, true) else (x, true)) :
    D.supRead.1 = (if 0 < j then y else x, 0) := by
  obtain ⟨h1, h2, h3⟩ := rd4P h 4 hN
  have e := pk2 (l := (rd4 D 4).1) hx hy 4 fun i hi => ⟨cellB D i, by rw [h1, List.getElem?_map, List.getElem?_range hi]; rfl, hg i hi⟩
  have hp : pickB (rd4 D 4).1 = (if 0 < j then y else x, true) := by
    unfold pickB
    rw [rd4_len, Nat.min_self, e, if_neg (by decide)]
    rw [decide_eq_true (show (if 0 < j then y else x).gen > 0 by split <;> omega)]
  unfold Dev.supRead
  rw [h.dead, hp]

theorem may_gen {x : Sup} (hm : x.may = true) : 1 ≤ x.gen := by
  unfold Sup.may at hm
  simp only [Bool.and_eq_true, decide_eq_true_eq] at hm
  exact hm.1.1.1.1.1.2
/-- Whatever writes are kept, the old or the new one is read. -/
theorem eitherP {x y : Sup} (hx : x.may = true) (hy : y.may = true) (hg : x.gen < y.gen) {D : Dev} {N b : Nat} (h : CleanP D N b) (hN : 4 ≤ N) (hc : ∀ k, k < 4 → D.cells[k]? = some ⟨(x.sector k).1, false, 0, []⟩) (die : Int) (keep : List Bool) :
    (((D.arm die).install y).2).Ok (b + 4) ∧ CleanP ((((D.arm die).install y).2).crashed keep) N (b + 4) ∧ ((((D.arm die).install y).1 = 0 ∧ ((((D.arm die).install y).2).crashed keep).supRead.1 = (y, 0)) ∨ (((D.arm die).install y).1 = 21 ∧ (((((D.arm die).install y).2).crashed keep).supRead.1 = (x, 0) ∨ ((((D.arm die).install y).2).crashed keep).supRead.1 = (y, 0)))) := by
  have hi : (D.arm die).install y = (D.arm die).all9 y.puts := by unfold Dev.install; rw [hy]
  obtain ⟨k1, j, k2, k3, k4, k5⟩ := crashP y.puts (N := N) (fun p hp => by
    obtain ⟨k, hk, rfl⟩ := List.mem_map.1 hp
    have hk := List.mem_range.1 hk
    exact ⟨by show (0 : Int) ≤ (k : Int); omega, by show (k : Int) < N; omega, sector_len hy hk⟩) (h.live.arm die) keep
  rw [hi]
  have hj4 : j ≤ 4 := k2
  have etake : y.puts.take j = (List.range j).map y.put := by
    show ((List.range 4).map y.put).take j = _
    rw [← List.map_take, List.take_range, Nat.min_eq_left hj4]
  rw [etake] at k4
  have e0 : (D.arm die).cells = D.cells := rfl
  rw [e0] at k4
  have hr := read2P k3 hN (may_gen hx) hg (j := j) fun k hk => by
    unfold cellB
    rw [k4, putsC_range y D.cells (by rw [h.len]; exact hN) j hj4 k, hc k hk]
    by_cases e : k < j
    · rw [if_pos e, if_pos e]; exact told_sector hy (by omega) (by omega)
    · rw [if_neg e, if_neg e]; exact told_sector hx (by omega) (by omega)
  refine ⟨k1, k3, ?_⟩
  rcases k5 with ⟨g1, g2⟩ | g1
  · have g2 : j = 4 := g2
    left; refine ⟨g1, ?_⟩
    rw [hr, if_pos (by omega)]
  · right; refine ⟨g1, ?_⟩
    rw [hr]
    by_cases e : 0 < j
    · rw [if_pos e]; exact .inr rfl
    · rw [if_neg e]; exact .inl rfl

set_option maxRecDepth 20000 in
theorem sup_either (x y : Sup) (die : Int) (keep : List Bool) : AF Try.prog f_law10_SupEither [x.av, y.av, i64 die, .p (.sl 1 (kx keep))] [] (Pure (bl true) []) := by
  refine AF.mono (R := fun r H' => ∃ z, z = true ∧ r = bl z ∧ H' = []) ?_ (by rintro r H' ⟨b, rfl, rfl, rfl⟩; exact ⟨rfl, rfl⟩)
  have wm := sup_May x
  have wn := sup_May y
  have hkl := kx_len keep
  refine af_body hT F_law10_SupEither rfl rfl N_law10_SupEither rfl ?_
  refine aw_seq (aw_region hT ?_)
  refine aw_wk (wk_boxL 0 x.pv rfl rfl) ?_
  refine aw_wk (wk_boxL 1 y.pv rfl rfl) ?_
  refine aw_seq (aw_region hT ?_)
  refine callP (af_at law10_awake _ rfl rfl) ?_
  refine aw_cut ⟨⟨100, [(2, i64 die), (3, .p (.sl 1 (kx keep))), (4, .p (.box x.pv)), (5, .p (.box y.pv))]⟩, []⟩ (x.may = true ∧ y.may = true ∧ x.gen < y.gen) (aw_seq (aw_region hT ?_)) ?_
  · refine callP (af_at wm _ rfl rfl) ?_
    refine boolI (fun h => ?_) (fun h => ?_)
    · refine aw_cond ?_
      refine aw_seq (aw_region hT ?_)
      refine aw_ret ?_
      exact retPick [] ⟨true, rfl, rfl, rfl⟩ rfl
    have h : (!x.may) = false := h
    refine callP (af_at wn _ rfl rfl) ?_
    refine boolI (fun h1 => ?_) (fun h1 => ?_)
    · refine aw_cond ?_
      refine aw_seq (aw_region hT ?_)
      refine aw_ret ?_
      exact retPick [] ⟨true, rfl, rfl, rfl⟩ rfl
    have h1 : (!y.may) = false := h1
    refine boolI (fun h2 => ?_) (fun h2 => ?_)
    · refine aw_cond ?_
      refine aw_seq (aw_region hT ?_)
      refine aw_ret ?_
      exact retPick [] ⟨true, rfl, rfl, rfl⟩ rfl
    have h2 := of_decide_eq_false (show decide (y.gen ≤ x.gen) = false from h2)
    refine boolI (fun h3 => ?_) (fun h3 => ?_)
    · refine aw_cond ?_
      refine aw_seq (aw_region hT ?_)
      refine aw_ret ?_
      exact retPick [] ⟨true, rfl, rfl, rfl⟩ rfl
    refine aw_cond (boolI (fun h4 => ?_) (fun h4 => ?_))
    · refine aw_seq (aw_region hT ?_)
      refine aw_ret ?_
      exact retPick [] ⟨true, rfl, rfl, rfl⟩ rfl
    exact aw_skip ⟨wk_pick [] [2, 3, 4, 5] rfl, (Bool.not_eq_false' _).mp h, (Bool.not_eq_false' _).mp h1, by omega⟩
  rintro ⟨hx, hy, hg⟩
  have c1 := cleanP_new 8 0
  have n1 := disk_New 8 (by omega) (by omega)
  generalize Dev.new 8 = D1 at n1 c1
  obtain ⟨D2, i1, c2, hc2⟩ := installP hx c1 (by omega)
  have w2 := sup_Install D1 x 0 c1.ok (by omega)
  rw [i1] at w2
  have w3 := disk_Arm D2 die
  have w4 := sup_Install (D2.arm die) y _ (c2.ok.arm die) (by omega)
  obtain ⟨ok4, c5, hres⟩ := eitherP hx hy hg c2 (by omega) hc2 die keep
  generalize D2.arm die = D3 at w3 w4 ok4 c5 hres
  generalize D3.install y = Z at w4 ok4 c5 hres
  obtain ⟨f, D4⟩ := Z
  have w4 : AFm Try.prog 1 f_sup_Install [.ref 0 0, y.av] (devH D3) (Pure (i64 f) (devH D4)) := w4
  have w5 := disk_Crash D4 keep ok4.at_ (by have := ok4.wl; simp only at this; omega)
  have w6 := sup_Read (D4.crashed keep) _ c5.ok (by omega)
  have hres : (f = 0 ∧ (D4.crashed keep).supRead.1 = (y, 0)) ∨ (f = 21 ∧ ((D4.crashed keep).supRead.1 = (x, 0) ∨ (D4.crashed keep).supRead.1 = (y, 0))) := hres
  generalize D4.crashed keep = D5 at w5 w6 hres
  generalize D5.supRead = Z at w6 hres
  obtain ⟨⟨z, g⟩, D6⟩ := Z
  have w6 : AFm Try.prog 3 f_sup_Read [.ref 0 0] (devH D5) (Pure (.tup [z.av, i64 g]) (devH D6)) := w6
  refine aw_cut ⟨⟨100, [(2, i64 die), (3, .p (.sl 1 (kx keep))), (4, .p (.box x.pv)), (5, .p (.box y.pv)), (10, .ref 0 0)]⟩, devH D1⟩ True (aw_region hT ?_) (fun _ => ?_)
  · refine callP n1 ?_
    exact ⟨wk_pick [0, 1, 2] [2, 3, 4, 5, 10] rfl, trivial⟩
  refine aw_cut ⟨⟨100, [(2, i64 die), (3, .p (.sl 1 (kx keep))), (4, .p (.box x.pv)), (5, .p (.box y.pv)), (10, .ref 0 0), (12, i64 0)]⟩, devH D2⟩ True (aw_region hT ?_) (fun _ => ?_)
  · refine callP (af_in [0, 1, 2] w2 rfl rfl rfl) ?_
    exact ⟨wk_pick [0, 3, 4] [2, 3, 4, 5, 10, 12] rfl, trivial⟩
  refine aw_cut ⟨⟨100, [(3, .p (.sl 1 (kx keep))), (4, .p (.box x.pv)), (5, .p (.box y.pv)), (10, .ref 0 0), (12, i64 0)]⟩, devH D3⟩ True (aw_region hT ?_) (fun _ => ?_)
  · refine callP (af_in [0, 1, 2] w3 rfl rfl rfl) ?_
    exact ⟨wk_pick [0, 1, 2] [3, 4, 5, 10, 12] rfl, trivial⟩
  refine aw_cut ⟨⟨100, [(3, .p (.sl 1 (kx keep))), (4, .p (.box x.pv)), (5, .p (.box y.pv)), (10, .ref 0 0), (12, i64 0), (13, i64 f)]⟩, devH D4⟩ True (aw_region hT ?_) (fun _ => ?_)
  · refine callP (af_in [0, 1, 2] w4 rfl rfl rfl) ?_
    exact ⟨wk_pick [0, 3, 4] [3, 4, 5, 10, 12, 13] rfl, trivial⟩
  refine aw_cut ⟨⟨100, [(4, .p (.box x.pv)), (5, .p (.box y.pv)), (10, .ref 0 0), (12, i64 0), (13, i64 f)]⟩, devH D5⟩ True (aw_region hT ?_) (fun _ => ?_)
  · refine callP (af_in [0, 1, 2] w5 rfl rfl rfl) ?_
    exact ⟨wk_pick [0, 3, 4] [4, 5, 10, 12, 13] rfl, trivial⟩
  refine aw_cut ⟨⟨100, [(4, .p (.box x.pv)), (5, .p (.box y.pv)), (12, i64 0), (13, i64 f), (14, .ref 0 0), (15, i64 g)]⟩, [supC z]⟩ True (aw_region hT ?_) (fun _ => ?_)
  · refine callP (af_in [0, 1, 2] w6 rfl rfl rfl) ?_
    exact ⟨wk_pick [3] [4, 5, 12, 13, 14, 15] rfl, trivial⟩
  have hq : ∀ p q : Sup, ∀ xo yo w, (binG .eql t_api_Super xo yo (.agg p.vals.toArray) (.agg q.vals.toArray)).run Try.prog w = .ok (.bool (decide (p = q))) w := fun p q xo yo w => eq_super xo yo p q w
  rcases hres with ⟨rfl, h2⟩ | ⟨rfl, h2⟩
  · obtain ⟨rfl, rfl⟩ := Prod.mk.inj h2
    refine aw_seq (aw_seq (aw_region hT ?_))
    refine aw_cond ?_
    refine aw_seq (aw_region hT ?_)
    refine ⟨.bool true, fun w => (hq _ _ _ _ w).trans (by rw [decide_eq_true rfl]), rfl, ?_⟩
    refine aw_ret ?_
    exact retPick [] ⟨_, rfl, rfl, rfl⟩ rfl
  · rcases h2 with h2 | h2
    · obtain ⟨rfl, rfl⟩ := Prod.mk.inj h2
      refine aw_seq (aw_seq (aw_region hT ?_))
      refine aw_cond ?_
      refine aw_skip ?_
      refine aw_seq (aw_region hT ?_)
      refine ⟨.bool true, fun w => (hq _ _ _ _ w).trans (by rw [decide_eq_true rfl]), rfl, ?_⟩
      refine aw_ret ?_
      exact retPick [] ⟨_, rfl, rfl, rfl⟩ rfl
    · obtain ⟨rfl, rfl⟩ := Prod.mk.inj h2
      have hne : decide (z = x) = false := decide_eq_false (fun e => by rw [e] at hg; omega)
      refine aw_seq (aw_seq (aw_region hT ?_))
      refine aw_cond ?_
      refine aw_skip ?_
      refine aw_seq (aw_region hT ?_)
      refine ⟨.bool false, fun w => (hq _ _ _ _ w).trans (by rw [hne]), rfl, ?_⟩
      refine ⟨.bool true, fun w => (hq _ _ _ _ w).trans (by rw [decide_eq_true rfl]), rfl, ?_⟩
      refine aw_ret ?_
      exact retPick [] ⟨_, rfl, rfl, rfl⟩ rfl
end Go.Proofs.Ytmdponffajapjaa.AL

/- What four truths, four bytes, and a list of truths read as (seat rc). -/
namespace Go.Proofs.Ytmdponffajapjaa.AL
open Go Go.RowKit Go.ChangeShapes Go.WideShapes Go.ChangeAt Go.Deep Go.Proofs
theorem okWide_array {P : Program} {w : World} {r : Reach} {base : Nat} {t e : TypeId} {n : Nat} {v : Value} (ht : P.underlying t = some (.array n e)) (h : Value.okWide P w r base t v) : ∃ cs, v = .agg cs ∧ cs.size = P.cellsOf t := by
  simp only [Value.okWide, ht] at h
  obtain ⟨cs, h1, h2, _⟩ := h
  exact ⟨cs, h1, h2⟩
section
variable {H : Type} {enc : TypeId × Value → H} {W : World} {spare : Nat → Bool} {held : Bool}
theorem c39 : Try.prog.cellsOf 39 = 4 := by kernel_rfl
theorem c45 : Try.prog.cellsOf 45 = 4 := by kernel_rfl
set_option maxRecDepth 20000 in
theorem four_b_rep {v : Value} {d : DataW H} {ps : List MemPlace} {r : Reach} {b0 : Nat} {ι : Nat → Option Nat}
    (hval : Value.okWide Try.prog W r b0 39 v) (h : DataW.Trod enc Try.prog W 0 spare held 39 v d ps) : ∃ l : Bool × Bool × Bool × Bool, ARep W (· < W.heap.size) ι (kA l) v := by
  obtain ⟨cs, rfl, hsz⟩ := okWide_array Try.underlying39 hval
  obtain ⟨n, hn⟩ := h
  rw [c39] at hsz
  obtain ⟨l⟩ := cs
  match l, hsz with
  | [c0, c1, c2, c3], _ =>
    obtain ⟨z0, z1, z2, z3, k, _, g0, g1, g2, g3⟩ := trod_array4 Try.underlying39 c4 hn
    obtain ⟨b0, f0, _⟩ := DataW.trod_bool Try.underlying4 g0
    obtain ⟨b1, f1, _⟩ := DataW.trod_bool Try.underlying4 g1
    obtain ⟨b2, f2, _⟩ := DataW.trod_bool Try.underlying4 g2
    obtain ⟨b3, f3, _⟩ := DataW.trod_bool Try.underlying4 g3
    simp at f0 f1 f2 f3
    subst f0; subst f1; subst f2; subst f3
    refine ⟨(b0, b1, b2, b3), .agg _ _ rfl fun i u hu => ?_⟩
    match i, hu with
    | 0, hu => cases hu; exact .p (raw_bool _)
    | 1, hu => cases hu; exact .p (raw_bool _)
    | 2, hu => cases hu; exact .p (raw_bool _)
    | 3, hu => cases hu; exact .p (raw_bool _)
    | i + 4, hu => cases hu
set_option maxRecDepth 20000 in
theorem four_u8_rep {v : Value} {d : DataW H} {ps : List MemPlace} {r : Reach} {b0 : Nat} {ι : Nat → Option Nat}
    (hval : Value.okWide Try.prog W r b0 45 v) (h : DataW.Trod enc Try.prog W 0 spare held 45 v d ps) : ∃ l : UInt8 × UInt8 × UInt8 × UInt8, ARep W (· < W.heap.size) ι (fA l) v := by
  obtain ⟨cs, rfl, hsz⟩ := okWide_array Try.underlying45 hval
  obtain ⟨n, hn⟩ := h
  rw [c45] at hsz
  obtain ⟨l⟩ := cs
  match l, hsz with
  | [c0, c1, c2, c3], _ =>
    obtain ⟨z0, z1, z2, z3, k, _, g0, g1, g2, g3⟩ := trod_array4 Try.underlying45 c5 hn
    obtain ⟨b0, f0, _, w0⟩ := DataW.trod_int Try.underlying5 g0
    obtain ⟨b1, f1, _, w1⟩ := DataW.trod_int Try.underlying5 g1
    obtain ⟨b2, f2, _, w2⟩ := DataW.trod_int Try.underlying5 g2
    obtain ⟨b3, f3, _, w3⟩ := DataW.trod_int Try.underlying5 g3
    obtain ⟨m0, rfl⟩ := u8_of w0
    obtain ⟨m1, rfl⟩ := u8_of w1
    obtain ⟨m2, rfl⟩ := u8_of w2
    obtain ⟨m3, rfl⟩ := u8_of w3
    simp at f0 f1 f2 f3
    subst f0; subst f1; subst f2; subst f3
    refine ⟨(m0, m1, m2, m3), .agg _ _ rfl fun i u hu => ?_⟩
    match i, hu with
    | 0, hu => cases hu; exact rep_u8 _
    | 1, hu => cases hu; exact rep_u8 _
    | 2, hu => cases hu; exact rep_u8 _
    | 3, hu => cases hu; exact rep_u8 _
    | i + 4, hu => cases hu
set_option maxRecDepth 20000 in
theorem bools_rep {v : Value} {d : DataW H} {ps : List MemPlace} {r : Reach} {b0 : Nat} {ι : Nat → Option Nat}
    (hval : Value.okWide Try.prog W r b0 52 v) (h : DataW.Trod enc Try.prog W 0 spare held 52 v d ps) : ∃ l : List Bool, ARep W (· < W.heap.size) ι (.p (.sl 1 (kx l))) v :=
  rep_slice Try.underlying52 hval h (fun b : Bool => [PV.raw (.bool b)]) 1 c4 (by decide) fun n cs x hx => by
    obtain ⟨q, hq, _⟩ := DataW.trod_bool Try.underlying4 hx
    refine ⟨q, rfl, fun i u hu v hv => ?_⟩
    rw [hq] at hv
    match i, hu, hv with
    | 0, hu, hv => simp at hu hv; subst hu; subst hv; exact raw_bool _
    | i + 1, hu, hv => simp at hu
end
end Go.Proofs.Ytmdponffajapjaa.AL
