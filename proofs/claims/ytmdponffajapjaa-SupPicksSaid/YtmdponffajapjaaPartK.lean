/- A part of the proof. -/
import Derived.Test.YtmdponffajapjaaPartJ
import Derived.Laws.IdiomArrays
/- What one, and bytes, read as (seat rc). -/
namespace Go.Proofs.Ytmdponffajapjaa.AL
open Go Go.RowKit Go.ChangeShapes Go.WideShapes Go.ChangeAt Go.Deep Go.Proofs

theorem raw_int {W : World} {I : Nat → Prop} (k : IntKind) (n : Int) : PRep W I (.raw (.int k n)) (.int k n) := .raw _ rfl
theorem raw_bool {W : World} {I : Nat → Prop} (b : Bool) : PRep W I (.raw (.bool b)) (.bool b) := .raw _ rfl
theorem rep_int {W : World} {I : Nat → Prop} {ι : Nat → Option Nat} (n : Int) : ARep W I ι (i64 n) (.int .i64 n) := .p (.raw _ rfl)
theorem rep_u8 {W : World} {I : Nat → Prop} {ι : Nat → Option Nat} (b : UInt8) : ARep W I ι (.p (u8 b)) (.int .u8 (b.toNat : Int)) := .p (.raw _ rfl)

section
variable {H : Type} {enc : TypeId × Value → H} {W : World} {spare : Nat → Bool} {held : Bool}

theorem u8_of {n : Int} (h : (Lit.int .u8 n).wf = true) : ∃ b : UInt8, n = (b.toNat : Int) := by
  have h2 : 0 ≤ n ∧ n < 256 := by
    simp [Lit.wf] at h
    have h3 : IntKind.u8.min = 0 := rfl
    have h4 : IntKind.u8.max = 255 := rfl
    omega
  refine ⟨UInt8.ofNat n.toNat, ?_⟩
  rw [UInt8.toNat_ofNat']
  omega

theorem c3 : Try.prog.cellsOf 3 = 1 := by kernel_rfl
theorem c4 : Try.prog.cellsOf 4 = 1 := by kernel_rfl
theorem c5 : Try.prog.cellsOf 5 = 1 := by kernel_rfl
theorem c23 : Try.prog.cellsOf 23 = 4 := by kernel_rfl
theorem c25 : Try.prog.cellsOf 25 = 12 := by kernel_rfl
theorem c26 : Try.prog.cellsOf 26 = 1 := by kernel_rfl

set_option maxRecDepth 20000 in
theorem geo_cells (n : Nat) (cs : List Value) (x : DataW H × List MemPlace) (h : DataW.trod enc Try.prog W 0 spare held n 23 cs = some x) : ∃ g : GeoV, cs = g.vals := by
  obtain ⟨xs, m, _, rfl, hl, hlen, hf⟩ := DataW.trod_struct Try.underlying23 h
  rw [c23] at hl
  have h0 := hf 0 _ rfl
  have h1 := hf 1 _ rfl
  have h2 := hf 2 _ rfl
  have h3 := hf 3 _ rfl
  match xs, hlen with
  | [y0, y1, y2, y3], _ =>
    match cs, hl with
    | [v0, v1, v2, v3], _ =>
      simp [c3] at h0 h1 h2 h3
      obtain ⟨a0, e0, _⟩ := DataW.trod_int Try.underlying3 h0
      obtain ⟨a1, e1, _⟩ := DataW.trod_int Try.underlying3 h1
      obtain ⟨a2, e2, _⟩ := DataW.trod_int Try.underlying3 h2
      obtain ⟨a3, e3, _⟩ := DataW.trod_int Try.underlying3 h3
      simp at e0 e1 e2 e3
      exact ⟨⟨a0, a1, a2, a3⟩, by rw [e0, e1, e2, e3]⟩

set_option maxRecDepth 20000 in
theorem sup_cells (n : Nat) (cs : List Value) (x : DataW H × List MemPlace) (h : DataW.trod enc Try.prog W 0 spare held n 25 cs = some x) : ∃ s : Sup, cs = s.vals := by
  obtain ⟨xs, m, _, rfl, hl, hlen, hf⟩ := DataW.trod_struct Try.underlying25 h
  rw [c25] at hl
  have h0 := hf 0 _ rfl
  have h1 := hf 1 _ rfl
  have h2 := hf 2 _ rfl
  have h3 := hf 3 _ rfl
  have h4 := hf 4 _ rfl
  have h5 := hf 5 _ rfl
  have h6 := hf 6 _ rfl
  have h7 := hf 7 _ rfl
  have h8 := hf 8 _ rfl
  match xs, hlen with
  | [y0, y1, y2, y3, y4, y5, y6, y7, y8], _ =>
    match cs, hl with
    | [v0, v1, v2, v3, v4, v5, v6, v7, v8, v9, v10, v11], _ =>
      simp [c3, c23] at h0 h1 h2 h3 h4 h5 h6 h7 h8
      obtain ⟨a0, e0, _⟩ := DataW.trod_int Try.underlying3 h0
      obtain ⟨a1, e1, _⟩ := DataW.trod_int Try.underlying3 h1
      obtain ⟨a2, e2, _⟩ := DataW.trod_int Try.underlying3 h2
      obtain ⟨a3, e3, _⟩ := DataW.trod_int Try.underlying3 h3
      obtain ⟨a4, e4, _⟩ := DataW.trod_int Try.underlying3 h4
      obtain ⟨a5, e5, _⟩ := DataW.trod_int Try.underlying3 h5
      obtain ⟨a6, e6, _⟩ := DataW.trod_int Try.underlying3 h6
      obtain ⟨a7, e7, _⟩ := DataW.trod_int Try.underlying3 h7
      obtain ⟨g, e8⟩ := geo_cells _ _ _ h8
      simp at e0 e1 e2 e3 e4 e5 e6 e7 e8
      obtain ⟨f8, f9, f10, f11⟩ := e8
      exact ⟨⟨a0, a1, a2, a3, a4, a5, a6, a7, g⟩, by rw [e0, e1, e2, e3, e4, e5, e6, e7, f8, f9, f10, f11]⟩

set_option maxRecDepth 20000 in
theorem sup_rep {v : Value} {d : DataW H} {ps : List MemPlace} {r : Reach} {b0 : Nat} {ι : Nat → Option Nat}
    (hval : Value.okWide Try.prog W r b0 25 v) (h : DataW.Trod enc Try.prog W 0 spare held 25 v d ps) : ∃ s : Sup, ARep W (· < W.heap.size) ι s.av v := by
  obtain ⟨cs, rfl, hsz⟩ := okWide_struct Try.underlying25 hval
  obtain ⟨n, hn⟩ := h
  obtain ⟨s, hcs⟩ := sup_cells n _ _ hn
  have : cs = s.vals.toArray := by
    cases cs; simpa [Value.cells] using hcs
  subst this
  refine ⟨s, .agg _ _ rfl fun i u hu => ?_⟩
  match i, hu with
  | 0, hu => cases hu; exact rep_int _
  | 1, hu => cases hu; exact rep_int _
  | 2, hu => cases hu; exact rep_int _
  | 3, hu => cases hu; exact rep_int _
  | 4, hu => cases hu; exact rep_int _
  | 5, hu => cases hu; exact rep_int _
  | 6, hu => cases hu; exact rep_int _
  | 7, hu => cases hu; exact rep_int _
  | 8, hu => cases hu; exact rep_int _
  | 9, hu => cases hu; exact rep_int _
  | 10, hu => cases hu; exact rep_int _
  | 11, hu => cases hu; exact rep_int _
  | i + 12, hu => cases hu

set_option maxRecDepth 20000 in
theorem bytes_rep {v : Value} {d : DataW H} {ps : List MemPlace} {r : Reach} {b0 : Nat} {ι : Nat → Option Nat}
    (hval : Value.okWide Try.prog W r b0 26 v) (h : DataW.Trod enc Try.prog W 0 spare held 26 v d ps) : ∃ l : Bytes, ARep W (· < W.heap.size) ι (bA l) v :=
  rep_slice Try.underlying26 hval h (fun b : UInt8 => [u8 b]) 1 c5 (by decide) fun n cs x hx => by
    obtain ⟨a, e, _, w⟩ := DataW.trod_int Try.underlying5 hx
    obtain ⟨b, rfl⟩ := u8_of w
    refine ⟨b, rfl, fun i u hu v hv => ?_⟩
    rw [e] at hv
    match i, hu, hv with
    | 0, hu, hv => simp at hu hv; subst hu; subst hv; exact raw_int _ _
    | i + 1, hu, hv => simp at hu
end
end Go.Proofs.Ytmdponffajapjaa.AL

/- The law SupPicks. -/
namespace Go.Proofs.Ytmdponffajapjaa.AL
open Go Go.Proofs

set_option maxRecDepth 20000 in
theorem sup_picks (l : List Bytes) : AF Try.prog f_law10_SupPicks [.p (.sl 1 (catX l))] [] (Pure (bl true) []) := by
  refine AF.mono (R := fun r H' => ∃ z, z = true ∧ r = bl z ∧ H' = []) ?_ (by rintro r H' ⟨b, rfl, rfl, rfl⟩; exact ⟨rfl, rfl⟩)
  have hcl := catX_len l
  refine af_body hT F_law10_SupPicks rfl rfl N_law10_SupPicks rfl ?_
  refine aw_seq (aw_region hT ?_)
  refine aw_seq (aw_region hT ?_)
  refine callP (af_at law10_awake _ rfl rfl) ?_
  refine aw_cut ⟨⟨48, [(0, .p (.sl 1 (catX l)))]⟩, []⟩ (l.length ≤ 8) (aw_seq (aw_region hT ?_)) ?_
  · refine aw_cond (boolI (fun h => ?_) (fun h => ?_))
    · refine aw_seq (aw_region hT ?_)
      refine aw_ret ?_
      exact retPick [] ⟨true, rfl, rfl, rfl⟩ rfl
    · have h := of_decide_eq_false (show decide (((catX l).length : Int) > 8) = false from h)
      exact aw_skip ⟨wk_pick [] [0] rfl, by omega⟩
  intro h8
  refine aw_cut ⟨⟨48, [(0, .p (.sl 1 (catX l)))]⟩, []⟩ (∀ s ∈ l, s.length ≤ 600) (aw_seq (aw_region hT ?_)) ?_
  · refine aw_block ?_
    refine aw_loopW (fun n st => ∃ (k : Nat) (j : Int), n + k = l.length ∧ j = k ∧ (∀ s ∈ l.take k, s.length ≤ 600) ∧ st = ⟨⟨48, [(0, .p (.sl 1 (catX l))), (4, i64 j)]⟩, []⟩) l.length ⟨⟨48, _⟩, []⟩ (wk_pick [] [0, 4] rfl) ⟨0, 0, rfl, rfl, fun s hs => by simp at hs, rfl⟩ ?_
    rintro n st ⟨k, j, hnk, rfl, hall, rfl⟩
    refine aw_seq (aw_seq (aw_region hT ?_))
    refine aw_cond (boolI (fun h => ?_) (fun h => ?_))
    · have hk : k < l.length := by
        have := of_decide_eq_true (show decide ((k : Int) < ((catX l).length : Int)) = true from h)
        omega
      have hx := List.getElem?_eq_getElem hk
      generalize l[k] = s at hx
      have hxp : (catX l)[((k : Nat) : Int).toNat]? = some [bP s] := by rw [Int.toNat_natCast]; exact catX_get hx
      have hbs := bx_len s
      refine aw_skip ?_
      refine aw_cut ⟨⟨48, [(0, .p (.sl 1 (catX l))), (4, i64 k)]⟩, []⟩ (s.length ≤ 600) (aw_block (aw_seq (aw_region hT ?_))) ?_
      · refine ⟨Int.natCast_nonneg _, optI hxp ?_⟩
        refine aw_cond (boolI (fun h => ?_) (fun h => ?_))
        · refine aw_seq (aw_region hT ?_)
          refine aw_ret ?_
          exact retPick [] ⟨true, rfl, rfl, rfl⟩ rfl
        · have h := of_decide_eq_false (show decide (((bx s).length : Int) > 600) = false from h)
          exact aw_skip ⟨wk_pick [] [0, 4] rfl, by omega⟩
      · intro hs
        refine aw_region hT ?_
        refine ⟨n - 1, by omega, _, wk_pick [] [0, 4] rfl, k + 1, IntKind.i64.wrap ((k : Int) + 1), by omega, ?_, ?_, rfl⟩
        · rw [wrap64 _ (by omega) (by omega)]; rfl
        · intro t ht
          rw [List.take_add_one, hx] at ht
          simp only [Option.toList_some, List.mem_append, List.mem_singleton] at ht
          rcases ht with ht | rfl
          · exact hall t ht
          · exact hs
    · have hk : ¬ (k : Int) < ((catX l).length : Int) := of_decide_eq_false h
      rw [List.take_of_length_le (by omega)] at hall
      refine aw_exit ?_
      exact ⟨wk_pick [] [0] rfl, hall⟩
  intro hall
  have w1 := sup_Pick l (by omega) fun s hs => by have := hall s hs; omega
  have w2 := ref10_Pick l (by omega) fun s hs => by have := hall s hs; omega
  generalize pickB l = Z at w1 w2
  obtain ⟨y, g⟩ := Z
  have w1 : AF Try.prog f_sup_Pick [.p (.sl 1 (catX l))] [] (Pure (.tup [y.av, bl g]) []) := w1
  have w2 : AF Try.prog f_ref10_Pick [.p (.sl 1 (catX l))] [] (Pure (.tup [y.av, bl g]) []) := w2
  have heq : ∀ xo yo w, (binG .eql t_api_Super xo yo (.agg y.vals.toArray) (.agg y.vals.toArray)).run Try.prog w = .ok (.bool true) w := fun xo yo w => (eq_super xo yo y y w).trans (by rw [decide_eq_true rfl])
  refine aw_cut ⟨⟨48, [(0, .p (.sl 1 (catX l))), (5, .ref 0 0), (6, bl g)]⟩, [supC y]⟩ True (aw_region hT ?_) (fun _ => ?_)
  · refine callP (af_at w1 _ rfl rfl) ?_
    exact ⟨wk_pick [0] [0, 5, 6] rfl, trivial⟩
  refine aw_cut ⟨⟨48, [(5, .ref 0 0), (6, bl g), (7, .ref 1 0), (8, bl g)]⟩, [supC y, supC y]⟩ True (aw_region hT ?_) (fun _ => ?_)
  · refine callP (af_at w2 _ rfl rfl) ?_
    exact ⟨wk_pick [0, 1] [5, 6, 7, 8] rfl, trivial⟩
  refine aw_seq (aw_region hT ?_)
  refine ⟨.bool true, fun w => heq _ _ w, rfl, ?_⟩
  refine aw_ret ?_
  exact retPick [] ⟨_, beq_self_eq_true g, rfl, rfl⟩ rfl
end Go.Proofs.Ytmdponffajapjaa.AL

/- What a list of bytes reads as (seat rc). -/
namespace Go.Proofs.Ytmdponffajapjaa.AL
open Go Go.RowKit Go.ChangeShapes Go.WideShapes Go.ChangeAt Go.Deep Go.Proofs
section
variable {H : Type} {enc : TypeId × Value → H} {W : World} {spare : Nat → Bool} {held : Bool}
theorem byte_el (n : Nat) (cs : List Value) (x : DataW H × List MemPlace) (hx : DataW.trod enc Try.prog W 0 spare held n 5 cs = some x) : ∃ b : UInt8, ([u8 b] : List PV).length = 1 ∧ ∀ (i : Nat) (u : PV), ([u8 b] : List PV)[i]? = some u → ∀ v : Value, cs[i]? = some v → PRep W (· < W.heap.size) u v := by
  obtain ⟨a, e, _, w⟩ := DataW.trod_int Try.underlying5 hx
  obtain ⟨b, rfl⟩ := u8_of w
  refine ⟨b, rfl, fun i u hu v hv => ?_⟩
  rw [e] at hv
  match i, hu, hv with
  | 0, hu, hv => simp at hu hv; subst hu; subst hv; exact raw_int _ _
  | i + 1, hu, hv => simp at hu
set_option maxRecDepth 20000 in
theorem lists_rep {v : Value} {d : DataW H} {ps : List MemPlace} {r : Reach} {b0 : Nat} {ι : Nat → Option Nat}
    (hval : Value.okWide Try.prog W r b0 36 v) (h : DataW.Trod enc Try.prog W 0 spare held 36 v d ps) : ∃ l : List Bytes, ARep W (· < W.heap.size) ι (.p (.sl 1 (catX l))) v :=
  rep_slice Try.underlying36 hval h (fun b : Bytes => [bP b]) 1 c26 (by decide) fun n cs x hx => by
    obtain ⟨l, v, hv, hp⟩ := rep_sliceT Try.underlying26 hx (fun b : UInt8 => [u8 b]) 1 c5 (by decide) byte_el
    refine ⟨l, rfl, fun i u hu w hw => ?_⟩
    rw [hv] at hw
    match i, hu, hw with
    | 0, hu, hw => simp at hu hw; subst hu; subst hw; exact hp
    | i + 1, hu, hw => simp at hu
end
end Go.Proofs.Ytmdponffajapjaa.AL
