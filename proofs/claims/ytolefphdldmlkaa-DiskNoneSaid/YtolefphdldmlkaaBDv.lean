/- What a list of calls reads as. -/
import Derived.Test.YtolefphdldmlkaaBDr
import Derived.Test.YtolefphdldmlkaaBLu
import Derived.Laws.IdiomArrays
namespace Go.Proofs.Ytolefphdldmlkaa.AL
open Go Go.RowKit Go.ChangeShapes Go.WideShapes Go.ChangeAt Go.Deep Go.Proofs

theorem raw_int {W : World} {I : Nat → Prop} (k : IntKind) (n : Int) : PRep W I (.raw (.int k n)) (.int k n) := .raw _ rfl
theorem raw_bool {W : World} {I : Nat → Prop} (b : Bool) : PRep W I (.raw (.bool b)) (.bool b) := .raw _ rfl
theorem rep_int {W : World} {I : Nat → Prop} {ι : Nat → Option Nat} (n : Int) : ARep W I ι (i64 n) (.int .i64 n) := .p (.raw _ rfl)
theorem rep_u8 {W : World} {I : Nat → Prop} {ι : Nat → Option Nat} (b : UInt8) : ARep W I ι (.p (u8 b)) (.int .u8 (b.toNat : Int)) := .p (.raw _ rfl)

section
variable {H : Type} {enc : TypeId × Value → H} {W : World} {spare : Nat → Bool} {held : Bool}

theorem u8_of {n : Int} (h : (Lit.int .u8 n).wf = true) : ∃ b : UInt8, n = (b.toNat : Int) := by
  have h2 : 0 ≤ n ∧ n < 256 := by
    simp [Lit.wf] at h
    have h3 : IntKind.u8.min = 0 := rfl
    have h4 : IntKind.u8.max = 255 := rfl
    omega
  refine ⟨UInt8.ofNat n.toNat, ?_⟩
  rw [UInt8.toNat_ofNat']
  omega

instance : Inhabited Flt := ⟨⟨0, 0, 0, 0, 0, 0, 0, 0, 0⟩⟩
instance : Inhabited Op06 := ⟨⟨0, 0, 0, false, default, []⟩⟩

def Flt.vals (f : Flt) : List Value := [.int .i64 f.kind, .int .i64 f.at_, .int .i64 f.off, .int .i64 f.n, .int .i64 f.to, .int .u8 (f.m0.toNat : Int), .int .u8 (f.m1.toNat : Int), .int .u8 (f.m2.toNat : Int), .int .u8 (f.m3.toNat : Int)]

theorem c3 : Try.prog.cellsOf 3 = 1 := by kernel_rfl
theorem c4 : Try.prog.cellsOf 4 = 1 := by kernel_rfl
theorem c5 : Try.prog.cellsOf 5 = 1 := by kernel_rfl
theorem c29 : Try.prog.cellsOf 29 = 4 := by kernel_rfl
theorem c31 : Try.prog.cellsOf 31 = 9 := by kernel_rfl
theorem c32 : Try.prog.cellsOf 32 = 1 := by kernel_rfl
theorem c34 : Try.prog.cellsOf 34 = 14 := by kernel_rfl

set_option maxRecDepth 20000 in
theorem flt_cells (n : Nat) (cs : List Value) (x : DataW H × List MemPlace) (h : DataW.trod enc Try.prog W 0 spare held n 31 cs = some x) : ∃ f : Flt, cs = f.vals := by
  obtain ⟨xs, m, _, rfl, hl, hlen, hf⟩ := DataW.trod_struct Try.underlying31 h
  rw [c31] at hl
  have h0 := hf 0 _ rfl
  have h1 := hf 1 _ rfl
  have h2 := hf 2 _ rfl
  have h3 := hf 3 _ rfl
  have h4 := hf 4 _ rfl
  have h5 := hf 5 _ rfl
  match xs, hlen with
  | [y0, y1, y2, y3, y4, y5], _ =>
    match cs, hl with
    | [v0, v1, v2, v3, v4, v5, v6, v7, v8], _ =>
      simp [c3, c29] at h0 h1 h2 h3 h4 h5
      obtain ⟨a0, e0, _⟩ := DataW.trod_int Try.underlying3 h0
      obtain ⟨a1, e1, _⟩ := DataW.trod_int Try.underlying3 h1
      obtain ⟨a2, e2, _⟩ := DataW.trod_int Try.underlying3 h2
      obtain ⟨a3, e3, _⟩ := DataW.trod_int Try.underlying3 h3
      obtain ⟨a4, e4, _⟩ := DataW.trod_int Try.underlying3 h4
      obtain ⟨z0, z1, z2, z3, k, _, g0, g1, g2, g3⟩ := trod_array4 Try.underlying29 c5 h5
      obtain ⟨b0, f0, _, w0⟩ := DataW.trod_int Try.underlying5 g0
      obtain ⟨b1, f1, _, w1⟩ := DataW.trod_int Try.underlying5 g1
      obtain ⟨b2, f2, _, w2⟩ := DataW.trod_int Try.underlying5 g2
      obtain ⟨b3, f3, _, w3⟩ := DataW.trod_int Try.underlying5 g3
      obtain ⟨m0, rfl⟩ := u8_of w0
      obtain ⟨m1, rfl⟩ := u8_of w1
      obtain ⟨m2, rfl⟩ := u8_of w2
      obtain ⟨m3, rfl⟩ := u8_of w3
      simp at e0 e1 e2 e3 e4 f0 f1 f2 f3
      exact ⟨⟨a0, a1, a2, a3, a4, m0, m1, m2, m3⟩, by rw [e0, e1, e2, e3, e4, f0, f1, f2, f3]; rfl⟩

set_option maxRecDepth 20000 in
theorem op_cells (n : Nat) (cs : List Value) (x : DataW H × List MemPlace) (h : DataW.trod enc Try.prog W 0 spare held n 34 cs = some x) :
    ∃ o : Op06, ∃ v : Value, cs = [.int .i64 o.kind, .int .i64 o.at_, .int .u8 (o.b.toNat : Int), .bool o.short] ++ o.f.vals ++ [v] ∧ PRep W (· < W.heap.size) (.sl 1 (kx o.keep)) v := by
  obtain ⟨xs, m, _, rfl, hl, hlen, hf⟩ := DataW.trod_struct Try.underlying34 h
  rw [c34] at hl
  have h0 := hf 0 _ rfl
  have h1 := hf 1 _ rfl
  have h2 := hf 2 _ rfl
  have h3 := hf 3 _ rfl
  have h4 := hf 4 _ rfl
  have h5 := hf 5 _ rfl
  match xs, hlen with
  | [y0, y1, y2, y3, y4, y5], _ =>
    match cs, hl with
    | [v0, v1, v2, v3, v4, v5, v6, v7, v8, v9, v10, v11, v12, v13], _ =>
      simp [c3, c5, c4, c31, c32] at h0 h1 h2 h3 h4 h5
      obtain ⟨a0, e0, _⟩ := DataW.trod_int Try.underlying3 h0
      obtain ⟨a1, e1, _⟩ := DataW.trod_int Try.underlying3 h1
      obtain ⟨b0, e2, _, w0⟩ := DataW.trod_int Try.underlying5 h2
      obtain ⟨b, rfl⟩ := u8_of w0
      obtain ⟨s, e3, _⟩ := DataW.trod_bool Try.underlying4 h3
      obtain ⟨f, e4⟩ := flt_cells _ _ _ h4
      obtain ⟨keep, v, e5, hk⟩ := rep_sliceT Try.underlying32 h5 (fun b : Bool => [PV.raw (.bool b)]) 1 c4 (by decide) (fun n cs x hx => by
        obtain ⟨q, hq, _⟩ := DataW.trod_bool Try.underlying4 hx
        refine ⟨q, rfl, fun i u hu v hv => ?_⟩
        rw [hq] at hv
        match i, hu, hv with
        | 0, hu, hv => simp at hu hv; subst hu; subst hv; exact raw_bool _
        | i + 1, hu, hv => simp at hu)
      simp at e0 e1 e2 e3 e5
      refine ⟨⟨a0, a1, b, s, f, keep⟩, v, ?_, hk⟩
      show [v0, v1, v2, v3] ++ [v4, v5, v6, v7, v8, v9, v10, v11, v12] ++ [v13] = _
      rw [e0, e1, e2, e3, e4, e5]

set_option maxRecDepth 20000 in
theorem ops_rep {v : Value} {d : DataW H} {ps : List MemPlace} {r : Reach} {b0 : Nat} {ι : Nat → Option Nat}
    (hval : Value.okWide Try.prog W r b0 22 v) (h : DataW.Trod enc Try.prog W 0 spare held 22 v d ps) : ∃ l : List Op06, ARep W (· < W.heap.size) ι (.p (.sl 14 (opx l))) v :=
  rep_slice Try.underlying22 hval h Op06.pv 14 c34 (by decide) fun n cs x hx => by
    obtain ⟨o, w, rfl, hk⟩ := op_cells n cs x hx
    refine ⟨o, rfl, fun i u hu v hv => ?_⟩
    match i, hu, hv with
    | 0, hu, hv => cases hu; cases hv; exact raw_int _ _
    | 1, hu, hv => cases hu; cases hv; exact raw_int _ _
    | 2, hu, hv => cases hu; cases hv; exact raw_int _ _
    | 3, hu, hv => cases hu; cases hv; exact raw_bool _
    | 4, hu, hv => cases hu; cases hv; exact raw_int _ _
    | 5, hu, hv => cases hu; cases hv; exact raw_int _ _
    | 6, hu, hv => cases hu; cases hv; exact raw_int _ _
    | 7, hu, hv => cases hu; cases hv; exact raw_int _ _
    | 8, hu, hv => cases hu; cases hv; exact raw_int _ _
    | 9, hu, hv => cases hu; cases hv; exact raw_int _ _
    | 10, hu, hv => cases hu; cases hv; exact raw_int _ _
    | 11, hu, hv => cases hu; cases hv; exact raw_int _ _
    | 12, hu, hv => cases hu; cases hv; exact raw_int _ _
    | 13, hu, hv => cases hu; cases hv; exact hk
    | i + 14, hu, hv => cases hu

set_option maxRecDepth 20000 in
theorem bools_rep {v : Value} {d : DataW H} {ps : List MemPlace} {r : Reach} {b0 : Nat} {ι : Nat → Option Nat}
    (hval : Value.okWide Try.prog W r b0 32 v) (h : DataW.Trod enc Try.prog W 0 spare held 32 v d ps) : ∃ l : List Bool, ARep W (· < W.heap.size) ι (.p (.sl 1 (kx l))) v :=
  rep_slice Try.underlying32 hval h (fun b : Bool => [PV.raw (.bool b)]) 1 c4 (by decide) fun n cs x hx => by
    obtain ⟨q, hq, _⟩ := DataW.trod_bool Try.underlying4 hx
    refine ⟨q, rfl, fun i u hu v hv => ?_⟩
    rw [hq] at hv
    match i, hu, hv with
    | 0, hu, hv => simp at hu hv; subst hu; subst hv; exact raw_bool _
    | i + 1, hu, hv => simp at hu

set_option maxRecDepth 20000 in
theorem flt_rep {v : Value} {d : DataW H} {ps : List MemPlace} {r : Reach} {b0 : Nat} {ι : Nat → Option Nat}
    (hval : Value.okWide Try.prog W r b0 31 v) (h : DataW.Trod enc Try.prog W 0 spare held 31 v d ps) : ∃ f : Flt, ARep W (· < W.heap.size) ι f.av v := by
  obtain ⟨cs, rfl, hsz⟩ := okWide_struct Try.underlying31 hval
  obtain ⟨n, hn⟩ := h
  obtain ⟨f, hcs⟩ := flt_cells n _ _ hn
  have : cs = f.vals.toArray := by
    cases cs; simpa [Value.cells] using hcs
  subst this
  refine ⟨f, .agg _ _ rfl fun i u hu => ?_⟩
  match i, hu with
  | 0, hu => cases hu; exact rep_int _
  | 1, hu => cases hu; exact rep_int _
  | 2, hu => cases hu; exact rep_int _
  | 3, hu => cases hu; exact rep_int _
  | 4, hu => cases hu; exact rep_int _
  | 5, hu => cases hu; exact rep_u8 _
  | 6, hu => cases hu; exact rep_u8 _
  | 7, hu => cases hu; exact rep_u8 _
  | 8, hu => cases hu; exact rep_u8 _
  | i + 9, hu => cases hu
end
end Go.Proofs.Ytolefphdldmlkaa.AL
