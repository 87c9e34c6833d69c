/- What a geometry reads as. -/
import Derived.Test.YtdncagppilehgaaALGa
import Derived.Test.YtdncagppilehgaaALu
namespace Go.Proofs.Ytdncagppilehgaa.AL
open Go Go.RowKit Go.ChangeShapes Go.WideShapes Go.ChangeAt Go.Deep Go.Proofs

theorem rep_int {W : World} {I : Nat → Prop} {ι : Nat → Option Nat} (n : Int) : ARep W I ι (i64 n) (.int .i64 n) := .p (.raw _ rfl)

theorem geo_cells {H : Type} {enc : TypeId × Value → H} {W : World} {spare : Nat → Bool} {held : Bool} (n : Nat) (cs : List Value) (x : DataW H × List MemPlace) (h : DataW.trod enc Try.prog W 0 spare held n 38 cs = some x) :
    ∃ a b c d, cs = [.int .i64 a, .int .i64 b, .int .i64 c, .int .i64 d] := by
  obtain ⟨y0, y1, y2, y3, m, _, hl, h0, h1, h2, h3⟩ := Joins.trod_struct4 Try.underlying38 h
  obtain ⟨a, ha, _⟩ := DataW.trod_int Try.underlying3 h0
  obtain ⟨b, hb, _⟩ := DataW.trod_int Try.underlying3 h1
  obtain ⟨c, hc, _⟩ := DataW.trod_int Try.underlying3 h2
  obtain ⟨d, hd, _⟩ := DataW.trod_int Try.underlying3 h3
  have c3 : Try.prog.cellsOf 3 = 1 := by kernel_rfl
  have c38 : Try.prog.cellsOf 38 = 4 := by kernel_rfl
  rw [c38] at hl
  refine ⟨a, b, c, d, ?_⟩
  match cs, hl with
  | [u0, u1, u2, u3], _ =>
    simp [c3] at ha hb hc hd
    rw [ha, hb, hc, hd]

theorem geo_rep {H : Type} {enc : TypeId × Value → H} {W : World} {spare : Nat → Bool} {held : Bool} {v : Value} {d : DataW H} {ps : List MemPlace} {r : Reach} {b0 : Nat} {ι : Nat → Option Nat}
    (hval : Value.okWide Try.prog W r b0 38 v) (h : DataW.Trod enc Try.prog W 0 spare held 38 v d ps) : ∃ x : G, ARep W (· < W.heap.size) ι x.av v := by
  obtain ⟨cs, rfl, hsz⟩ := okWide_struct Try.underlying38 hval
  obtain ⟨n, hn⟩ := h
  obtain ⟨a, b, c, d, hcs⟩ := geo_cells n _ _ hn
  have : cs = #[.int .i64 a, .int .i64 b, .int .i64 c, .int .i64 d] := by
    cases cs; simpa [Value.cells] using hcs
  subst this
  refine ⟨⟨a, b, c, d⟩, .agg _ _ rfl fun i u hu => ?_⟩
  match i, hu with
  | 0, hu => simp at hu; subst hu; exact rep_int _
  | 1, hu => simp at hu; subst hu; exact rep_int _
  | 2, hu => simp at hu; subst hu; exact rep_int _
  | 3, hu => simp at hu; subst hu; exact rep_int _
  | i + 4, hu => simp at hu
end Go.Proofs.Ytdncagppilehgaa.AL
