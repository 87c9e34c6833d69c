/- Proved: whatever is asked of any memos is what the document says (the statement MemoTells), for every input, with no condition. -/
import Derived.Test.YtdncagppilehgaaRows
import Derived.Test.YtdncagppilehgaaALMg
import Derived.Test.YtdncagppilehgaaALu
namespace Go.Proofs.Ytdncagppilehgaa.AL
open Go Go.RowKit Go.ChangeShapes Go.WideShapes Go.ChangeAt Go.Deep Go.Proofs

instance : Inhabited M := ⟨⟨0, 0, 0, 0⟩⟩

theorem raw_int {W : World} {I : Nat → Prop} (n : Int) : PRep W I (.raw (.int .i64 n)) (.int .i64 n) := .raw _ rfl
theorem rep_int {W : World} {I : Nat → Prop} {ι : Nat → Option Nat} (n : Int) : ARep W I ι (i64 n) (.int .i64 n) := .p (.raw _ rfl)

theorem mem_cells {H : Type} {enc : TypeId × Value → H} {W : World} {spare : Nat → Bool} {held : Bool} (n : Nat) (cs : List Value) (x : DataW H × List MemPlace) (h : DataW.trod enc Try.prog W 0 spare held n 24 cs = some x) :
    ∃ a b c d, cs = [.int .i64 a, .int .i64 b, .int .i64 c, .int .i64 d] := by
  obtain ⟨y0, y1, y2, y3, m, _, hl, h0, h1, h2, h3⟩ := Joins.trod_struct4 Try.underlying24 h
  obtain ⟨a, ha, _⟩ := DataW.trod_int Try.underlying3 h0
  obtain ⟨b, hb, _⟩ := DataW.trod_int Try.underlying3 h1
  obtain ⟨c, hc, _⟩ := DataW.trod_int Try.underlying3 h2
  obtain ⟨d, hd, _⟩ := DataW.trod_int Try.underlying3 h3
  have c3 : Try.prog.cellsOf 3 = 1 := by kernel_rfl
  have c24 : Try.prog.cellsOf 24 = 4 := by kernel_rfl
  rw [c24] at hl
  refine ⟨a, b, c, d, ?_⟩
  match cs, hl with
  | [u0, u1, u2, u3], _ =>
    simp [c3] at ha hb hc hd
    rw [ha, hb, hc, hd]

theorem mem_rep {H : Type} {enc : TypeId × Value → H} {W : World} {spare : Nat → Bool} {held : Bool} {v : Value} {d : DataW H} {ps : List MemPlace} {r : Reach} {b0 : Nat} {ι : Nat → Option Nat}
    (hval : Value.okWide Try.prog W r b0 22 v) (h : DataW.Trod enc Try.prog W 0 spare held 22 v d ps) : ∃ l : List M, ARep W (· < W.heap.size) ι (mem l) v :=
  rep_slice Try.underlying22 hval h M.pv 4 (by kernel_rfl) (by decide) fun n cs x hx => by
    obtain ⟨a, b, c, d, rfl⟩ := mem_cells n cs x hx
    refine ⟨⟨a, b, c, d⟩, rfl, fun i u hu v hv => ?_⟩
    match i, hu, hv with
    | 0, hu, hv => simp [M.pv] at hu hv; subst hu; subst hv; exact raw_int _
    | 1, hu, hv => simp [M.pv] at hu hv; subst hu; subst hv; exact raw_int _
    | 2, hu, hv => simp [M.pv] at hu hv; subst hu; subst hv; exact raw_int _
    | 3, hu, hv => simp [M.pv] at hu hv; subst hu; subst hv; exact raw_int _
    | i + 4, hu, hv => simp [M.pv] at hu

theorem memo_rep {H : Type} {enc : TypeId × Value → H} {W : World} {spare : Nat → Bool} {held : Bool} {v : Value} {d : DataW H} {ps : List MemPlace} {r : Reach} {b0 : Nat} {ι : Nat → Option Nat}
    (hval : Value.okWide Try.prog W r b0 24 v) (h : DataW.Trod enc Try.prog W 0 spare held 24 v d ps) : ∃ x : M, ARep W (· < W.heap.size) ι x.av v := by
  obtain ⟨cs, rfl, hsz⟩ := okWide_struct Try.underlying24 hval
  obtain ⟨n, hn⟩ := h
  obtain ⟨a, b, c, d, hcs⟩ := mem_cells n _ _ hn
  have : cs = #[.int .i64 a, .int .i64 b, .int .i64 c, .int .i64 d] := by
    cases cs; simpa [Value.cells] using hcs
  subst this
  refine ⟨⟨a, b, c, d⟩, .agg _ _ rfl fun i u hu => ?_⟩
  match i, hu with
  | 0, hu => simp at hu; subst hu; exact rep_int _
  | 1, hu => simp at hu; subst hu; exact rep_int _
  | 2, hu => simp at hu; subst hu; exact rep_int _
  | 3, hu => simp at hu; subst hu; exact rep_int _
  | i + 4, hu => simp at hu
end Go.Proofs.Ytdncagppilehgaa.AL

namespace Go.Proofs.Ytdncagppilehgaa.memoTells
open Go Go.Proofs.Ytdncagppilehgaa.AL Go.ChangeShapes Go.WideShapes Go.ChangeAt Go.RowKit
theorem own : ownKnob Try.prog.godebug = none := by kernel_rfl
theorem laidOut : laidOutB Try.prog = true := by kernel_rfl

set_option maxRecDepth 100000 in
theorem lifted (os : Os) (started : os.Started) (H : Type) (enc : TypeId × Value → H) :
    ReturnsInHanded {} Try.checked os 3 .any (Rows.memoTellsSpec.pre6 enc Try.prog Try.f3 Rows.memoTellsRow.domain false) (Rows.memoTellsSpec.post enc Try.prog Try.f3 false true false false) := by
  refine returnsInHanded_of_change_sized (C := Try.checked) own started (by kernel_rfl) Try.func3
    (ChangeSpec.witness6 (enc := enc) (C := Try.checked) false ⟨#[], #[.slice none 0 0, .agg #[.int .i64 0, .int .i64 0, .int .i64 0, .int .i64 0], .int .i64 0, .int .i64 0], []⟩ 8 (by kernel_rfl) (by kernel_rfl) (by kernel_rfl) (by kernel_rfl)) ?_
  intro W base args ds gs before hval0 hW hcnd hsz0 _
  have hval : ∀ (j : Nat) t v, Try.f3.params[j]? = some t → args[j]? = some v → Value.okWide Try.prog W .any base t v := hval0
  have hW' := hW
  obtain ⟨p, q, hA0, hV, rfl, hfz, hnd⟩ := hW
  have hA : DataW.TrodAll enc Try.prog W 0 (fun _ => true) true Try.f3.params.toList args.toList ds p := hA0
  rw [Try.params3] at hA hval
  obtain ⟨v0, vs0, d0, ds0, p0, q0, hargs, rfl, rfl, h0, r0⟩ := trodAll_cons hA
  obtain ⟨v1, vs1, d1, ds1, p1, q1, rfl, rfl, rfl, h1, r1⟩ := trodAll_cons r0
  obtain ⟨v2, vs2, d2, ds2, p2, q2, rfl, rfl, rfl, h2, r2⟩ := trodAll_cons r1
  obtain ⟨v3, vs3, d3, ds3, p3, q3, rfl, rfl, rfl, h3, r3⟩ := trodAll_cons r2
  obtain ⟨rfl, rfl, rfl⟩ := trodAll_nil r3
  obtain rfl : args = #[v0, v1, v2, v3] := by cases args; simp_all
  obtain ⟨rfl, rfl⟩ := trodVars_none hV
  have lt0 : ∀ x ∈ p0, x.block < W.heap.size := by obtain ⟨m, hm⟩ := h0; exact DataW.trod_lt m _ _ _ hm
  have lt1 : ∀ x ∈ p1, x.block < W.heap.size := by obtain ⟨m, hm⟩ := h1; exact DataW.trod_lt m _ _ _ hm
  obtain ⟨l, e0⟩ := mem_rep (ι := fun _ => none) (hval 0 22 v0 rfl rfl) h0
  obtain ⟨x, e1⟩ := memo_rep (ι := fun _ => none) (hval 1 24 v1 rfl rfl) h1
  obtain ⟨a2, rfl, rfl, rfl, w2⟩ := open_int Try.underlying3 (hval 2 3 v2 rfl rfl) h2
  obtain ⟨a3, rfl, rfl, rfl, w3⟩ := open_int Try.underlying3 (hval 3 3 v3 rfl rfl) h3
  clear hA0 hval0
  refine (af_calls (W := W) (vals := #[v0, v1, .int .i64 a2, .int .i64 a3]) (memo_tells l x a2 a3) rfl (fun i u hu => ?_)).mono fun e W' ⟨he, bel⟩ => ?_
  · match i, hu with
    | 0, hu => simp at hu; subst hu; exact e0
    | 1, hu => simp at hu; subst hu; exact e1
    | 2, hu => simp at hu; subst hu; exact rep_int _
    | 3, hu => simp at hu; subst hu; exact rep_int _
    | i + 4, hu => simp at hu
  · subst he
    exact ⟨_, rfl, _, _, _, [], _, [], hW', trodAll_mk1 (shut_bool Try.underlying4 _),
      (trodAll_cons_mk (Below.trod laidOut (by kernel_rfl) (of_decide_eq_true (by kernel_rfl)) h0 bel lt0) (trodAll_cons_mk (Below.trod laidOut (by kernel_rfl) (of_decide_eq_true (by kernel_rfl)) h1 bel lt1) (trodAll_cons_mk (shut_int Try.underlying3 w2) (trodAll_cons_mk (shut_int Try.underlying3 w3) trodAll_mk0)))), rfl, bel.frame _, fun h => by cases h⟩

theorem over : Rows.MemoTellsSaid :=
  OpenClaim.holds_of_wide 3 Try.f3 rfl rfl rfl rfl rfl rfl rfl ⟨rfl, rfl, rfl, rfl, rfl⟩ rfl rfl rfl rfl rfl (by kernel_rfl) Try.func3 (by kernel_rfl)
    (of_decide_eq_true (by kernel_rfl)) (by unfold Func.isWrapper; first | (rw [if_pos (by decide +kernel)]; kernel_rfl) | (rw [if_neg (by decide +kernel)]; exact ⟨rfl, rfl⟩))
    (fun os started H enc _ => lifted os started H enc)
end Go.Proofs.Ytdncagppilehgaa.memoTells
