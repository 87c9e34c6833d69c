/- Proved: any piece may be, or not, and has the sector that the document says, or the error; any bytes tell one, or none, as it says (the statement RingTells), for every input, with no condition. -/
import Derived.Test.YtinfbclgkghgaaaGreatRows
import Derived.Test.YtinfbclgkghgaaaGreatHalfN
namespace Go.Proofs.YtinfbclgkghgaaaGreat.ringTells
open Go Go.Proofs.YtinfbclgkghgaaaGreat.AL Go.ChangeShapes Go.WideShapes Go.ChangeAt Go.RowKit
theorem own : ownKnob Tryz.prog.godebug = none := by kernel_rfl
theorem laidOut : laidOutB Tryz.prog = true := by kernel_rfl

set_option maxRecDepth 100000 in
theorem lifted (os : Os) (started : os.Started) (H : Type) (enc : TypeId × Value → H) :
    ReturnsInHanded {} Tryz.checked os 9 .any (Rows.ringTellsSpec.pre6 enc Tryz.prog Tryz.f9 Rows.ringTellsRow.domain false) (Rows.ringTellsSpec.post enc Tryz.prog Tryz.f9 false true false false) := by
  refine returnsInHanded_of_change_sized (C := Tryz.checked) own started (by kernel_rfl) Tryz.func9
    (ChangeSpec.witness6 (enc := enc) (C := Tryz.checked) false ⟨#[], #[.int .i64 0, .agg (Array.replicate 4 (.int .i64 0)), .int .i64 0, .agg #[.int .i64 0, .int .i64 0, .int .i64 0, .int .i64 0, .int .i64 0, .int .i64 0, .slice none 0 0], .slice none 0 0, .int .i64 0], []⟩ 8 (by kernel_rfl) (by kernel_rfl) (by kernel_rfl) (by kernel_rfl)) ?_
  intro W base args ds gs before hval0 hW _ _ _
  have hval : ∀ (j : Nat) t v, Tryz.f9.params[j]? = some t → args[j]? = some v → Value.okWide Tryz.prog W .any base t v := hval0
  have hW' := hW
  obtain ⟨p, q, hA0, hV, rfl, _, _⟩ := hW
  have hA : DataW.TrodAll enc Tryz.prog W 0 (fun _ => true) true Tryz.f9.params.toList args.toList ds p := hA0
  rw [Tryz.params9] at hA hval
  obtain ⟨v0, vs0, d0, ds0, p0, q0, hargs, rfl, rfl, h0, r0⟩ := trodAll_cons hA
  obtain ⟨v1, vs1, d1, ds1, p1, q1, rfl, rfl, rfl, h1, r1⟩ := trodAll_cons r0
  obtain ⟨v2, vs2, d2, ds2, p2, q2, rfl, rfl, rfl, h2, r2⟩ := trodAll_cons r1
  obtain ⟨v3, vs3, d3, ds3, p3, q3, rfl, rfl, rfl, h3, r3⟩ := trodAll_cons r2
  obtain ⟨v4, vs4, d4, ds4, p4, q4, rfl, rfl, rfl, h4, r4⟩ := trodAll_cons r3
  obtain ⟨v5, vs5, d5, ds5, p5, q5, rfl, rfl, rfl, h5, r5⟩ := trodAll_cons r4
  obtain ⟨rfl, rfl, rfl⟩ := trodAll_nil r5
  obtain rfl : args = #[v0, v1, v2, v3, v4, v5] := by cases args; simp_all
  obtain ⟨rfl, rfl⟩ := trodVars_none hV
  obtain ⟨a0, rfl, rfl, rfl, w0⟩ := open_int Tryz.underlying3 (hval 0 3 v0 rfl rfl) h0
  have lt1 : ∀ x ∈ p1, x.block < W.heap.size := by obtain ⟨m, hm⟩ := h1; exact DataW.trod_lt m _ _ _ hm
  obtain ⟨a1, e1⟩ := geo_rep (ι := fun _ => none) (hval 1 23 v1 rfl rfl) h1
  obtain ⟨a2, rfl, rfl, rfl, w2⟩ := open_int Tryz.underlying3 (hval 2 3 v2 rfl rfl) h2
  have lt3 : ∀ x ∈ p3, x.block < W.heap.size := by obtain ⟨m, hm⟩ := h3; exact DataW.trod_lt m _ _ _ hm
  obtain ⟨a3, e3⟩ := piece_rep (ι := fun _ => none) (hval 3 61 v3 rfl rfl) h3
  have lt4 : ∀ x ∈ p4, x.block < W.heap.size := by obtain ⟨m, hm⟩ := h4; exact DataW.trod_lt m _ _ _ hm
  obtain ⟨a4, e4⟩ := bytes_rep (ι := fun _ => none) (hval 4 24 v4 rfl rfl) h4
  obtain ⟨a5, rfl, rfl, rfl, w5⟩ := open_int Tryz.underlying3 (hval 5 3 v5 rfl rfl) h5
  clear hA0 hval0
  refine (af_calls (W := W) (vals := #[.int .i64 a0, v1, .int .i64 a2, v3, v4, .int .i64 a5]) (ring_tells a0 a1 a2 a3 a4 a5) rfl (fun i u hu => ?_)).mono fun e W' ⟨he, bel⟩ => ?_
  · match i, hu with
    | 0, hu => simp at hu; subst hu; exact rep_int _
    | 1, hu => simp at hu; subst hu; exact e1
    | 2, hu => simp at hu; subst hu; exact rep_int _
    | 3, hu => simp at hu; subst hu; exact e3
    | 4, hu => simp at hu; subst hu; exact e4
    | 5, hu => simp at hu; subst hu; exact rep_int _
    | i + 6, hu => simp at hu
  · subst he
    exact ⟨_, rfl, _, _, _, [], _, [], hW', trodAll_mk1 (shut_bool Tryz.underlying4 _), (trodAll_cons_mk (shut_int Tryz.underlying3 w0) (trodAll_cons_mk (Below.trod laidOut (by kernel_rfl) (of_decide_eq_true (by kernel_rfl)) h1 bel lt1) (trodAll_cons_mk (shut_int Tryz.underlying3 w2) (trodAll_cons_mk (Below.trod laidOut (by kernel_rfl) (of_decide_eq_true (by kernel_rfl)) h3 bel lt3) (trodAll_cons_mk (Below.trod laidOut (by kernel_rfl) (of_decide_eq_true (by kernel_rfl)) h4 bel lt4) (trodAll_cons_mk (shut_int Tryz.underlying3 w5) trodAll_mk0)))))), rfl, bel.frame _, fun h => by cases h⟩

theorem and2 {a b : Bool} (h : a = true) (k : b = true) : (a && b) = true := by rw [h, k]; rfl
theorem k0 : (Rows.ringTellsRow.wf (OpenSpec.ofChange Rows.ringTellsSpec)) = true := by kernel_rfl
theorem k3 : (Tryz.f9.params.all (Tryz.prog.readableRec ·)) = true := by kernel_rfl
theorem k4 : (namedTie Tryz.prog Rows.ringTellsRow.named Rows.ringTellsSpec.vars) = true := by kernel_rfl
theorem k5 : ((Rows.ringTellsRow.stops == [])) = true := by kernel_rfl
theorem k7 : ((Rows.ringTellsRow.knobs == [])) = true := by kernel_rfl
theorem k9 : ((Rows.ringTellsRow.inPlace == Tryz.prog.inPlace 9)) = true := by kernel_rfl
theorem k10 : ((Rows.ringTellsRow.unfollowed == Tryz.prog.unfollowed 9)) = true := by kernel_rfl
theorem k11 : ((Rows.ringTellsRow.recurses == Tryz.prog.recurses 9)) = true := by kernel_rfl
theorem k12 : ((Rows.ringTellsRow.named == Tryz.prog.varsNamed 9)) = true := by kernel_rfl
theorem k13 : ((Rows.ringTellsRow.maps == (Tryz.f9.params.toList ++ Rows.ringTellsSpec.plain.varTypes Tryz.prog).any (Tryz.prog.mapsRec ·))) = true := by kernel_rfl
theorem k14 : ((Rows.ringTellsRow.ifaces == (Tryz.f9.params.toList ++ Rows.ringTellsSpec.plain.varTypes Tryz.prog).any (Tryz.prog.ifacesRec ·))) = true := by kernel_rfl
theorem k15 : ((Rows.ringTellsRow.mapsOut == Tryz.prog.mapsAmong Tryz.f9.resultTypes.toList)) = true := by kernel_rfl
theorem k16 : ((Rows.ringTellsRow.loops == (Tryz.f9.params.toList ++ Rows.ringTellsSpec.plain.varTypes Tryz.prog).any (Tryz.prog.loopsFrom ·))) = true := by kernel_rfl
theorem k17 : ((Rows.ringTellsRow.wideKeys == (Tryz.f9.params.toList ++ Rows.ringTellsSpec.plain.varTypes Tryz.prog ++ Tryz.f9.resultTypes.toList).any (Tryz.prog.wideKeysFrom ·))) = true := by kernel_rfl
theorem k18 : (Rows.ringTellsSpec.vars.all (Tryz.prog.varReadable ·)) = true := by kernel_rfl
theorem k19 : (Tryz.f9.resultTypes.all (fun t => Tryz.prog.readableRec t && decide (t < Tryz.prog.types.size))) = true := by kernel_rfl
theorem k20 : ((Rows.ringTellsRow.ifacesOut == Tryz.f9.resultTypes.toList.any (Tryz.prog.ifacesRec ·))) = true := by kernel_rfl
theorem k21 : ((Rows.ringTellsRow.loopsOut == Tryz.f9.resultTypes.toList.any (Tryz.prog.loopsFrom ·))) = true := by kernel_rfl
theorem k23 : (Rows.ringTellsRow.shortTexts.isNone) = true := by kernel_rfl
theorem k28 : ((Rows.ringTellsRow.kinds == (if Rows.ringTellsRow.domain.isEmpty then [] else Tryz.f9.params.toList.map fun t => match Tryz.prog.underlying t with | some (.int k) => some k | _ => none))) = true := by kernel_rfl
theorem k29 : ((Rows.ringTellsRow.pinned == Rows.ringTellsRow.pinnedBy)) = true := by kernel_rfl
theorem k30 : ((Rows.ringTellsRow.veiled == (Tryz.f9.params.toList ++ Rows.ringTellsSpec.plain.varTypes Tryz.prog ++ Tryz.f9.resultTypes.toList).any (Tryz.prog.veiledRec ·))) = true := by kernel_rfl
theorem k31 : (Rows.ringTellsRow.veiledFits Tryz.prog Tryz.f9.params.toList (Tryz.f9.params.toList ++ Rows.ringTellsSpec.plain.varTypes Tryz.prog ++ Tryz.f9.resultTypes.toList)) = true := by kernel_rfl
set_option maxRecDepth 100000 in
theorem closed : joinedFacts Tryz.prog 9 Tryz.f9 Rows.ringTellsSpec Rows.ringTellsRow = true := by
  unfold joinedFacts
  exact (and2 (and2 (and2 (and2 (and2 (and2 (and2 (and2 (and2 (and2 (and2 (and2 (and2 (and2 (and2 (and2 (and2 (and2 (and2 (and2 (and2 (and2 (and2 (and2 (and2 (and2 (and2 (and2 (and2 (and2 (and2 k0 laidOut) rdK2) k3) k4) k5) rdK6) k7) rdK8) k9) k10) k11) k12) k13) k14) k15) k16) k17) k18) k19) k20) k21) rdK22) k23) rdK24) rdK25) rdK26) rdK27) k28) k29) k30) k31)
theorem named : Tryz.prog.funcNamed Rows.ringTellsRow.func = some 9 := by kernel_rfl

theorem over : Rows.RingTellsSaid :=
  OpenClaim.holds_of_wide 9 Tryz.f9 rfl rfl rfl rfl rfl rfl rfl ⟨rfl, rfl, rfl, rfl, rfl⟩ rfl rfl rfl rfl rfl named Tryz.func9 closed
    (of_decide_eq_true (by kernel_rfl)) (by unfold Func.isWrapper; first | (rw [if_pos (by decide +kernel)]; kernel_rfl) | (rw [if_neg (by decide +kernel)]; exact ⟨rfl, rfl⟩))
    (fun os started H enc _ => lifted os started H enc)
end Go.Proofs.YtinfbclgkghgaaaGreat.ringTells
