/- Proved: a transaction of more than 64 pieces is too long, one for which there is no room is told so, and behind a cut there is room (the statement RingLimits), for every input, with no condition. -/
import Derived.Test.YtinfbclgkghgaaaGreatRows
import Derived.Test.YtinfbclgkghgaaaGreatHalfN
namespace Go.Proofs.YtinfbclgkghgaaaGreat.ringLimits
open Go Go.Proofs.YtinfbclgkghgaaaGreat.AL Go.ChangeShapes Go.WideShapes Go.ChangeAt Go.RowKit
theorem own : ownKnob Tryz.prog.godebug = none := by kernel_rfl
theorem laidOut : laidOutB Tryz.prog = true := by kernel_rfl

set_option maxRecDepth 100000 in
theorem lifted (os : Os) (started : os.Started) (H : Type) (enc : TypeId × Value → H) :
    ReturnsInHanded {} Tryz.checked os 14 .any (Rows.ringLimitsSpec.pre6 enc Tryz.prog Tryz.f14 Rows.ringLimitsRow.domain false) (Rows.ringLimitsSpec.post enc Tryz.prog Tryz.f14 false true false false) := by
  refine returnsInHanded_of_change_sized (C := Tryz.checked) own started (by kernel_rfl) Tryz.func14
    (ChangeSpec.witness6 (enc := enc) (C := Tryz.checked) false ⟨#[], #[.agg (Array.replicate 4 (.int .i64 0)), .int .i64 0], []⟩ 8 (by kernel_rfl) (by kernel_rfl) (by kernel_rfl) (by kernel_rfl)) ?_
  intro W base args ds gs before hval0 hW _ _ _
  have hval : ∀ (j : Nat) t v, Tryz.f14.params[j]? = some t → args[j]? = some v → Value.okWide Tryz.prog W .any base t v := hval0
  have hW' := hW
  obtain ⟨p, q, hA0, hV, rfl, _, _⟩ := hW
  have hA : DataW.TrodAll enc Tryz.prog W 0 (fun _ => true) true Tryz.f14.params.toList args.toList ds p := hA0
  rw [Tryz.params14] at hA hval
  obtain ⟨v0, vs0, d0, ds0, p0, q0, hargs, rfl, rfl, h0, r0⟩ := trodAll_cons hA
  obtain ⟨v1, vs1, d1, ds1, p1, q1, rfl, rfl, rfl, h1, r1⟩ := trodAll_cons r0
  obtain ⟨rfl, rfl, rfl⟩ := trodAll_nil r1
  obtain rfl : args = #[v0, v1] := by cases args; simp_all
  obtain ⟨rfl, rfl⟩ := trodVars_none hV
  have lt0 : ∀ x ∈ p0, x.block < W.heap.size := by obtain ⟨m, hm⟩ := h0; exact DataW.trod_lt m _ _ _ hm
  obtain ⟨a0, e0⟩ := geo_rep (ι := fun _ => none) (hval 0 23 v0 rfl rfl) h0
  obtain ⟨a1, rfl, rfl, rfl, w1⟩ := open_int Tryz.underlying3 (hval 1 3 v1 rfl rfl) h1
  clear hA0 hval0
  refine (af_calls (W := W) (vals := #[v0, .int .i64 a1]) (ring_limits a0 a1) rfl (fun i u hu => ?_)).mono fun e W' ⟨he, bel⟩ => ?_
  · match i, hu with
    | 0, hu => simp at hu; subst hu; exact e0
    | 1, hu => simp at hu; subst hu; exact rep_int _
    | i + 2, hu => simp at hu
  · subst he
    exact ⟨_, rfl, _, _, _, [], _, [], hW', trodAll_mk1 (shut_bool Tryz.underlying4 _), (trodAll_cons_mk (Below.trod laidOut (by kernel_rfl) (of_decide_eq_true (by kernel_rfl)) h0 bel lt0) (trodAll_cons_mk (shut_int Tryz.underlying3 w1) trodAll_mk0)), rfl, bel.frame _, fun h => by cases h⟩

theorem and2 {a b : Bool} (h : a = true) (k : b = true) : (a && b) = true := by rw [h, k]; rfl
theorem k0 : (Rows.ringLimitsRow.wf (OpenSpec.ofChange Rows.ringLimitsSpec)) = true := by kernel_rfl
theorem k3 : (Tryz.f14.params.all (Tryz.prog.readableRec ·)) = true := by kernel_rfl
theorem k4 : (namedTie Tryz.prog Rows.ringLimitsRow.named Rows.ringLimitsSpec.vars) = true := by kernel_rfl
theorem k5 : ((Rows.ringLimitsRow.stops == [])) = true := by kernel_rfl
theorem k7 : ((Rows.ringLimitsRow.knobs == [])) = true := by kernel_rfl
theorem k9 : ((Rows.ringLimitsRow.inPlace == Tryz.prog.inPlace 14)) = true := by kernel_rfl
theorem k10 : ((Rows.ringLimitsRow.unfollowed == Tryz.prog.unfollowed 14)) = true := by kernel_rfl
theorem k11 : ((Rows.ringLimitsRow.recurses == Tryz.prog.recurses 14)) = true := by kernel_rfl
theorem k12 : ((Rows.ringLimitsRow.named == Tryz.prog.varsNamed 14)) = true := by kernel_rfl
theorem k13 : ((Rows.ringLimitsRow.maps == (Tryz.f14.params.toList ++ Rows.ringLimitsSpec.plain.varTypes Tryz.prog).any (Tryz.prog.mapsRec ·))) = true := by kernel_rfl
theorem k14 : ((Rows.ringLimitsRow.ifaces == (Tryz.f14.params.toList ++ Rows.ringLimitsSpec.plain.varTypes Tryz.prog).any (Tryz.prog.ifacesRec ·))) = true := by kernel_rfl
theorem k15 : ((Rows.ringLimitsRow.mapsOut == Tryz.prog.mapsAmong Tryz.f14.resultTypes.toList)) = true := by kernel_rfl
theorem k16 : ((Rows.ringLimitsRow.loops == (Tryz.f14.params.toList ++ Rows.ringLimitsSpec.plain.varTypes Tryz.prog).any (Tryz.prog.loopsFrom ·))) = true := by kernel_rfl
theorem k17 : ((Rows.ringLimitsRow.wideKeys == (Tryz.f14.params.toList ++ Rows.ringLimitsSpec.plain.varTypes Tryz.prog ++ Tryz.f14.resultTypes.toList).any (Tryz.prog.wideKeysFrom ·))) = true := by kernel_rfl
theorem k18 : (Rows.ringLimitsSpec.vars.all (Tryz.prog.varReadable ·)) = true := by kernel_rfl
theorem k19 : (Tryz.f14.resultTypes.all (fun t => Tryz.prog.readableRec t && decide (t < Tryz.prog.types.size))) = true := by kernel_rfl
theorem k20 : ((Rows.ringLimitsRow.ifacesOut == Tryz.f14.resultTypes.toList.any (Tryz.prog.ifacesRec ·))) = true := by kernel_rfl
theorem k21 : ((Rows.ringLimitsRow.loopsOut == Tryz.f14.resultTypes.toList.any (Tryz.prog.loopsFrom ·))) = true := by kernel_rfl
theorem k23 : (Rows.ringLimitsRow.shortTexts.isNone) = true := by kernel_rfl
theorem k28 : ((Rows.ringLimitsRow.kinds == (if Rows.ringLimitsRow.domain.isEmpty then [] else Tryz.f14.params.toList.map fun t => match Tryz.prog.underlying t with | some (.int k) => some k | _ => none))) = true := by kernel_rfl
theorem k29 : ((Rows.ringLimitsRow.pinned == Rows.ringLimitsRow.pinnedBy)) = true := by kernel_rfl
theorem k30 : ((Rows.ringLimitsRow.veiled == (Tryz.f14.params.toList ++ Rows.ringLimitsSpec.plain.varTypes Tryz.prog ++ Tryz.f14.resultTypes.toList).any (Tryz.prog.veiledRec ·))) = true := by kernel_rfl
theorem k31 : (Rows.ringLimitsRow.veiledFits Tryz.prog Tryz.f14.params.toList (Tryz.f14.params.toList ++ Rows.ringLimitsSpec.plain.varTypes Tryz.prog ++ Tryz.f14.resultTypes.toList)) = true := by kernel_rfl
set_option maxRecDepth 100000 in
theorem closed : joinedFacts Tryz.prog 14 Tryz.f14 Rows.ringLimitsSpec Rows.ringLimitsRow = true := by
  unfold joinedFacts
  exact (and2 (and2 (and2 (and2 (and2 (and2 (and2 (and2 (and2 (and2 (and2 (and2 (and2 (and2 (and2 (and2 (and2 (and2 (and2 (and2 (and2 (and2 (and2 (and2 (and2 (and2 (and2 (and2 (and2 (and2 (and2 k0 laidOut) rdK2) k3) k4) k5) rdK6) k7) rdK8) k9) k10) k11) k12) k13) k14) k15) k16) k17) k18) k19) k20) k21) rdK22) k23) rdK24) rdK25) rdK26) rdK27) k28) k29) k30) k31)
theorem named : Tryz.prog.funcNamed Rows.ringLimitsRow.func = some 14 := by kernel_rfl

theorem over : Rows.RingLimitsSaid :=
  OpenClaim.holds_of_wide 14 Tryz.f14 rfl rfl rfl rfl rfl rfl rfl ⟨rfl, rfl, rfl, rfl, rfl⟩ rfl rfl rfl rfl rfl named Tryz.func14 closed
    (of_decide_eq_true (by kernel_rfl)) (by unfold Func.isWrapper; first | (rw [if_pos (by decide +kernel)]; kernel_rfl) | (rw [if_neg (by decide +kernel)]; exact ⟨rfl, rfl⟩))
    (fun os started H enc _ => lifted os started H enc)
end Go.Proofs.YtinfbclgkghgaaaGreat.ringLimits
