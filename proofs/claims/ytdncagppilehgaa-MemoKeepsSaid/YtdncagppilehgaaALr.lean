/- The abstract layer, part r: structs of plain fields are compared. -/
import Derived.Test.YtdncagppilehgaaALq
import Derived.Laws.StructEq
namespace Go.Proofs.Ytdncagppilehgaa.AL
open Go Go.RowKit

variable {P : Program}

def fitB (P : Program) (e : TypeId) (a b : Option Value) : Bool :=
  match P.underlying e, a, b with
  | some (.int _), some (.int k _), some (.int k' _) => k == k'
  | some .bool, some (.bool _), some (.bool _) => true
  | some .string, some (.string _), some (.string _) => true
  | _, _, _ => false

theorem fit_part {e : TypeId} {xs ys : Array Value} {off d : Nat} (w : World) (h : fitB P e xs[off]? ys[off]? = true) :
    ∃ a b r, (part e xs off).run P w = .ok a w ∧ (part e ys off).run P w = .ok b w ∧ (Op.equalIn (d + 1) e a b).run P w = .ok r w ∧ (r = true ↔ xs[off]? = ys[off]?) := by
  unfold fitB at h
  split at h
  · rename_i q k n k' n' hu ha hb
    obtain rfl : k = k' := eq_of_beq h
    exact ⟨.int k n, .int k n', n == n', by simp [part, isAgg, run_underlying hu, ha], by simp [part, isAgg, run_underlying hu, hb], run_equalIn_int w d e k q n n' hu, by rw [ha, hb]; simp⟩
  · rename_i a b hu ha hb
    exact ⟨.bool a, .bool b, a == b, by simp [part, isAgg, run_underlying hu, ha], by simp [part, isAgg, run_underlying hu, hb], run_equalIn_bool w d e a b hu, by rw [ha, hb]; simp⟩
  · rename_i a b hu ha hb
    refine ⟨.string a, .string b, a.toList == b.toList, by simp [part, isAgg, run_underlying hu, ha], by simp [part, isAgg, run_underlying hu, hb], run_equalIn_string w d e a b hu, ?_⟩
    rw [ha, hb]; simp [ByteArray.toList_eq]
    constructor
    · intro h; exact ByteArray.ext h
    · intro h; rw [h]
  · exact absurd h (by simp)

def fitsF (P : Program) (xs ys : Array Value) : List Field → Bool
  | [] => true
  | f :: fs => (f.name != "_") && fitB P f.type xs[f.offset]? ys[f.offset]? && fitsF P xs ys fs
def sameF (xs ys : Array Value) : List Field → Prop
  | [] => True
  | f :: fs => xs[f.offset]? = ys[f.offset]? ∧ sameF xs ys fs

theorem fits_fields {xs ys : Array Value} (w : World) (d : Nat) : ∀ fs : List Field, fitsF P xs ys fs = true → ∃ r, (Op.eqFields (d + 1) xs ys fs).run P w = .ok r w ∧ (r = true ↔ sameF xs ys fs)
  | [], _ => ⟨true, by simp [Op.eqFields], by simp [sameF]⟩
  | f :: fs, h => by
    simp only [fitsF, Bool.and_eq_true, bne_iff_ne, ne_eq] at h
    obtain ⟨⟨h1, h2⟩, h3⟩ := h
    obtain ⟨a, b, r, p1, p2, p3, hiff⟩ := fit_part (d := d) w h2
    obtain ⟨r', q1, q2⟩ := fits_fields w d fs h3
    simp only [Op.eqFields, h1, ne_eq, not_false_eq_true, if_true, Sem.run_bind, p1, p2, p3, Result.andThen_ok, sameF]
    cases r with
    | false => exact ⟨false, by simp, by simp; intro h; exact absurd (hiff.2 h) (by simp)⟩
    | true => exact ⟨r', by simpa using q1, by rw [q2]; simp [hiff.1 rfl]⟩

theorem bin_agg {t : TypeId} {xo yo : Operand} {vs vs' : Array Value} (hu : P.underlying t = some (.struct (P.fieldsOf t))) (hp : P.stoodInHeld t = false) (hg : P.eqGuardType P.depth t = false)
    (hf : fitsF P vs vs' (P.fieldsOf t).toList = true) :
    ∃ r : Bool, (∀ w, (binG .eql t xo yo (.agg vs) (.agg vs')).run P w = .ok (.bool r) w) ∧ (∀ w, (binG .neq t xo yo (.agg vs) (.agg vs')).run P w = .ok (.bool !r) w) ∧ (r = true ↔ sameF vs vs' (P.fieldsOf t).toList) := by
  have h : ∀ w, ∃ r : Bool, (Op.equal t (.agg vs) (.agg vs')).run P w = .ok r w ∧ (r = true ↔ sameF vs vs' (P.fieldsOf t).toList) := fun w => by
    obtain ⟨r, h1, h2⟩ := fits_fields w 9998 _ hf
    exact ⟨r, (run_equalIn_struct w 9999 t vs vs' hu hp).trans h1, h2⟩
  have hr : ∀ w, ∀ r, (Op.equal t (.agg vs) (.agg vs')).run P w = .ok r w → (binG .eql t xo yo (.agg vs) (.agg vs')).run P w = .ok (.bool r) w ∧ (binG .neq t xo yo (.agg vs) (.agg vs')).run P w = .ok (.bool !r) w := fun w r h => by
    have hp : (program).run P w = .ok P w := rfl
    constructor <;> simp [binG, eqGuard, Sem.run_bind, hp, hg, binOp, h]
  by_cases e : sameF vs vs' (P.fieldsOf t).toList
  · refine ⟨true, fun w => ?_, fun w => ?_, by simp [e]⟩
    all_goals
      obtain ⟨r, h1, h2⟩ := h w
      obtain rfl : r = true := h2.2 e
      first | exact (hr w _ h1).1 | exact (hr w _ h1).2
  · refine ⟨false, fun w => ?_, fun w => ?_, by simp [e]⟩
    all_goals
      obtain ⟨r, h1, h2⟩ := h w
      obtain rfl : r = false := by cases r; rfl; exact absurd (h2.1 rfl) e
      first | exact (hr w _ h1).1 | exact (hr w _ h1).2
end Go.Proofs.Ytdncagppilehgaa.AL
