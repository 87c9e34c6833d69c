/- The layer 06 (disk): what waits of a sector is settled (2). -/
import Derived.Test.YtolefphdldmlkaaBDh
namespace Go.Proofs.Ytolefphdldmlkaa.AL
open Go Go.Proofs

def settleC (a : Int) (W : List Wr) (C : List Cell) : List Cell := W.foldl (fun C x => match hitA a x with | true => doneL C x | false => C) C
def settleW (a : Int) (W : List Wr) : List Wr := W.filter fun x => !hitA a x
def Dev.settle (D : Dev) (a : Int) : Dev := { D with cells := settleC a D.waits D.cells, waits := settleW a D.waits }

theorem settleC_snoc (a : Int) (W : List Wr) (x : Wr) (C : List Cell) : settleC a (W ++ [x]) C = match hitA a x with | true => doneL (settleC a W C) x | false => settleC a W C := by
  unfold settleC; rw [List.foldl_append]; rfl
theorem settleC_len (a : Int) (W : List Wr) : ∀ C, (settleC a W C).length = C.length := by
  induction W with
  | nil => intro C; rfl
  | cons x r ih =>
    intro C
    show (settleC a r (match hitA a x with | true => doneL C x | false => C)).length = _
    rw [ih]; split
    · exact doneL_len _ _
    · rfl
theorem settleC_no {a : Int} {W : List Wr} (h : ∀ x ∈ W, hitA a x = false) (C : List Cell) : settleC a W C = C := by
  induction W generalizing C with
  | nil => rfl
  | cons x r ih =>
    show settleC a r (match hitA a x with | true => doneL C x | false => C) = _
    rw [h x (by simp)]; exact ih (fun y hy => h y (by simp [hy])) C
theorem settleW_no {a : Int} {W : List Wr} (h : ∀ x ∈ W, hitA a x = false) : settleW a W = W := by
  unfold settleW; rw [List.filter_eq_self]; intro x hx; rw [h x hx]; rfl
theorem settleW_snoc (a : Int) (W : List Wr) (x : Wr) : settleW a (W ++ [x]) = match hitA a x with | true => settleW a W | false => settleW a W ++ [x] := by
  unfold settleW; rw [List.filter_append]
  cases h : hitA a x <;> simp [h]
theorem settleW_le (a : Int) (W : List Wr) : (settleW a W).length ≤ W.length := List.length_filter_le _ _

abbrev delH (D : Dev) (a : Int) : List ABlk := [devC D 1 2, .row t_disk_cell 4 (cx (settleC a D.waits D.cells)), .row t_disk_write 2 (wx (settleW a D.waits)), .cells 24 [.ref 0 0]]

theorem wx_set (l : List Wr) (i : Nat) (c : Wr) : wx (l.set i c) = (wx l).set i c.pv := by simp [wx, List.map_set]

structure DelOk (D : Dev) (a : Int) (k j : Nat) (C : List Cell) (W : List Wr) : Prop where
  len : W.length = D.waits.length
  kj : k < j
  jn : j ≤ D.waits.length
  C : C = settleC a (D.waits.take j) D.cells
  W1 : W.take k = settleW a (D.waits.take j)
  W2 : W.drop j = D.waits.drop j

theorem DelOk.hit {D : Dev} {a : Int} {k j : Nat} {C : List Cell} {W : List Wr} (h : DelOk D a k j C W) {x : Wr} (hx : D.waits[j]? = some x) (hh : hitA a x = true) : DelOk D a k (j + 1) (doneL C x) W := by
  have hjl : j < D.waits.length := (List.getElem?_eq_some_iff.1 hx).1
  refine ⟨h.len, by have := h.kj; omega, hjl, ?_, ?_, ?_⟩
  · rw [List.take_add_one, hx]; show _ = settleC a (_ ++ [x]) _; rw [settleC_snoc, hh, ← h.C]
  · rw [List.take_add_one, hx]; show _ = settleW a (_ ++ [x]); rw [settleW_snoc, hh, ← h.W1]
  · rw [← List.drop_drop, ← List.drop_drop, h.W2]
theorem DelOk.miss {D : Dev} {a : Int} {k j : Nat} {C : List Cell} {W : List Wr} (h : DelOk D a k j C W) {x : Wr} (hx : D.waits[j]? = some x) (hh : hitA a x = false) : DelOk D a (k + 1) (j + 1) C (W.set k x) := by
  have hjl : j < D.waits.length := (List.getElem?_eq_some_iff.1 hx).1
  have hkj := h.kj
  refine ⟨by rw [List.length_set]; exact h.len, by omega, hjl, ?_, ?_, ?_⟩
  · rw [List.take_add_one, hx]; show _ = settleC a (_ ++ [x]) _; rw [settleC_snoc, hh, ← h.C]
  · rw [List.take_add_one (l := D.waits), hx]; show _ = settleW a (_ ++ [x]); rw [settleW_snoc, hh, ← h.W1]
    rw [List.take_add_one, List.getElem?_set_self (by rw [h.len]; omega), List.take_set_of_le (Nat.le_refl _)]; rfl
  · rw [List.drop_set_of_lt (by omega), ← List.drop_drop, ← List.drop_drop, h.W2]

theorem cong2 {α β γ : Sort _} (f : α → β → γ) {a a' : α} {b b' : β} (h : a = a') (k : b = b') : f a b = f a' b' := by rw [h, k]
theorem take_setL {α : Type} (l : List α) (k : Nat) (vs : List α) (h : k ≤ l.length) : (setL l k vs).take k = l.take k := by
  unfold setL
  rw [List.append_assoc, List.take_append_of_le_length (by rw [List.length_take]; omega), List.take_take, Nat.min_self]

theorem settle_2 (D : Dev) (a : Int) (C : List Cell) (W : List Wr) (hC : C.length = D.cells.length) (hW : W.length = D.waits.length) (x : Wr) (h0 : 0 ≤ x.at_) (h1 : x.at_.toNat < D.cells.length) (b : Bool) (C' : List Cell)
    (hb : hitA a x = b) (hC' : C' = match b with | true => doneL C x | false => C) :
    AFm Try.prog 4 f_disk_Disk_settle_1 [.agg [i64 x.at_, bA x.s], .p (.box [.raw (.int .i64 a)]), .ref 3 0] [devC D 1 2, .row t_disk_cell 4 (cx C), .row t_disk_write 2 (wx W), .cells 24 [.ref 0 0]]
      (Pure (bl b) [devC D 1 2, .row t_disk_cell 4 (cx C'), .row t_disk_write 2 (wx W), .cells 24 [.ref 0 0]]) := by
  have h := settle_1 { D with cells := C, waits := W } a x h0 (by show x.at_.toNat < C.length; omega)
  have e1 : devS { D with cells := C, waits := W } = [devC D 1 2, .row t_disk_cell 4 (cx C), .row t_disk_write 2 (wx W), .cells 24 [.ref 0 0]] := by
    unfold devS devC; rw [hC, hW]
  have e2 : devS (({ D with cells := C, waits := W } : Dev).hits a x) = [devC D 1 2, .row t_disk_cell 4 (cx C'), .row t_disk_write 2 (wx W), .cells 24 [.ref 0 0]] := by
    unfold Dev.hits
    rw [hb]
    cases b with
    | true =>
      have hC'' : C'.length = D.cells.length := by rw [hC']; exact (doneL_len C x).trans hC
      rw [hC'] at hC'' ⊢
      unfold devS devC Dev.done
      rw [show (doneL C x).length = D.cells.length from hC'', hW]
    | false => rw [hC']; exact e1
  rw [e1, e2, hb] at h
  exact h

theorem delete_fn (D : Dev) (a : Int) (hw : D.waitsIn) (hn : D.waits.length ≤ 1000000) :
    AFm Try.prog 4 f_slices_DeleteFunc_disk_write [.msl 2 2 0 D.waits.length, cloS a] (devS D) (Pure (.msl 2 2 0 (settleW a D.waits).length) (delH D a)) := by
  refine af_bodyM 4 hT F_slices_DeleteFunc_disk_write rfl rfl N_slices_DeleteFunc_disk_write rfl rfl ?_
  refine aw_seq (aw_region hT ?_)
  refine aw_seq (aw_region hT ?_)
  refine callI (index_fn D a hw hn) ?_
  rintro r H' (⟨rfl, hno, rfl⟩ | ⟨i, x, hx, hh, hno, rfl, rfl⟩)
  · refine aw_seq (aw_seq (aw_region hT ?_))
    refine aw_cond ?_
    refine aw_seq (aw_region hT ?_)
    refine aw_ret ?_
    refine retPick [0, 1, 2, 3] ⟨?_, ?_⟩ rfl
    · rw [settleW_no hno]; rfl
    · show devS D = delH D a
      unfold devS delH
      rw [settleW_no hno, settleC_no hno]
  · have hi : i < D.waits.length := (List.getElem?_eq_some_iff.1 hx).1
    refine aw_seq (aw_seq (aw_region hT ?_))
    refine aw_cond ?_
    refine aw_skip ?_
    refine aw_seq (aw_seq (aw_region hT ?_))
    refine aw_block ?_
    refine aw_loopW (fun n s => ∃ (k j : Nat) (k' j' : Int) (C : List Cell) (W : List Wr), n + j = D.waits.length ∧ k' = k ∧ j' = j ∧ DelOk D a k j C W ∧ s = ⟨⟨42, [(0, .msl 2 2 0 D.waits.length), (1, cloS a), (5, i64 k'), (6, i64 j')]⟩, [devC D 1 2, .row t_disk_cell 4 (cx C), .row t_disk_write 2 (wx W), .cells 24 [.ref 0 0]]⟩) (D.waits.length - (i + 1)) ⟨⟨42, _⟩, [_, _, _, _]⟩ (wk_pick [0, 1, 2, 3] [0, 1, 5, 6] rfl) ⟨i, i + 1, i, IntKind.i64.wrap ((i : Int) + 1), doneL D.cells x, D.waits, by omega, rfl, ?_, ?_, ?_⟩ ?_
    · rw [wrap64 _ (by omega) (by omega)]; rfl
    · refine ⟨rfl, by omega, hi, ?_, ?_, rfl⟩
      · rw [List.take_add_one, hx]; show _ = settleC a (_ ++ [x]) _; rw [settleC_snoc, hh, settleC_no hno]
      · rw [List.take_add_one, hx]; show _ = settleW a (_ ++ [x]); rw [settleW_snoc, hh, settleW_no hno]
    · refine congrArg (St.mk _) ?_
      show devS (D.done x) = _
      unfold devS devC
      rw [show (D.done x).cells.length = D.cells.length from doneL_len _ _]
      rfl
    rintro n s ⟨k, j, k', j', C, W, hnj, rfl, rfl, hd, rfl⟩
    refine aw_seq (aw_seq (aw_region hT ?_))
    refine aw_cond (boolI (fun h => ?_) (fun h => ?_))
    · have hj : j < D.waits.length := by
        have := of_decide_eq_true (show decide ((j : Int) < (D.waits.length : Int)) = true from h)
        omega
      have hx2 := List.getElem?_eq_getElem hj
      have hin := hw _ (List.getElem_mem hj)
      generalize D.waits[j] = y at hx2 hin
      have hkj := hd.kj
      have hy : W[j]? = some y := by
        have := congrArg (fun l => l[0]?) hd.W2
        simpa [hx2] using this
      have hCl : C.length = D.cells.length := by rw [hd.C, settleC_len]
      refine aw_skip ?_
      refine aw_seq (aw_block (aw_seq (aw_region hT ?_)))
      refine ⟨⟨Int.natCast_nonneg _, of_decide_eq_true h⟩, ?_⟩
      refine optI (show (wx W)[0 + ((j : Nat) : Int).toNat]? = some y.pv by rw [Nat.zero_add, Int.toNat_natCast]; exact wx_get hy) ?_
      refine aw_wk (wk_boxL 4 [.raw (.int .i64 y.at_), bP y.s] rfl rfl) ?_
      refine aw_seq (aw_region hT ?_)
      cases hh : hitA a y with
      | true =>
        refine callP (af_in [0, 1, 2, 3] (settle_2 D a C W hCl hd.len y hin.1 (by omega) true (doneL C y) hh rfl) rfl rfl rfl) ?_
        refine aw_cond ?_
        refine aw_skip ?_
        refine aw_region hT ?_
        refine ⟨n - 1, by omega, _, wk_pick [0, 1, 2, 3] [0, 1, 5, 6] rfl, k, j + 1, k, IntKind.i64.wrap ((j : Int) + 1), doneL C y, W, by omega, rfl, ?_, hd.hit hx2 hh, rfl⟩
        rw [wrap64 _ (by omega) (by omega)]; rfl
      | false =>
        refine callP (af_in [0, 1, 2, 3] (settle_2 D a C W hCl hd.len y hin.1 (by omega) false C hh rfl) rfl rfl rfl) ?_
        refine aw_cond ?_
        refine aw_seq (aw_region hT ?_)
        refine ⟨⟨Int.natCast_nonneg _, by omega⟩, ?_⟩
        refine optI (show (wx W)[0 + ((k : Nat) : Int).toNat]? = some (W[k]'(by rw [hd.len]; omega)).pv by rw [Nat.zero_add, Int.toNat_natCast]; exact wx_get (List.getElem?_eq_getElem _)) ?_
        refine chkI rfl (optI rfl ?_)
        refine aw_region hT ?_
        refine aw_region hT ?_
        refine ⟨n - 1, by omega, _, wk_pick [0, 1, 2, 3] [0, 1, 5, 6] rfl, k + 1, j + 1, IntKind.i64.wrap ((k : Int) + 1), IntKind.i64.wrap ((j : Int) + 1), C, W.set k y, by omega, ?_, ?_, hd.miss hx2 hh, ?_⟩
        · rw [wrap64 _ (by omega) (by omega)]; rfl
        · rw [wrap64 _ (by omega) (by omega)]; rfl
        · refine congrArg (St.mk _) ?_
          rw [wx_set, show (wx W).set k y.pv = (wx W).set (0 + ((k : Nat) : Int).toNat) y.pv by rw [Int.toNat_natCast, Nat.zero_add]]
          rfl
    · refine aw_exit ?_
      have hj : j = D.waits.length := by
        have : ¬ ((j : Int) < (D.waits.length : Int)) := of_decide_eq_false h
        have := hd.jn
        omega
      subst hj
      have hkj := hd.kj
      refine aw_seq (aw_region hT ?_)
      refine ⟨⟨Int.natCast_nonneg _, by omega, Int.le_refl _⟩, ?_⟩
      refine ⟨by rw [wx_len, hd.len]; simp; omega, ?_⟩
      refine aw_seq (aw_region hT ?_)
      refine ⟨⟨Int.le_refl _, Int.natCast_nonneg _, by omega⟩, ?_⟩
      refine aw_wk (wk_rowTake 2 k rfl) ?_
      refine aw_ret ?_
      have hk := hd.W1
      rw [List.take_length] at hk
      have hkl : (settleW a D.waits).length = k := by rw [← hk, List.length_take, hd.len]; omega
      refine retPick [0, 1, 2, 3] ⟨?_, ?_⟩ rfl
      · rw [hkl]; rfl
      · refine cong2 (fun x y => [devC D 1 2, ABlk.row t_disk_cell 4 (cx x), ABlk.row t_disk_write 2 y, ABlk.cells 24 [.ref 0 0]]) ?_ ?_
        · rw [hd.C, List.take_length]
        · show (setL (wx W) (0 + ((k : Nat) : Int).toNat) _).take k = _
          rw [Nat.zero_add, Int.toNat_natCast, take_setL _ _ _ (by rw [wx_len, hd.len]; omega), ← hk]
          simp [wx]
end Go.Proofs.Ytolefphdldmlkaa.AL
