/- A part of the proof. -/
import Derived.Test.YtinfbclgkghgaaaGreatHalfK
/- The document's layer 11, and the law's: are two pieces, two tails, the same; are there few sectors. -/
namespace Go.Proofs.YtinfbclgkghgaaaGreat.AL
open Go Go.Proofs

def pairB (x y : Pc) : Bool := (x.b == y.b) && (x.seq == y.seq) && (x.epoch == y.epoch) && (x.frm == y.frm) && (x.chain == y.chain) && (x.index == y.index) && (x.of_ == y.of_)
theorem pairB_eq (x y : Pc) : pairB x y = decide (x = y) := by
  obtain ⟨a1, a2, a3, a4, a5, a6, a7⟩ := x
  obtain ⟨b1, b2, b3, b4, b5, b6, b7⟩ := y
  unfold pairB
  rw [Bool.eq_iff_iff]
  simp only [Bool.and_eq_true, beq_iff_eq, decide_eq_true_eq, Pc.mk.injEq]
  constructor
  · rintro ⟨⟨⟨⟨⟨⟨h7, h1⟩, h2⟩, h3⟩, h4⟩, h5⟩, h6⟩; exact ⟨h1, h2, h3, h4, h5, h6, h7⟩
  · rintro ⟨h1, h2, h3, h4, h5, h6, h7⟩; exact ⟨⟨⟨⟨⟨⟨h7, h1⟩, h2⟩, h3⟩, h4⟩, h5⟩, h6⟩

set_option maxRecDepth 20000 in
theorem ref11_Pair (x y : Pc) (hx : x.b.length ≤ 1000000) : AF Tryz.prog f_ref11_Pair [x.av, y.av] [] (Pure (bl (decide (x = y))) []) := by
  rw [← pairB_eq]
  refine AF.mono (R := fun r H' => ∃ z, z = pairB x y ∧ r = bl z ∧ H' = []) ?_ (by rintro r H' ⟨b, rfl, rfl, rfl⟩; exact ⟨rfl, rfl⟩)
  refine af_body hT F_ref11_Pair rfl rfl N_ref11_Pair rfl ?_
  refine aw_seq (aw_region hT ?_)
  refine aw_wk (wk_boxL 0 x.pv rfl rfl) ?_
  refine aw_wk (wk_boxL 1 y.pv rfl rfl) ?_
  have wS := ref04_Same x.b y.b hx
  have e : pairB x y = ((x.b == y.b) && (x.seq == y.seq) && (x.epoch == y.epoch) && (x.frm == y.frm) && (x.chain == y.chain) && (x.index == y.index) && (x.of_ == y.of_)) := rfl
  refine aw_cut ⟨⟨54, [(2, .p (.box x.pv)), (3, .p (.box y.pv)), (5, bl (x.b == y.b))]⟩, []⟩ True (aw_region hT ?_) (fun _ => ?_)
  · refine callP (af_at wS _ rfl rfl) ?_
    exact ⟨wk_pick [] [2, 3, 5] rfl, trivial⟩
  refine aw_seq (aw_region hT ?_)
  refine boolI (fun h0 => ?_) (fun h0 => ?_)
  · have h0 : (x.b == y.b) = true := h0
    refine boolI (fun h1 => ?_) (fun h1 => ?_)
    · have h1 : (x.seq == y.seq) = true := h1
      refine boolI (fun h2 => ?_) (fun h2 => ?_)
      · have h2 : (x.epoch == y.epoch) = true := h2
        refine boolI (fun h3 => ?_) (fun h3 => ?_)
        · have h3 : (x.frm == y.frm) = true := h3
          refine boolI (fun h4 => ?_) (fun h4 => ?_)
          · have h4 : (x.chain == y.chain) = true := h4
            refine boolI (fun h5 => ?_) (fun h5 => ?_)
            · have h5 : (x.index == y.index) = true := h5
              refine aw_ret ?_
              exact retPick [] ⟨_, by rw [e, h0, h1, h2, h3, h4, h5]; rfl, rfl, rfl⟩ rfl
            · have h5 : (x.index == y.index) = false := h5
              refine aw_ret ?_
              exact retPick [] ⟨_, by rw [e, h0, h1, h2, h3, h4, h5]; rfl, rfl, rfl⟩ rfl
          · have h4 : (x.chain == y.chain) = false := h4
            refine aw_ret ?_
            exact retPick [] ⟨_, by rw [e, h0, h1, h2, h3, h4]; rfl, rfl, rfl⟩ rfl
        · have h3 : (x.frm == y.frm) = false := h3
          refine aw_ret ?_
          exact retPick [] ⟨_, by rw [e, h0, h1, h2, h3]; rfl, rfl, rfl⟩ rfl
      · have h2 : (x.epoch == y.epoch) = false := h2
        refine aw_ret ?_
        exact retPick [] ⟨_, by rw [e, h0, h1, h2]; rfl, rfl, rfl⟩ rfl
    · have h1 : (x.seq == y.seq) = false := h1
      refine aw_ret ?_
      exact retPick [] ⟨_, by rw [e, h0, h1]; rfl, rfl, rfl⟩ rfl
  · have h0 : (x.b == y.b) = false := h0
    refine aw_ret ?_
    exact retPick [] ⟨_, by rw [e, h0]; rfl, rfl, rfl⟩ rfl

set_option maxRecDepth 20000 in
/-- Only of a tail and itself: that is what is asked. -/
theorem ref11_Same (x : TailV) (hn : x.txs.length ≤ 1000000) (hx : ∀ s ∈ x.txs, s.length ≤ 1000000) : AF Tryz.prog f_ref11_Same [x.av, x.av] [] (Pure (bl true) []) := by
  refine AF.mono (R := fun r H' => ∃ z, z = true ∧ r = bl z ∧ H' = []) ?_ (by rintro r H' ⟨b, rfl, rfl, rfl⟩; exact ⟨rfl, rfl⟩)
  have hcl := catX_len x.txs
  refine af_body hT F_ref11_Same rfl rfl N_ref11_Same rfl ?_
  refine aw_seq (aw_region hT ?_)
  refine aw_wk (wk_boxL 0 [.sl 1 (catX x.txs), .raw (.int .i64 x.next), .raw (.int .i64 x.chain), .raw (.int .i64 x.epoch)] rfl rfl) ?_
  refine aw_wk (wk_boxL 1 [.sl 1 (catX x.txs), .raw (.int .i64 x.next), .raw (.int .i64 x.chain), .raw (.int .i64 x.epoch)] rfl rfl) ?_
  refine aw_cut ⟨⟨55, [(2, .p (.box [.sl 1 (catX x.txs), .raw (.int .i64 x.next), .raw (.int .i64 x.chain), .raw (.int .i64 x.epoch)])), (3, .p (.box [.sl 1 (catX x.txs), .raw (.int .i64 x.next), .raw (.int .i64 x.chain), .raw (.int .i64 x.epoch)]))]⟩, []⟩ True (aw_seq (aw_region hT ?_)) (fun _ => ?_)
  · have ne : ∀ n : Int, (n != n) = true → False := fun n h => by simp at h
    refine boolI (fun h => ?_) (fun _ => ?_)
    · exact (ne _ (show (x.next != x.next) = true from h)).elim
    refine boolI (fun h => ?_) (fun _ => ?_)
    · exact (ne _ (show (x.chain != x.chain) = true from h)).elim
    refine boolI (fun h => ?_) (fun _ => ?_)
    · exact (ne _ (show (x.epoch != x.epoch) = true from h)).elim
    refine aw_cond (boolI (fun h => ?_) (fun _ => ?_))
    · exact (ne _ (show ((((catX x.txs).length : Nat) : Int) != (((catX x.txs).length : Nat) : Int)) = true from h)).elim
    exact aw_skip ⟨wk_pick [] [2, 3] rfl, trivial⟩
  refine aw_cut ⟨⟨55, []⟩, []⟩ True (aw_seq (aw_region hT ?_)) (fun _ => ?_)
  · refine aw_block ?_
    refine aw_loopW (fun n st => ∃ (k : Nat) (j : Int), n + k = x.txs.length ∧ j = k ∧ st = ⟨⟨55, [(2, .p (.box [.sl 1 (catX x.txs), .raw (.int .i64 x.next), .raw (.int .i64 x.chain), .raw (.int .i64 x.epoch)])), (3, .p (.box [.sl 1 (catX x.txs), .raw (.int .i64 x.next), .raw (.int .i64 x.chain), .raw (.int .i64 x.epoch)])), (5, i64 j)]⟩, []⟩) x.txs.length ⟨⟨55, _⟩, []⟩ (wk_pick [] [2, 3, 5] rfl) ⟨0, 0, rfl, rfl, rfl⟩ ?_
    rintro n st ⟨k, j, hnk, hj, rfl⟩
    refine aw_seq (aw_seq (aw_region hT ?_))
    refine aw_cond (boolI (fun h => ?_) (fun h => ?_))
    · have h := of_decide_eq_true (show decide (j < (((catX x.txs).length : Nat) : Int)) = true from h)
      have hy := List.getElem?_eq_getElem (show k < x.txs.length by omega)
      have hym := hx _ (List.getElem_mem (show k < x.txs.length by omega))
      generalize x.txs[k]'(by omega) = s at hy hym
      have hyp : (catX x.txs)[j.toNat]? = some [bP s] := by rw [hj, Int.toNat_natCast]; exact catX_get hy
      have wS := ref04_Same s s hym
      rw [beq_self_eq_true] at wS
      refine aw_skip ?_
      refine aw_cut ⟨⟨55, [(2, .p (.box [.sl 1 (catX x.txs), .raw (.int .i64 x.next), .raw (.int .i64 x.chain), .raw (.int .i64 x.epoch)])), (3, .p (.box [.sl 1 (catX x.txs), .raw (.int .i64 x.next), .raw (.int .i64 x.chain), .raw (.int .i64 x.epoch)])), (5, i64 j)]⟩, []⟩ True (aw_block ?_) (fun _ => ?_)
      · refine aw_cut ⟨⟨55, [(2, .p (.box [.sl 1 (catX x.txs), .raw (.int .i64 x.next), .raw (.int .i64 x.chain), .raw (.int .i64 x.epoch)])), (3, .p (.box [.sl 1 (catX x.txs), .raw (.int .i64 x.next), .raw (.int .i64 x.chain), .raw (.int .i64 x.epoch)])), (5, i64 j), (6, bl true)]⟩, []⟩ True ?_ (fun _ => ?_)
        · refine aw_draw [] [] hT follows_mixed (by rfl) ?_
          refine ⟨by omega, optI hyp ?_⟩
          refine ⟨by omega, optI hyp ?_⟩
          refine ⟨_, af_at wS _ rfl rfl, ?_⟩
          exact ⟨wk_pick [] [2, 3, 5, 6] rfl, trivial⟩
        refine aw_seq (aw_region hT ?_)
        refine aw_cond ?_
        exact aw_skip ⟨wk_pick [] [2, 3, 5] rfl, trivial⟩
      · refine aw_region hT ?_
        refine ⟨n - 1, by omega, _, wk_pick [] [2, 3, 5] rfl, k + 1, IntKind.i64.wrap (j + 1), by omega, ?_, rfl⟩
        rw [wrap64 _ (by omega) (by omega), hj]; rfl
    · refine aw_exit ?_
      exact ⟨wk_pick [] [] rfl, trivial⟩
  refine aw_seq (aw_region hT ?_)
  refine aw_ret ?_
  exact retPick [] ⟨_, rfl, rfl, rfl⟩ rfl

def fewB (n m : Nat) (l : List Bytes) : Bool := decide (l.length ≤ n) && l.all fun s => decide (s.length ≤ m)

set_option maxRecDepth 20000 in
theorem law11_few (l : List Bytes) : AF Tryz.prog f_law11_few [.p (.sl 1 (catX l))] [] (Pure (bl (fewB 40 300 l)) []) := by
  refine AF.mono (R := fun r H' => ∃ z, z = fewB 40 300 l ∧ r = bl z ∧ H' = []) ?_ (by rintro r H' ⟨b, rfl, rfl, rfl⟩; exact ⟨rfl, rfl⟩)
  have hcl := catX_len l
  refine af_body hT F_law11_few rfl rfl N_law11_few rfl ?_
  refine aw_seq (aw_region hT ?_)
  refine aw_cut ⟨⟨19, [(0, .p (.sl 1 (catX l)))]⟩, []⟩ (l.length ≤ 40) (aw_seq (aw_region hT ?_)) ?_
  · refine aw_cond (boolI (fun h => ?_) (fun h => ?_))
    · have h := of_decide_eq_true (show decide ((((catX l).length : Nat) : Int) > 40) = true from h)
      refine aw_seq (aw_region hT ?_)
      refine aw_ret ?_
      exact retPick [] ⟨false, by unfold fewB; rw [decide_eq_false (show ¬ l.length ≤ 40 by omega)]; rfl, rfl, rfl⟩ rfl
    · have h := of_decide_eq_false (show decide ((((catX l).length : Nat) : Int) > 40) = false from h)
      exact aw_skip ⟨wk_pick [] [0] rfl, by omega⟩
  intro hle
  have e : fewB 40 300 l = l.all fun s => decide (s.length ≤ 300) := by unfold fewB; rw [decide_eq_true hle]; rfl
  refine aw_cut ⟨⟨19, []⟩, []⟩ ((l.all fun s => decide (s.length ≤ 300)) = true) (aw_seq (aw_region hT ?_)) ?_
  · refine aw_block ?_
    refine aw_loopW (fun n st => ∃ (k : Nat) (j : Int), n + k = l.length ∧ j = k ∧ (∀ s ∈ l.take k, s.length ≤ 300) ∧ st = ⟨⟨19, [(0, .p (.sl 1 (catX l))), (3, i64 j)]⟩, []⟩) l.length ⟨⟨19, _⟩, []⟩ (wk_pick [] [0, 3] rfl) ⟨0, 0, rfl, rfl, fun s hs => by simp at hs, rfl⟩ ?_
    rintro n st ⟨k, j, hnk, hj, hall, rfl⟩
    refine aw_seq (aw_seq (aw_region hT ?_))
    refine aw_cond (boolI (fun h => ?_) (fun h => ?_))
    · have h := of_decide_eq_true (show decide (j < (((catX l).length : Nat) : Int)) = true from h)
      have hy := List.getElem?_eq_getElem (show k < l.length by omega)
      have hym := List.getElem_mem (show k < l.length by omega)
      generalize l[k]'(by omega) = s at hy hym
      have hyp : (catX l)[j.toNat]? = some [bP s] := by rw [hj, Int.toNat_natCast]; exact catX_get hy
      have hbs := bx_len s
      refine aw_skip ?_
      refine aw_cut ⟨⟨19, [(0, .p (.sl 1 (catX l))), (3, i64 j)]⟩, []⟩ (s.length ≤ 300) (aw_block (aw_seq (aw_region hT ?_))) (fun hsm => ?_)
      · refine ⟨by omega, optI hyp ?_⟩
        refine aw_cond (boolI (fun h1 => ?_) (fun h1 => ?_))
        · have h1 := of_decide_eq_true (show decide ((((bx s).length : Nat) : Int) > 300) = true from h1)
          refine aw_seq (aw_region hT ?_)
          refine aw_ret ?_
          refine retPick [] ⟨false, ?_, rfl, rfl⟩ rfl
          rw [e]
          symm
          rw [List.all_eq_false]
          exact ⟨s, hym, by rw [decide_eq_true_eq]; omega⟩
        · have h1 := of_decide_eq_false (show decide ((((bx s).length : Nat) : Int) > 300) = false from h1)
          exact aw_skip ⟨wk_pick [] [0, 3] rfl, by omega⟩
      · refine aw_region hT ?_
        refine ⟨n - 1, by omega, _, wk_pick [] [0, 3] rfl, k + 1, IntKind.i64.wrap (j + 1), by omega, ?_, ?_, rfl⟩
        · rw [wrap64 _ (by omega) (by omega), hj]; rfl
        · intro t ht
          rw [List.take_add_one, hy] at ht
          simp only [Option.toList_some, List.mem_append, List.mem_singleton] at ht
          rcases ht with ht | rfl
          · exact hall t ht
          · exact hsm
    · have h := of_decide_eq_false (show decide (j < (((catX l).length : Nat) : Int)) = false from h)
      rw [List.take_of_length_le (by omega)] at hall
      refine aw_exit ?_
      exact ⟨wk_pick [] [] rfl, by rw [List.all_eq_true]; exact fun s hs => decide_eq_true (hall s hs)⟩
  intro hall
  refine aw_seq (aw_region hT ?_)
  refine aw_ret ?_
  exact retPick [] ⟨true, by rw [e, hall], rfl, rfl⟩ rfl

end Go.Proofs.YtinfbclgkghgaaaGreat.AL

/- The layer 09 (keep): a sector is written till it has what it should; some; what is mended. -/
namespace Go.Proofs.YtinfbclgkghgaaaGreat.AL
open Go Go.Proofs

def Dev.tryK : Nat → Dev → Int → Bytes → Int × Dev
  | 0, D, _, _ => (22, D)
  | n + 1, D, a, s => match (D.once a s).1.2 != 0 with
    | true => ((D.once a s).1.2, (D.once a s).2)
    | false => match (D.once a s).1.1 with
      | true => (0, (D.once a s).2)
      | false => Dev.tryK n (D.once a s).2 a s
def Dev.one (D : Dev) (a : Int) (s : Bytes) : Int × Dev := Dev.tryK 4 D a s
/-- One more, where it went well. -/
def more (e m : Int) : Int := match e == 0 with | true => IntKind.i64.wrap (m + 1) | false => m

theorem once_ok {D : Dev} {b : Nat} (h : D.Ok b) (a : Int) (s : Bytes) : (D.once a s).2.Ok (b + 1) := by
  unfold Dev.once
  split
  · exact h.write a s
  split
  · exact (h.write a s).flush
  · unfold Dev.hhas
    split
    · exact (h.write a s).flush.read a
    · exact (h.write a s).flush.read a
theorem tryK_ok : ∀ (n : Nat) {D : Dev} {b : Nat}, D.Ok b → ∀ (a : Int) (s : Bytes), (Dev.tryK n D a s).2.Ok (b + n)
  | 0, D, b, h, a, s => h
  | n + 1, D, b, h, a, s => by
    unfold Dev.tryK
    split
    · exact (once_ok h a s).mono (by omega)
    split
    · exact (once_ok h a s).mono (by omega)
    · rw [show b + (n + 1) = b + 1 + n by omega]
      exact tryK_ok n (once_ok h a s) a s
theorem one_ok2 {D : Dev} {b : Nat} (h : D.Ok b) (a : Int) (s : Bytes) : (D.one a s).2.Ok (b + 4) := tryK_ok 4 h a s
/-- What goes wrong tells an error. -/
theorem once_err {D : Dev} {a : Int} {s : Bytes} (h : (D.once a s).1.1 = true) : (D.once a s).1.2 = 0 := by
  unfold Dev.once at h ⊢
  split at h
  · simp at h
  split at h
  · simp at h
  · unfold Dev.hhas at h ⊢
    split at h
    · simp at h
    · have h : ((((D.write a s).2.flush.2.read a).1.2 == 0) && _) = true := h
      rw [Bool.and_eq_true] at h
      have := h.1
      simpa using this

theorem hand_one (D : Dev) (m a : Int) (s : Bytes) (b : Nat) (hD : D.Ok b) (hb : b + 4 < 1000000) : AFm Tryz.prog 2 f_keep_hand_one [.ref 0 0, putAV a s] (hH D m) (Pure (i64 (D.one a s).1) (hH (D.one a s).2 (more (D.one a s).1 m))) := by
  refine af_bodyM 2 hT F_keep_hand_one rfl rfl N_keep_hand_one rfl rfl ?_
  refine aw_seq (aw_region hT ?_)
  refine aw_wk (wk_boxL 4 [.raw (.int .i64 a), bP s] rfl rfl) ?_
  refine aw_cut2 (fun s1 => ∃ E, D.one a s = (22, E) ∧ s1 = ⟨⟨29, []⟩, hH E m⟩) (aw_seq (aw_region hT ?_)) ?_
  · refine aw_block ?_
    refine aw_loopW (fun n s1 => ∃ (i : Nat) (j : Int) (E : Dev), n + i = 4 ∧ j = i ∧ E.Ok (b + i) ∧ D.one a s = Dev.tryK n E a s ∧ s1 = ⟨⟨29, [(0, .ref 0 0), (3, .p (.box [.raw (.int .i64 a), bP s])), (7, i64 j)]⟩, hH E m⟩) 4 ⟨⟨29, _⟩, [_, _, _, _]⟩ (wk_pick [0, 1, 2, 3] [0, 3, 7] rfl) ⟨0, 0, D, rfl, rfl, hD, rfl, rfl⟩ ?_
    rintro n s1 ⟨i, j, E, hni, rfl, hE, hone, rfl⟩
    refine aw_seq (aw_region hT ?_)
    refine aw_seq (aw_cond (boolI (fun h => ?_) (fun h => ?_)))
    · have hi : i < 4 := by
        have := of_decide_eq_true (show decide ((i : Int) < 4) = true from h)
        omega
      obtain ⟨n, rfl⟩ : ∃ k, n = k + 1 := ⟨n - 1, by omega⟩
      have w := hand_once E m a s (b + i) hE (by omega)
      have ok := once_ok hE a s
      have herr := @once_err E a s
      unfold Dev.tryK at hone
      generalize E.once a s = Y at w ok hone herr
      obtain ⟨⟨y1, y2⟩, E2⟩ := Y
      refine aw_skip ?_
      refine aw_cut ⟨⟨29, [(0, .ref 0 0), (3, .p (.box [.raw (.int .i64 a), bP s])), (7, i64 i)]⟩, hH E2 m⟩ (y2 = 0 ∧ y1 = false) (aw_block (aw_seq (aw_region hT ?_))) ?_
      · refine callP (af_in [0, 1, 2, 3] w rfl rfl rfl) ?_
        refine aw_block ?_
        refine aw_seq (aw_region hT ?_)
        refine aw_cond (boolI (fun h1 => ?_) (fun h1 => ?_))
        · have h1 : (y2 != 0) = true := h1
          have e : D.one a s = (y2, E2) := by rw [hone]; simp only; rw [h1]
          refine aw_seq (aw_region hT ?_)
          refine aw_ret ?_
          rw [e]
          have hm : more y2 m = m := by unfold more; rw [show (y2 == 0) = false by simpa using h1]
          rw [hm]
          exact retPick [0, 1, 4, 5] ⟨rfl, rfl⟩ rfl
        · have h1 : (y2 != 0) = false := h1
          refine aw_seq (aw_region hT ?_)
          refine aw_cond (boolI (fun h2 => ?_) (fun h2 => ?_))
          · have h2 : y1 = true := h2
            have e : D.one a s = (0, E2) := by rw [hone]; simp only; rw [h1, h2]
            refine aw_seq (aw_region hT ?_)
            refine aw_seq (aw_region hT ?_)
            refine aw_ret ?_
            rw [e]
            exact retPick [0, 1, 4, 5] ⟨rfl, rfl⟩ rfl
          · exact aw_skip ⟨wk_pick [0, 1, 4, 5] [0, 3, 7] rfl, by simpa using h1, h2⟩
      · rintro ⟨h1, h2⟩
        have e : D.one a s = Dev.tryK n E2 a s := by rw [hone]; simp only; rw [show (y2 != 0) = false by simpa using h1, h2]
        refine aw_region hT ?_
        refine ⟨n, by omega, _, wk_pick [0, 1, 2, 3] [0, 3, 7] rfl, i + 1, IntKind.i64.wrap ((i : Int) + 1), E2, by omega, ?_, by rw [← Nat.add_assoc]; exact ok, e, rfl⟩
        rw [wrap64 _ (by omega) (by omega)]; rfl
    · have hi : ¬ (i : Int) < 4 := of_decide_eq_false h
      have hn0 : n = 0 := by omega
      subst hn0
      refine aw_exit ?_
      exact ⟨_, wk_pick [0, 1, 2, 3] [] rfl, E, hone, rfl⟩
  · rintro _ ⟨E, e, rfl⟩
    refine aw_seq (aw_region hT ?_)
    refine aw_ret ?_
    rw [e]
    exact retPick [0, 1, 2, 3] ⟨rfl, rfl⟩ rfl
end Go.Proofs.YtinfbclgkghgaaaGreat.AL

/- The layer 09 (keep): each of some; one, all. -/
namespace Go.Proofs.YtinfbclgkghgaaaGreat.AL
open Go Go.Proofs

structure Put9 where
  at_ : Int
  s : Bytes
def Put9.pv (x : Put9) : List PV := [.raw (.int .i64 x.at_), bP x.s]
def px (l : List Put9) : List (List PV) := l.map Put9.pv
theorem px_len (l : List Put9) : (px l).length = l.length := by simp [px]
theorem px_get {l : List Put9} {i : Nat} {c : Put9} (h : l[i]? = some c) : (px l)[i]? = some c.pv := by rw [px, List.getElem?_map, h]; rfl

def eachK (g : Dev → Int → Int → Bytes → Int × (Dev × Int)) : List Put9 → Dev → Int → Int × (Dev × Int)
  | [], D, m => (0, (D, m))
  | x :: r, D, m => match (g D m x.at_ x.s).1 != 0 with
    | true => g D m x.at_ x.s
    | false => eachK g r (g D m x.at_ x.s).2.1 (g D m x.at_ x.s).2.2

theorem eachK_cons (g : Dev → Int → Int → Bytes → Int × (Dev × Int)) (x : Put9) (r : List Put9) (D : Dev) (m : Int) : eachK g (x :: r) D m = match (g D m x.at_ x.s).1 != 0 with
    | true => g D m x.at_ x.s
    | false => eachK g r (g D m x.at_ x.s).2.1 (g D m x.at_ x.s).2.2 := rfl

/-- What a hand's function does to a device. -/
def Steps (f : FuncId) (g : Dev → Int → Int → Bytes → Int × (Dev × Int)) : Prop := ∀ (D : Dev) (m a : Int) (s : Bytes) (b : Nat), D.Ok b → b + 4 < 1000000 →
  AFm Tryz.prog 2 f [.ref 0 0, putAV a s] (hH D m) (Pure (i64 (g D m a s).1) (hH (g D m a s).2.1 (g D m a s).2.2)) ∧ (g D m a s).2.1.Ok (b + 4)

theorem each_ok {f : FuncId} {g : Dev → Int → Int → Bytes → Int × (Dev × Int)} (hg : Steps f g) : ∀ (l : List Put9) {D : Dev} {m : Int} {b : Nat}, D.Ok b → b + 4 * l.length < 1000000 → (eachK g l D m).2.1.Ok (b + 4 * l.length)
  | [], D, m, b, h, _ => h
  | x :: r, D, m, b, h, hb => by
    simp only [List.length_cons] at hb
    have h1 := (hg D m x.at_ x.s b h (by omega)).2
    unfold eachK
    split
    · exact h1.mono (by simp only [List.length_cons]; omega)
    · rw [show b + 4 * (x :: r).length = b + 4 + 4 * r.length by simp only [List.length_cons]; omega]
      exact each_ok hg r h1 (by omega)

theorem keep_each {f : FuncId} {g : Dev → Int → Int → Bytes → Int × (Dev × Int)} (hg : Steps f g) (l : List Put9) (D : Dev) (m : Int) (b : Nat) (hD : D.Ok b) (hb : b + 4 * l.length < 1000000) :
    AFm Tryz.prog 2 f_keep_each [.p (.sl 2 (px l)), .mth (.func f) [.ref 0 0]] (hH D m) (Pure (i64 (eachK g l D m).1) (hH (eachK g l D m).2.1 (eachK g l D m).2.2)) := by
  refine af_bodyM 2 hT F_keep_each rfl rfl N_keep_each rfl rfl ?_
  refine aw_seq (aw_region hT ?_)
  refine aw_cut2 (fun s1 => ∃ E k, eachK g l D m = (0, (E, k)) ∧ s1 = ⟨⟨21, []⟩, hH E k⟩) (aw_seq (aw_region hT ?_)) ?_
  · refine aw_block ?_
    refine aw_loopW (fun n s1 => ∃ (i : Nat) (j : Int) (E : Dev) (k : Int), n + i = l.length ∧ j = i ∧ E.Ok (b + 4 * i) ∧ eachK g l D m = eachK g (l.drop i) E k ∧ s1 = ⟨⟨21, [(1, .mth (.func f) [.ref 0 0]), (8, .p (.sl 2 (px l))), (9, i64 l.length), (10, i64 j)]⟩, hH E k⟩) l.length ⟨⟨21, _⟩, [_, _, _, _]⟩ (wk_pick [0, 1, 2, 3] [1, 8, 9, 10] rfl) ⟨0, 0, D, m, rfl, rfl, hD, rfl, by rw [← px_len l]; rfl⟩ ?_
    rintro n s1 ⟨i, j, E, k, hni, rfl, hE, he, rfl⟩
    refine aw_seq (aw_region hT ?_)
    refine aw_seq (aw_cond (boolI (fun h => ?_) (fun h => ?_)))
    · have hi : i < l.length := by
        have := of_decide_eq_true (show decide ((i : Int) < (l.length : Int)) = true from h)
        omega
      have hx := List.getElem?_eq_getElem hi
      have hdr : l.drop i = l[i] :: l.drop (i + 1) := List.drop_eq_getElem_cons hi
      generalize l[i] = x at hx hdr
      have hxp : (px l)[((i : Nat) : Int).toNat]? = some x.pv := by rw [Int.toNat_natCast]; exact px_get hx
      obtain ⟨w, ok⟩ := hg E k x.at_ x.s (b + 4 * i) hE (by omega)
      rw [hdr, eachK_cons] at he
      generalize g E k x.at_ x.s = Y at w ok he
      obtain ⟨e, E2, k2⟩ := Y
      refine aw_skip ?_
      refine aw_cut ⟨⟨21, [(1, .mth (.func f) [.ref 0 0]), (8, .p (.sl 2 (px l))), (9, i64 l.length), (10, i64 i)]⟩, hH E2 k2⟩ (e = 0) (aw_block (aw_seq (aw_region hT ?_))) ?_
      · refine ⟨Int.natCast_nonneg _, optI hxp ?_⟩
        refine aw_seq (aw_region hT ?_)
        refine callP (af_in [0, 1, 2, 3] w rfl rfl rfl) ?_
        refine aw_seq (aw_region hT ?_)
        refine aw_cond (boolI (fun h1 => ?_) (fun h1 => ?_))
        · have h1 : (e != 0) = true := h1
          have e1 : eachK g l D m = (e, (E2, k2)) := by rw [he]; simp only; rw [h1]
          refine aw_seq (aw_region hT ?_)
          refine aw_ret ?_
          rw [e1]
          exact retPick [0, 1, 5, 6] ⟨rfl, rfl⟩ rfl
        · have h1 : (e != 0) = false := h1
          exact aw_skip ⟨wk_pick [0, 1, 5, 6] [1, 8, 9, 10] rfl, by simpa using h1⟩
      · intro h1
        have e1 : eachK g l D m = eachK g (l.drop (i + 1)) E2 k2 := by rw [he]; simp only; rw [show (e != 0) = false by simpa using h1]
        refine aw_region hT ?_
        refine ⟨n - 1, by omega, _, wk_pick [0, 1, 2, 3] [1, 8, 9, 10] rfl, i + 1, IntKind.i64.wrap ((i : Int) + 1), E2, k2, by omega, ?_, by rw [show b + 4 * (i + 1) = b + 4 * i + 4 by omega]; exact ok, e1, rfl⟩
        rw [wrap64 _ (by omega) (by omega)]; rfl
    · have hi : ¬ (i : Int) < (l.length : Int) := of_decide_eq_false h
      have hil : i = l.length := by omega
      subst hil
      rw [List.drop_length] at he
      refine aw_exit ?_
      exact ⟨_, wk_pick [0, 1, 2, 3] [] rfl, E, k, he, rfl⟩
  · rintro _ ⟨E, k, e, rfl⟩
    refine aw_seq (aw_region hT ?_)
    refine aw_ret ?_
    rw [e]
    exact retPick [0, 1, 2, 3] ⟨rfl, rfl⟩ rfl

/-- One, as a step. -/
def oneG (D : Dev) (m a : Int) (s : Bytes) : Int × (Dev × Int) := ((D.one a s).1, ((D.one a s).2, more (D.one a s).1 m))
theorem steps_one : Steps f_keep_hand_one oneG := fun D m a s b hD hb => ⟨hand_one D m a s b hD hb, one_ok2 hD a s⟩

def Dev.all9 (D : Dev) (l : List Put9) : Int × Dev := ((eachK oneG l D 0).1, (eachK oneG l D 0).2.1)
theorem keep_All (D : Dev) (l : List Put9) (b : Nat) (hD : D.Ok b) (hb : b + 4 * l.length < 1000000) : AFm Tryz.prog 1 f_keep_All [.ref 0 0, .p (.sl 2 (px l))] (devH D) (Pure (i64 (D.all9 l).1) (devH (D.all9 l).2)) := by
  have w := keep_each steps_one l D 0 b hD hb
  unfold Dev.all9
  generalize eachK oneG l D 0 = Y at w
  obtain ⟨e, E, k⟩ := Y
  refine af_bodyM 1 hT F_keep_All rfl rfl N_keep_All rfl rfl ?_
  refine aw_seq (aw_region hT ?_)
  refine aw_seq (aw_region hT ?_)
  refine callP (af_in [3, 0, 1, 2] w rfl rfl rfl) ?_
  refine aw_ret ?_
  exact retPick [0, 4, 5] ⟨rfl, rfl⟩ rfl
end Go.Proofs.YtinfbclgkghgaaaGreat.AL

/- The layer 11 (ring): a log is made; what it has. -/
namespace Go.Proofs.YtinfbclgkghgaaaGreat.AL
open Go Go.Proofs

structure Rg where
  vol : Int
  g : GeoV
  epoch : Int
  frm : Int
  start : Int
  next : Int
  chain : Int
abbrev rgC (R : Rg) : ABlk := .cells t_ring_Ring [.clo (.func f_ring_New_1) [.ref 1 0], i64 R.vol, i64 R.g.w, i64 R.g.s, i64 R.g.k, i64 R.g.m, i64 R.epoch, i64 R.frm, i64 R.start, i64 R.next, i64 R.chain]
/-- A device, what points at it, and a log on it. -/
abbrev rgH (R : Rg) (D : Dev) : List ABlk := [devC D 3 4, .cells t_p_disk_Disk [.ref 0 0], rgC R, .row t_disk_cell 4 (cx D.cells), .row t_disk_write 2 (wx D.waits)]
def newOk (vol : Int) (g : GeoV) (epoch start next chain : Int) : Bool := g.may && ([vol, epoch, start, next, chain].all wordB && (!decide (next < start) && !decide (next - start > g.w)))
def newR (vol : Int) (g : GeoV) (epoch start next chain : Int) : Rg := ⟨vol, g, epoch, next, start, next, chain⟩

set_option maxRecDepth 20000 in
theorem ring_New (D : Dev) (vol : Int) (g : GeoV) (epoch start next chain : Int) (h : newOk vol g epoch start next chain = true) :
    AFm Tryz.prog 1 f_ring_New [.ref 0 0, i64 vol, g.av, i64 epoch, i64 start, i64 next, i64 chain] (devH D) (Pure (.tup [.ref 2 0, i64 0]) (rgH (newR vol g epoch start next chain) D)) := by
  have wm := geo_May g
  have ww := ring_word [vol, epoch, start, next, chain] (by simp)
  have h0 := h
  unfold newOk at h0
  rw [Bool.and_eq_true, Bool.and_eq_true, Bool.and_eq_true] at h0
  obtain ⟨hg, hw, h1, h2⟩ := h0
  rw [hg] at wm
  rw [hw] at ww
  have hw2 := hw
  unfold wordB at hw2
  simp only [List.all_cons, List.all_nil, Bool.and_true, Bool.and_eq_true, decide_eq_true_eq] at hw2
  obtain ⟨q1, q2, q3, q4, q5⟩ := hw2
  have h1 := of_decide_eq_false ((Bool.not_eq_true' _).mp h1)
  have h2 := of_decide_eq_false ((Bool.not_eq_true' _).mp h2)
  have hwr : IntKind.i64.wrap (next - start) = next - start := wrap64 _ (by omega) (by omega)
  refine af_bodyM 1 hT F_ring_New rfl rfl N_ring_New rfl rfl ?_
  refine aw_seq (aw_region hT ?_)
  refine aw_wk (wk_boxL 4 g.pv rfl rfl) ?_
  refine aw_cut ⟨⟨58, [(1, i64 vol), (3, i64 epoch), (4, i64 start), (5, i64 next), (6, i64 chain), (7, .ref 3 0), (9, .p (.box g.pv))]⟩, devH D ++ [.cells t_p_disk_Disk [.ref 0 0]]⟩ True (aw_seq (aw_regionF (fun k => Nat.beq 13 k) hT ?_)) (fun _ => ?_)
  · refine callP (af_at wm _ rfl rfl) ?_
    refine ⟨⟨rfl, rfl⟩, ?_⟩
    refine callP (af_at ww _ rfl rfl) ?_
    refine boolI (fun h => ?_) (fun h => ?_)
    · have h := of_decide_eq_true (show decide (next < start) = true from h)
      omega
    refine aw_cond (boolI (fun h => ?_) (fun h => ?_))
    · have h := of_decide_eq_true (show decide (IntKind.i64.wrap (next - start) > g.w) = true from h)
      rw [hwr] at h
      omega
    exact aw_skip ⟨wk_pick [0, 1, 2, 3] [1, 3, 4, 5, 6, 7, 9] rfl, trivial⟩
  refine aw_seq (aw_region hT ?_)
  refine aw_seq (aw_region hT ?_)
  refine aw_ret ?_
  exact retPick [0, 3, 4, 1, 2] ⟨rfl, rfl⟩ rfl

set_option maxRecDepth 20000 in
theorem Ring_Cut (R : Rg) (D : Dev) : AFm Tryz.prog 3 f_ring_Ring_Cut [.ref 2 0] (rgH R D) (Pure (.tup []) (rgH { R with start := R.next } D)) := by
  refine af_bodyM 3 hT F_ring_Ring_Cut rfl rfl N_ring_Ring_Cut rfl rfl ?_
  refine aw_seq (aw_region hT ?_)
  refine aw_cond ?_
  refine aw_region hT ?_
  exact retPick [0, 1, 2, 3, 4] ⟨rfl, rfl⟩ rfl
end Go.Proofs.YtinfbclgkghgaaaGreat.AL

/- The layer 11 (ring): a transaction is split, a piece is put. -/
namespace Go.Proofs.YtinfbclgkghgaaaGreat.AL
open Go Go.Proofs

def splitF : Nat → Bytes → List Bytes
  | 0, b => [b]
  | f + 1, b => match decide (b.length > 200) with
    | true => b.take 200 :: splitF f (b.drop 200)
    | false => [b]
def splitB (b : Bytes) : List Bytes := splitF b.length b
theorem splitF_len : ∀ (f : Nat) (b : Bytes), (splitF f b).length ≤ f + 1
  | 0, _ => Nat.le_refl _
  | f + 1, b => by
    unfold splitF
    split
    · rw [List.length_cons]; have := splitF_len f (b.drop 200); omega
    · simp

set_option maxRecDepth 20000 in
theorem ring_split (tx : Bytes) (htx : tx.length ≤ 1000000) : AF Tryz.prog f_ring_split [bA tx] [] (Pure (.p (.sl 1 (catX (splitB tx)))) []) := by
  refine AF.mono (R := fun r H' => ∃ z, z = splitB tx ∧ r = .p (.sl 1 (catX z)) ∧ H' = []) ?_ (by rintro r H' ⟨b, rfl, rfl, rfl⟩; exact ⟨rfl, rfl⟩)
  refine af_body hT F_ring_split rfl rfl N_ring_split rfl ?_
  refine aw_seq (aw_region hT ?_)
  refine aw_cut ⟨⟨18, [(0, bA tx), (3, .msl 0 1 0 0)]⟩, [.row t_s_u8 1 []]⟩ True (aw_region hT ?_) (fun _ => ?_)
  · exact ⟨Wk.trans (wk_phantom t_s_u8 1) (Wk.trans (wk_nil 3 0 1 0 rfl) (wk_pick [0] [0, 3] rfl)), trivial⟩
  refine aw_cut2 (fun st => ∃ (L : List Bytes) (b : Bytes), L ++ [b] = splitB tx ∧ L.length ≤ 1000000 ∧ st = ⟨⟨18, [(0, bA b), (3, .msl 0 1 0 (catX L).length)]⟩, [.row t_s_u8 1 (catX L)]⟩) (aw_block ?_) ?_
  · refine aw_loopW (fun n st => ∃ (L : List Bytes) (b : Bytes), b.length ≤ n ∧ n + L.length ≤ tx.length ∧ L ++ splitF n b = splitB tx ∧ st = ⟨⟨18, [(0, bA b), (3, .msl 0 1 0 (catX L).length)]⟩, [.row t_s_u8 1 (catX L)]⟩) tx.length ⟨⟨18, _⟩, _⟩ (wk_pick [0] [0, 3] rfl) ⟨[], tx, Nat.le_refl _, Nat.le_refl _, rfl, rfl⟩ ?_
    rintro n st ⟨L, b, hbn, hnL, hLb, rfl⟩
    have hbl := bx_len b
    have hcl := catX_len L
    refine aw_seq (aw_seq (aw_region hT ?_))
    refine aw_cond (boolI (fun h => ?_) (fun h => ?_))
    · have h := of_decide_eq_true (show decide ((((bx b).length : Nat) : Int) > 200) = true from h)
      obtain ⟨n, rfl⟩ : ∃ m, n = m + 1 := ⟨n - 1, by omega⟩
      have e : splitF (n + 1) b = b.take 200 :: splitF n (b.drop 200) := by
        show (match decide (b.length > 200) with | true => b.take 200 :: splitF n (b.drop 200) | false => [b]) = _
        rw [decide_eq_true (show b.length > 200 by omega)]
      rw [e] at hLb
      have e1 : ((bx b).take (200 : Int).toNat).drop (0 : Int).toNat = bx (b.take 200) := by rw [bx_take]; rfl
      have e2 : ((bx b).take (((bx b).length : Nat) : Int).toNat).drop (200 : Int).toNat = bx (b.drop 200) := by rw [Int.toNat_natCast, List.take_length, bx_drop]; rfl
      have hrow : [[PV.sl 1 (((bx b).take (200 : Int).toNat).drop (0 : Int).toNat)]] = [[bP (b.take 200)]] := by rw [e1]
      have hs0 : AV.p (.sl 1 (((bx b).take (((bx b).length : Nat) : Int).toNat).drop (200 : Int).toNat)) = bA (b.drop 200) := by rw [e2]
      refine aw_skip ?_
      refine aw_block ?_
      refine aw_draw [4] [3] hT follows_mixed (by rfl) ?_
      refine ⟨⟨Int.le_refl _, by decide, by omega⟩, ?_⟩
      refine ⟨⟨rfl, rfl⟩, ?_⟩
      refine ⟨rfl, ⟨?_, ?_⟩, ?_⟩
      · show ((catX L).length + 1) * 24 ≤ _
        omega
      · show (catX L).length + 1 ≤ _
        omega
      refine ⟨⟨by decide, by omega, Int.le_refl _⟩, ?_⟩
      refine ⟨n, by omega, _, wk_pick [1] [0, 3] rfl, L ++ [b.take 200], b.drop 200, by rw [List.length_drop]; omega, by rw [List.length_append]; simp; omega, by rw [List.append_assoc]; exact hLb, ?_⟩
      rw [catX_snoc1, ← hrow, ← hs0]; rfl
    · have h := of_decide_eq_false (show decide ((((bx b).length : Nat) : Int) > 200) = false from h)
      have e : splitF n b = [b] := by
        cases n with
        | zero => rfl
        | succ n =>
          show (match decide (b.length > 200) with | true => b.take 200 :: splitF n (b.drop 200) | false => [b]) = _
          rw [decide_eq_false (show ¬ b.length > 200 by omega)]
      rw [e] at hLb
      refine aw_exit ?_
      exact ⟨_, wk_pick [0] [0, 3] rfl, L, b, hLb, by omega, rfl⟩
  rintro _ ⟨L, b, hLb, hLl, rfl⟩
  have hcl := catX_len L
  refine aw_seq (aw_regionF (fun k => Nat.beq 2 k) hT ?_)
  refine ⟨⟨rfl, rfl⟩, ?_⟩
  refine ⟨rfl, ⟨?_, ?_⟩, ?_⟩
  · show ((catX L).length + 1) * 24 ≤ _
    omega
  · show (catX L).length + 1 ≤ _
    omega
  refine aw_wk (wk_frzE 2 1 _ (catX_snoc1 L b).symm rfl rfl rfl) ?_
  refine aw_ret ?_
  exact retPick [] ⟨_, hLb, rfl, rfl⟩ rfl

theorem ring_New_1 (D : Dev) (l : List Put9) (b : Nat) (hD : D.Ok b) (hb : b + 4 * l.length < 1000000) : AFm Tryz.prog 2 f_ring_New_1 [.p (.sl 2 (px l)), .ref 1 0] [devC D 2 3, .cells t_p_disk_Disk [.ref 0 0], .row t_disk_cell 4 (cx D.cells), .row t_disk_write 2 (wx D.waits)] (Pure (i64 (D.all9 l).1) [devC (D.all9 l).2 2 3, .cells t_p_disk_Disk [.ref 0 0], .row t_disk_cell 4 (cx (D.all9 l).2.cells), .row t_disk_write 2 (wx (D.all9 l).2.waits)]) := by
  have w := keep_All D l b hD hb
  generalize D.all9 l = Y at w
  obtain ⟨e, E⟩ := Y
  refine af_bodyM 2 hT F_ring_New_1 rfl rfl N_ring_New_1 rfl rfl ?_
  refine aw_seq (aw_region hT ?_)
  refine aw_seq (aw_region hT ?_)
  refine callP (af_in [0, 2, 3] w rfl rfl rfl) ?_
  refine aw_ret ?_
  exact retPick [0, 1, 4, 5] ⟨rfl, rfl⟩ rfl

/-- A piece is put into both mirrors. -/
def putsR (R : Rg) (p : Pc) : List Put9 := [⟨addrB R.g 0 (p.seq.tmod R.g.w), (p.sector R.vol R.g 0).1⟩, ⟨addrB R.g 1 (p.seq.tmod R.g.w), (p.sector R.vol R.g 1).1⟩]
def putR (R : Rg) (D : Dev) (p : Pc) : Int × (Rg × Dev) := match (D.all9 (putsR R p)).1 != 0 with
  | true => ((D.all9 (putsR R p)).1, (R, (D.all9 (putsR R p)).2))
  | false => (0, ({ R with next := R.next + 1, chain := sumP R.vol R.g p }, (D.all9 (putsR R p)).2))

set_option maxHeartbeats 1000000 in
set_option maxRecDepth 20000 in
theorem Ring_put (R : Rg) (D : Dev) (p : Pc) (b : Nat) (hD : D.Ok b) (hb : b + 8 < 1000000) (hp : p.may = true) (hg : R.g.may = true) (hv : wordB R.vol = true) (hn0 : 0 ≤ R.next) (hn : R.next ≤ 4294967295) :
    AFm Tryz.prog 3 f_ring_Ring_put [.ref 2 0, p.av] (rgH R D) (Pure (i64 (putR R D p).1) (rgH (putR R D p).2.1 (putR R D p).2.2)) := by
  refine AFm.mono (R := fun r H' => ∃ z, z = putR R D p ∧ r = i64 z.1 ∧ H' = rgH z.2.1 z.2.2) ?_ (by rintro r H' ⟨b, rfl, rfl, rfl⟩; exact ⟨rfl, rfl⟩)
  obtain ⟨vol, g, epoch, frm, start, next, chain⟩ := R
  have hg : g.may = true := hg
  have hv : wordB vol = true := hv
  have hn0 : 0 ≤ next := hn0
  have hn : next ≤ 4294967295 := hn
  obtain ⟨g1, g2, _⟩ := g.of_may hg
  have hpm := p.of_may hp
  obtain ⟨s0, s1⟩ := slot_ok hg hpm.1.1
  have o0 := sectorP_ok hp hg hv (Int.le_refl 0) (by omega)
  have o1 := sectorP_ok hp hg hv (show (0 : Int) ≤ 1 by omega) (by omega)
  have wS0 := ring_Sector vol g 0 p
  have wS1 := ring_Sector vol g 1 p
  have e0 : (p.sector vol g 0).2 = 0 := by rw [o0.1]
  have e1 : (p.sector vol g 1).2 = 0 := by rw [o1.1]
  have r0 := ring_addr g 0 (p.seq.tmod g.w) (by omega) (by omega) s0 (by omega)
  have r1 := ring_addr g 1 (p.seq.tmod g.w) (by omega) (by omega) s0 (by omega)
  have wA := ring_New_1 D (putsR ⟨vol, g, epoch, frm, start, next, chain⟩ p) b hD (by show b + 4 * 2 < _; omega)
  have wsl : (p.sector vol g 0).1.length ≤ 1000000 := by
    rw [o0.1]
    show (sealB _).length ≤ _
    rw [sealB_len, all_len _ (by show (pcB p).length ≤ 228; have := pcB_len hp; omega)]; omega
  have wsum := crc_Sum (p.sector vol g 0).1 wsl
  have esum : ((Crc.sum (p.sector vol g 0).1).toNat : Int) = sumP vol g p := rfl
  rw [esum] at wsum
  have eP : putR ⟨vol, g, epoch, frm, start, next, chain⟩ D p = match (D.all9 (putsR ⟨vol, g, epoch, frm, start, next, chain⟩ p)).1 != 0 with
    | true => ((D.all9 (putsR ⟨vol, g, epoch, frm, start, next, chain⟩ p)).1, (⟨vol, g, epoch, frm, start, next, chain⟩, (D.all9 (putsR ⟨vol, g, epoch, frm, start, next, chain⟩ p)).2))
    | false => (0, (⟨vol, g, epoch, frm, start, next + 1, sumP vol g p⟩, (D.all9 (putsR ⟨vol, g, epoch, frm, start, next, chain⟩ p)).2)) := rfl
  have eQ : putsR ⟨vol, g, epoch, frm, start, next, chain⟩ p = [⟨addrB g 0 (p.seq.tmod g.w), (p.sector vol g 0).1⟩, ⟨addrB g 1 (p.seq.tmod g.w), (p.sector vol g 1).1⟩] := rfl
  generalize putR ⟨vol, g, epoch, frm, start, next, chain⟩ D p = Z at eP
  generalize D.all9 (putsR ⟨vol, g, epoch, frm, start, next, chain⟩ p) = Y at wA eP
  generalize putsR ⟨vol, g, epoch, frm, start, next, chain⟩ p = Q at wA eQ
  obtain ⟨ea, E⟩ := Y
  have wA : AFm Tryz.prog 2 f_ring_New_1 [.p (.sl 2 (px Q)), .ref 1 0] [devC D 2 3, .cells t_p_disk_Disk [.ref 0 0], .row t_disk_cell 4 (cx D.cells), .row t_disk_write 2 (wx D.waits)] (Pure (i64 ea) [devC E 2 3, .cells t_p_disk_Disk [.ref 0 0], .row t_disk_cell 4 (cx E.cells), .row t_disk_write 2 (wx E.waits)]) := wA
  have eP : Z = match ea != 0 with
    | true => (ea, (⟨vol, g, epoch, frm, start, next, chain⟩, E))
    | false => (0, (⟨vol, g, epoch, frm, start, next + 1, sumP vol g p⟩, E)) := eP
  clear o0 o1 esum
  generalize sumP vol g p = sm at wsum eP
  generalize p.sector vol g 0 = S0 at *
  generalize p.sector vol g 1 = S1 at *
  obtain ⟨t0, f0⟩ := S0
  obtain ⟨t1, f1⟩ := S1
  have e0 : f0 = 0 := e0
  have e1 : f1 = 0 := e1
  subst e0
  subst e1
  have wS0 : AF Tryz.prog f_ring_Sector [i64 vol, g.av, i64 0, p.av] [] (Pure (.tup [bA t0, i64 0]) []) := wS0
  have wS1 : AF Tryz.prog f_ring_Sector [i64 vol, g.av, i64 1, p.av] [] (Pure (.tup [bA t1, i64 0]) []) := wS1
  have wsum : AF Tryz.prog f_crc_Sum [bA t0] [] (Pure (i64 sm) []) := wsum
  generalize addrB g 0 (p.seq.tmod g.w) = d0 at *
  generalize addrB g 1 (p.seq.tmod g.w) = d1 at *
  have eQ : Q = [⟨d0, t0⟩, ⟨d1, t1⟩] := eQ
  have hwn : IntKind.i64.wrap (next + 1) = next + 1 := wrap64 _ (by omega) (by omega)
  refine af_bodyM 3 hT F_ring_Ring_put rfl rfl N_ring_Ring_put rfl rfl ?_
  refine aw_seq (aw_region hT ?_)
  refine aw_wk (wk_boxL 5 p.pv rfl rfl) ?_
  refine aw_cut ⟨⟨75, [(0, .ref 2 0), (3, .p (.box p.pv)), (5, .msl 5 2 0 0)]⟩, rgH ⟨vol, g, epoch, frm, start, next, chain⟩ D ++ [.row t_api_Put 2 []]⟩ True (aw_region hT ?_) (fun _ => ?_)
  · exact ⟨Wk.trans (wk_pick [0, 1, 2, 3, 4] [0, 3, 5] rfl) (Wk.trans (wk_phantom t_api_Put 2) (Wk.trans (wk_nil 5 5 2 0 rfl) (wk_pick [0, 1, 2, 3, 4, 5] [0, 3, 5] rfl))), trivial⟩
  refine aw_cut ⟨⟨75, [(0, .ref 2 0), (3, .p (.box p.pv)), (5, .p (.sl 2 (px Q)))]⟩, rgH ⟨vol, g, epoch, frm, start, next, chain⟩ D⟩ True (aw_seq (aw_region hT ?_)) (fun _ => ?_)
  · refine aw_block ?_
    refine aw_loopW (fun n st => (n = 2 ∧ st = ⟨⟨75, [(0, .ref 2 0), (3, .p (.box p.pv)), (5, .msl 5 2 0 0), (10, i64 0)]⟩, rgH ⟨vol, g, epoch, frm, start, next, chain⟩ D ++ [.row t_api_Put 2 []]⟩) ∨ (n = 1 ∧ st = ⟨⟨75, [(0, .ref 2 0), (3, .p (.box p.pv)), (5, .msl 5 2 0 1), (10, i64 1)]⟩, rgH ⟨vol, g, epoch, frm, start, next, chain⟩ D ++ [.row t_api_Put 2 [[.raw (.int .i64 d0), bP t0]]]⟩) ∨ (n = 0 ∧ st = ⟨⟨75, [(0, .ref 2 0), (3, .p (.box p.pv)), (5, .msl 5 2 0 (px Q).length), (10, i64 2)]⟩, rgH ⟨vol, g, epoch, frm, start, next, chain⟩ D ++ [.row t_api_Put 2 (px Q)]⟩)) 2 ⟨⟨75, _⟩, _⟩ (wk_pick [0, 1, 2, 3, 4, 5] [0, 3, 5, 10] rfl) (.inl ⟨rfl, rfl⟩) ?_
    rintro n st (⟨rfl, rfl⟩ | ⟨rfl, rfl⟩ | ⟨rfl, rfl⟩)
    · refine aw_seq (aw_region hT ?_)
      refine aw_seq (aw_cond ?_)
      refine aw_skip ?_
      refine aw_cut ⟨⟨75, [(0, .ref 2 0), (3, .p (.box p.pv)), (5, .msl 5 2 0 1), (10, i64 0)]⟩, rgH ⟨vol, g, epoch, frm, start, next, chain⟩ D ++ [.row t_api_Put 2 [[.raw (.int .i64 d0), bP t0]]]⟩ True (aw_block (aw_seq (aw_region hT ?_))) (fun _ => ?_)
      · refine aw_cut ⟨⟨75, [(0, .ref 2 0), (3, .p (.box p.pv)), (5, .msl 5 2 0 0), (6, i64 0), (7, bA t0), (8, i64 0), (10, i64 0)]⟩, rgH ⟨vol, g, epoch, frm, start, next, chain⟩ D ++ [.row t_api_Put 2 []]⟩ True ?_ (fun _ => ?_)
        · refine aw_draw [] [] hT follows_mixed (by rfl) ?_
          refine ⟨_, af_at wS0 _ rfl rfl, ?_⟩
          exact ⟨wk_pick [0, 1, 2, 3, 4, 5] [0, 3, 5, 6, 7, 8, 10] rfl, trivial⟩
        refine aw_seq (aw_seq (aw_region hT ?_))
        refine aw_cond ?_
        refine aw_skip ?_
        refine aw_draw [18] [17] hT follows_mixed (by rfl) ?_
        refine neI (y := g.w) (by omega) ?_
        refine ⟨_, af_at r0 _ rfl rfl, ?_⟩
        refine ⟨⟨rfl, rfl⟩, ?_⟩
        refine ⟨rfl, ⟨?_, ?_⟩, ?_⟩
        · show (0 + 1) * 32 ≤ 140737488355328
          decide
        · show 0 + 1 ≤ 140737488355328
          decide
        skip
        exact ⟨wk_pick [0, 1, 2, 3, 4, 6] [0, 3, 5, 10] rfl, trivial⟩
      · refine aw_region hT ?_
        exact ⟨1, by omega, _, wk_pick [0, 1, 2, 3, 4, 5] [0, 3, 5, 10] rfl, .inr (.inl ⟨rfl, rfl⟩)⟩
    · refine aw_seq (aw_region hT ?_)
      refine aw_seq (aw_cond ?_)
      refine aw_skip ?_
      refine aw_cut ⟨⟨75, [(0, .ref 2 0), (3, .p (.box p.pv)), (5, .msl 5 2 0 (px Q).length), (10, i64 1)]⟩, rgH ⟨vol, g, epoch, frm, start, next, chain⟩ D ++ [.row t_api_Put 2 (px Q)]⟩ True (aw_block (aw_seq (aw_region hT ?_))) (fun _ => ?_)
      · refine aw_cut ⟨⟨75, [(0, .ref 2 0), (3, .p (.box p.pv)), (5, .msl 5 2 0 1), (6, i64 1), (7, bA t1), (8, i64 0), (10, i64 1)]⟩, rgH ⟨vol, g, epoch, frm, start, next, chain⟩ D ++ [.row t_api_Put 2 [[.raw (.int .i64 d0), bP t0]]]⟩ True ?_ (fun _ => ?_)
        · refine aw_draw [] [] hT follows_mixed (by rfl) ?_
          refine ⟨_, af_at wS1 _ rfl rfl, ?_⟩
          exact ⟨wk_pick [0, 1, 2, 3, 4, 5] [0, 3, 5, 6, 7, 8, 10] rfl, trivial⟩
        refine aw_seq (aw_seq (aw_region hT ?_))
        refine aw_cond ?_
        refine aw_skip ?_
        refine aw_draw [18] [17] hT follows_mixed (by rfl) ?_
        refine neI (y := g.w) (by omega) ?_
        refine ⟨_, af_at r1 _ rfl rfl, ?_⟩
        refine ⟨⟨rfl, rfl⟩, ?_⟩
        refine ⟨rfl, ⟨?_, ?_⟩, ?_⟩
        · show (1 + 1) * 32 ≤ 140737488355328
          decide
        · show 1 + 1 ≤ 140737488355328
          decide
        rw [eQ]
        exact ⟨wk_pick [0, 1, 2, 3, 4, 6] [0, 3, 5, 10] rfl, trivial⟩
      · refine aw_region hT ?_
        exact ⟨0, by omega, _, wk_pick [0, 1, 2, 3, 4, 5] [0, 3, 5, 10] rfl, .inr (.inr ⟨rfl, rfl⟩)⟩
    · refine aw_seq (aw_region hT ?_)
      refine aw_seq (aw_cond ?_)
      refine aw_exit ?_
      exact ⟨Wk.trans (wk_frzN 5 5 2 _ rfl rfl rfl rfl) (wk_pick [0, 1, 2, 3, 4] [0, 3, 5] rfl), trivial⟩
  refine aw_cut ⟨⟨75, [(0, .ref 2 0), (5, .p (.sl 2 (px Q)))]⟩, rgH ⟨vol, g, epoch, frm, start, next, chain⟩ E⟩ ((ea != 0) = false) (aw_seq (aw_region hT ?_)) ?_
  · refine callP (af_in [0, 1, 3, 4] wA rfl rfl rfl) ?_
    refine aw_seq (aw_region hT ?_)
    refine aw_cond (boolI (fun h => ?_) (fun h => ?_))
    · have h : (ea != 0) = true := h
      rw [h] at eP
      refine aw_seq (aw_region hT ?_)
      refine aw_ret ?_
      exact retPick [0, 1, 2, 5, 6] ⟨_, eP.symm, rfl, rfl⟩ rfl
    · have h : (ea != 0) = false := h
      exact aw_skip ⟨wk_pick [0, 1, 2, 5, 6] [0, 5] rfl, h⟩
  intro h
  rw [h] at eP
  have hxp : (px Q)[(0 : Int).toNat]? = some [.raw (.int .i64 d0), bP t0] := by rw [eQ]; rfl
  refine aw_cut ⟨⟨75, []⟩, rgH ⟨vol, g, epoch, frm, start, IntKind.i64.wrap (next + 1), sm⟩ E⟩ True ?_ (fun _ => ?_)
  · refine aw_draw [14, 17] [] hT follows_mixed (by rfl) ?_
    refine ⟨Int.le_refl _, optI hxp ?_⟩
    refine ⟨_, af_at wsum _ rfl rfl, ?_⟩
    repeat first | refine ⟨rfl, ?_⟩ | refine ⟨⟨_, af_at wsum _ rfl rfl, rfl⟩, ?_⟩ | refine ⟨⟨Int.le_refl _, optI hxp rfl⟩, ?_⟩
    exact ⟨wk_pick [0, 1, 2, 3, 4] [] rfl, trivial⟩
  refine aw_seq (aw_region hT ?_)
  refine aw_ret ?_
  refine retPick [0, 1, 2, 3, 4] ⟨_, eP.symm, rfl, ?_⟩ rfl
  have hwn : IntKind.i64.wrap (next + 1) = next + 1 := hwn
  rw [hwn]; rfl
end Go.Proofs.YtinfbclgkghgaaaGreat.AL

/- The layer 11 (ring): a transaction is appended. -/
namespace Go.Proofs.YtinfbclgkghgaaaGreat.AL
open Go Go.Proofs

structure Rg.Ok (R : Rg) : Prop where
  g : R.g.may = true
  vol : wordB R.vol = true
  e : 0 ≤ R.epoch ∧ R.epoch ≤ 4294967295
  f : 0 ≤ R.frm ∧ R.frm ≤ R.next
  s : 0 ≤ R.start ∧ R.start ≤ R.next
  n : R.next ≤ 4294967295
  c : 0 ≤ R.chain ∧ R.chain ≤ 4294967295
def pcR (R : Rg) (i n : Int) (b : Bytes) : Pc := ⟨R.next, R.epoch, R.frm, R.chain, i, n, b⟩
def appK (n : Int) : List Bytes → Int → Rg → Dev → Int × (Rg × Dev)
  | [], _, R, D => (0, (R, D))
  | b :: r, i, R, D => match (putR R D (pcR R i n b)).1 != 0 with
    | true => putR R D (pcR R i n b)
    | false => appK n r (i + 1) (putR R D (pcR R i n b)).2.1 (putR R D (pcR R i n b)).2.2
def Rg.append (R : Rg) (D : Dev) (tx : Bytes) : Int × (Rg × Dev) := match decide ((splitB tx).length > 64) with
  | true => (2, (R, D))
  | false => match decide (R.next + (splitB tx).length - R.start > R.g.w) || decide (R.next + (splitB tx).length > 4294967295) with
    | true => (4, (R, D))
    | false => appK (splitB tx).length (splitB tx) 0 R D

theorem splitF_all : ∀ (f : Nat) (b : Bytes), b.length ≤ f → ∀ s ∈ splitF f b, s.length ≤ 200
  | 0, b, h, s, hs => by
    unfold splitF at hs
    simp only [List.mem_singleton] at hs
    subst hs; omega
  | f + 1, b, h, s, hs => by
    unfold splitF at hs
    split at hs
    · rename_i hd
      have hd := of_decide_eq_true hd
      simp only [List.mem_cons] at hs
      rcases hs with rfl | hs
      · rw [List.length_take]; omega
      · exact splitF_all f _ (by rw [List.length_drop]; omega) s hs
    · rename_i hd
      have hd := of_decide_eq_false hd
      simp only [List.mem_singleton] at hs
      subst hs; omega
theorem splitB_all (tx : Bytes) : ∀ s ∈ splitB tx, s.length ≤ 200 := splitF_all _ _ (Nat.le_refl _)
theorem splitB_pos (tx : Bytes) : 1 ≤ (splitB tx).length := by
  unfold splitB
  cases tx.length with
  | zero => exact Nat.le_refl _
  | succ n =>
    unfold splitF
    split
    · rw [List.length_cons]; omega
    · exact Nat.le_refl _
theorem pcR_may {R : Rg} (h : R.Ok) {i n : Int} {b : Bytes} (h0 : 0 ≤ i) (hi : i < n) (hn : n ≤ 64) (hb : b.length ≤ 200) : (pcR R i n b).may = true := by
  obtain ⟨_, _, e, f, s, nn, c⟩ := h
  unfold pcR Pc.may Pc.words wordB
  simp only [List.all_cons, List.all_nil, Bool.and_true, Bool.and_eq_true, decide_eq_true_eq]
  omega
theorem sumP_word (vol : Int) (g : GeoV) (p : Pc) : 0 ≤ sumP vol g p ∧ sumP vol g p ≤ 4294967295 := by
  unfold sumP
  have := (Crc.sum (p.sector vol g 0).1).isLt
  omega
theorem putR_ok {R : Rg} (_h : R.Ok) {D : Dev} {b : Nat} (hD : D.Ok b) (hb : b + 8 < 1000000) (p : Pc) : (putR R D p).2.2.Ok (b + 8) ∧ ((putR R D p).1 = 0 → (putR R D p).2.1 = { R with next := R.next + 1, chain := sumP R.vol R.g p }) ∧ ((putR R D p).1 ≠ 0 → (putR R D p).2.1 = R) := by
  have ok : (D.all9 (putsR R p)).2.Ok (b + 4 * 2) := each_ok steps_one (putsR R p) hD (by show b + 4 * 2 < _; omega)
  unfold putR
  cases hc : (D.all9 (putsR R p)).1 != 0 with
  | true => exact ⟨ok, fun h => by simp only at h; rw [h] at hc; exact absurd hc (by decide), fun _ => rfl⟩
  | false => exact ⟨ok, fun _ => rfl, fun h => absurd rfl h⟩

set_option maxHeartbeats 1000000 in
set_option maxRecDepth 20000 in
theorem Ring_Append (R : Rg) (D : Dev) (tx : Bytes) (b : Nat) (hR : R.Ok) (hD : D.Ok b) (hb : b + 600 < 1000000) (htx : tx.length ≤ 1000000) :
    AFm Tryz.prog 3 f_ring_Ring_Append [.ref 2 0, bA tx] (rgH R D) (Pure (i64 (R.append D tx).1) (rgH (R.append D tx).2.1 (R.append D tx).2.2)) := by
  refine AFm.mono (R := fun r H' => ∃ z, z = R.append D tx ∧ r = i64 z.1 ∧ H' = rgH z.2.1 z.2.2) ?_ (by rintro r H' ⟨b, rfl, rfl, rfl⟩; exact ⟨rfl, rfl⟩)
  have ws := ring_split tx htx
  have hall := splitB_all tx
  have hpos := splitB_pos tx
  have eA : R.append D tx = match decide ((splitB tx).length > 64) with
    | true => (2, (R, D))
    | false => match decide (R.next + (splitB tx).length - R.start > R.g.w) || decide (R.next + (splitB tx).length > 4294967295) with
      | true => (4, (R, D))
      | false => appK (splitB tx).length (splitB tx) 0 R D := rfl
  generalize R.append D tx = Z at eA
  have hll := splitF_len tx.length tx
  have hll : (splitB tx).length ≤ tx.length + 1 := hll
  generalize splitB tx = l at ws hall hpos eA hll
  have hcl := catX_len l
  have hgo := R.g.of_may hR.g
  have hn := hR.n
  have hs := hR.s
  refine af_bodyM 3 hT F_ring_Ring_Append rfl rfl N_ring_Ring_Append rfl rfl ?_
  refine aw_seq (aw_region hT ?_)
  refine aw_seq (aw_seq (aw_region hT ?_))
  refine aw_cond ?_
  refine aw_skip ?_
  refine aw_cut ⟨⟨78, [(0, .ref 2 0), (5, .p (.sl 1 (catX l)))]⟩, rgH R D⟩ True (aw_region hT ?_) (fun _ => ?_)
  · refine callP (af_at ws _ rfl rfl) ?_
    exact ⟨wk_pick [0, 1, 2, 3, 4] [0, 5] rfl, trivial⟩
  refine aw_cut ⟨⟨78, [(0, .ref 2 0), (5, .p (.sl 1 (catX l)))]⟩, rgH R D⟩ (l.length ≤ 64 ∧ R.next + l.length ≤ 4294967295 ∧ Z = appK l.length l 0 R D) (aw_block (aw_seq (aw_region hT ?_))) ?_
  · refine aw_cond (boolI (fun h => ?_) (fun h => ?_))
    · have h := of_decide_eq_true (show decide ((((catX l).length : Nat) : Int) > 64) = true from h)
      rw [decide_eq_true (show l.length > 64 by omega)] at eA
      refine aw_seq (aw_region hT ?_)
      refine aw_ret ?_
      exact retPick [0, 1, 2, 3, 4] ⟨_, eA.symm, rfl, rfl⟩ rfl
    have h := of_decide_eq_false (show decide ((((catX l).length : Nat) : Int) > 64) = false from h)
    rw [decide_eq_false (show ¬ l.length > 64 by omega)] at eA
    have hw1 : IntKind.i64.wrap (R.next + (((catX l).length : Nat) : Int)) = R.next + l.length := by rw [hcl, wrap64 _ (by omega) (by omega)]
    have hw2 : IntKind.i64.wrap (IntKind.i64.wrap (R.next + (((catX l).length : Nat) : Int)) - R.start) = R.next + l.length - R.start := by rw [hw1, wrap64 _ (by omega) (by omega)]
    have full : (decide (R.next + (l.length : Int) - R.start > R.g.w) || decide (R.next + (l.length : Int) > 4294967295)) = true → (4, (R, D)) = Z := fun hf => by
      have eA : Z = match decide (R.next + (l.length : Int) - R.start > R.g.w) || decide (R.next + (l.length : Int) > 4294967295) with
        | true => (4, (R, D))
        | false => appK l.length l 0 R D := eA
      rw [hf] at eA; exact eA.symm
    refine aw_cut2 (fun st => ∃ c, c = (decide (R.next + (l.length : Int) - R.start > R.g.w) || decide (R.next + (l.length : Int) > 4294967295)) ∧ st = ⟨⟨78, [(0, .ref 2 0), (5, .p (.sl 1 (catX l))), (17, bl c)]⟩, rgH R D⟩) (aw_seq ?_) ?_
    · refine aw_draw [] [] hT follows_mixed (by rfl) ?_
      refine aw_cond (boolI (fun h1 => ?_) (fun h1 => ?_))
      · have h1 := of_decide_eq_true (show decide (IntKind.i64.wrap (IntKind.i64.wrap (R.next + (((catX l).length : Nat) : Int)) - R.start) > R.g.w) = true from h1)
        rw [hw2] at h1
        exact aw_skip ⟨_, wk_pick [0, 1, 2, 3, 4] [0, 5, 17] rfl, true, by rw [decide_eq_true h1]; rfl, congrArg (fun c => (⟨⟨78, [(0, .ref 2 0), (5, .p (.sl 1 (catX l))), (17, bl c)]⟩, rgH R D⟩ : St)) (decide_eq_true (by rw [hw2]; exact h1))⟩
      · have h1 := of_decide_eq_false (show decide (IntKind.i64.wrap (IntKind.i64.wrap (R.next + (((catX l).length : Nat) : Int)) - R.start) > R.g.w) = false from h1)
        rw [hw2] at h1
        refine aw_region hT ?_
        exact ⟨_, wk_pick [0, 1, 2, 3, 4] [0, 5, 17] rfl, _, by rw [decide_eq_false h1, hw1]; rfl, rfl⟩
    rintro _ ⟨c, hc, rfl⟩
    rw [← hc] at full
    refine aw_cond (boolI (fun h1 => ?_) (fun h1 => ?_))
    · have h1 : c = true := h1
      refine aw_seq (aw_region hT ?_)
      refine aw_ret ?_
      exact retPick [0, 1, 2, 3, 4] ⟨_, full h1, rfl, rfl⟩ rfl
    · have h1 : c = false := h1
      rw [h1] at hc
      have hc := hc.symm
      have eA : Z = match decide (R.next + (l.length : Int) - R.start > R.g.w) || decide (R.next + (l.length : Int) > 4294967295) with
        | true => (4, (R, D))
        | false => appK l.length l 0 R D := eA
      rw [hc] at eA
      rw [Bool.or_eq_false_iff] at hc
      have := of_decide_eq_false hc.2
      exact aw_skip ⟨wk_pick [0, 1, 2, 3, 4] [0, 5] rfl, by omega, by omega, eA⟩
  rintro ⟨h64, hmax, hZ⟩
  clear eA
  refine aw_cut2 (fun st => ∃ R' D', Z = (0, (R', D')) ∧ st = ⟨⟨78, []⟩, rgH R' D'⟩) (aw_seq (aw_region hT ?_)) ?_
  · refine aw_block ?_
    refine aw_loopW (fun n st => ∃ (k : Nat) (j : Int) (R' : Rg) (D' : Dev), n + k = l.length ∧ j = k ∧ R'.Ok ∧ R'.next + n ≤ 4294967295 ∧ D'.Ok (b + 8 * k) ∧ Z = appK l.length (l.drop k) j R' D' ∧ st = ⟨⟨78, [(0, .ref 2 0), (5, .p (.sl 1 (catX l))), (44, .p (.sl 1 (catX l))), (45, i64 (catX l).length), (46, i64 j)]⟩, rgH R' D'⟩) l.length ⟨⟨78, _⟩, _⟩ (wk_pick [0, 1, 2, 3, 4] [0, 5, 44, 45, 46] rfl) ⟨0, 0, R, D, rfl, rfl, hR, hmax, hD, hZ, rfl⟩ ?_
    rintro n st ⟨k, j, R', D', hnk, hj, hR', hmx, hD', hgo', rfl⟩
    refine aw_seq (aw_region hT ?_)
    refine aw_seq (aw_cond (boolI (fun h => ?_) (fun h => ?_)))
    · have h := of_decide_eq_true (show decide (j < (((catX l).length : Nat) : Int)) = true from h)
      have hk : k < l.length := by omega
      have hx := List.getElem?_eq_getElem hk
      have hxa := hall _ (List.getElem_mem hk)
      have hd := List.drop_eq_getElem_cons hk
      generalize l[k] = s at hx hxa hd
      rw [hd] at hgo'
      have hxp : (catX l)[j.toNat]? = some [bP s] := by rw [hj, Int.toNat_natCast]; exact catX_get hx
      have hpm := pcR_may hR' (i := j) (n := l.length) (b := s) (by omega) (by omega) (by omega) hxa
      have w := Ring_put R' D' (pcR R' j l.length s) (b + 8 * k) hD' (by omega) hpm hR'.g hR'.vol (by have := hR'.s; omega) hR'.n
      obtain ⟨ok, k1, k2⟩ := putR_ok hR' hD' (by omega) (pcR R' j l.length s)
      have hgo2 : Z = match (putR R' D' (pcR R' j l.length s)).1 != 0 with
        | true => putR R' D' (pcR R' j l.length s)
        | false => appK l.length (l.drop (k + 1)) (j + 1) (putR R' D' (pcR R' j l.length s)).2.1 (putR R' D' (pcR R' j l.length s)).2.2 := hgo'
      have hsw := sumP_word R'.vol R'.g (pcR R' j l.length s)
      generalize sumP R'.vol R'.g (pcR R' j l.length s) = sm at k1 hsw
      unfold pcR at w
      unfold pcR at hgo2 ok k1 k2
      generalize putR R' D' ⟨R'.next, R'.epoch, R'.frm, R'.chain, j, l.length, s⟩ = Y at w hgo2 ok k1 k2
      obtain ⟨e, R2, D2⟩ := Y
      have ok : D2.Ok (b + 8 * k + 8) := ok
      have k1 : e = 0 → R2 = { R' with next := R'.next + 1, chain := sm } := k1
      have hgo2 : Z = match e != 0 with
        | true => (e, (R2, D2))
        | false => appK l.length (l.drop (k + 1)) (j + 1) R2 D2 := hgo2
      refine aw_skip ?_
      refine aw_cut ⟨⟨78, [(0, .ref 2 0), (5, .p (.sl 1 (catX l))), (44, .p (.sl 1 (catX l))), (45, i64 (catX l).length), (46, i64 j)]⟩, rgH R2 D2⟩ (e = 0) (aw_block (aw_seq (aw_region hT ?_))) (fun he => ?_)
      · refine ⟨by omega, optI hxp ?_⟩
        refine aw_cut ⟨⟨78, [(0, .ref 2 0), (5, .p (.sl 1 (catX l))), (8, i64 e), (44, .p (.sl 1 (catX l))), (45, i64 (catX l).length), (46, i64 j)]⟩, rgH R2 D2⟩ True ?_ (fun _ => ?_)
        · refine aw_draw [22] [] hT follows_mixed (by rfl) ?_
          rw [← hcl] at w
          refine ⟨_, _, af_in [0, 1, 2, 3, 4] w rfl rfl rfl, ?_⟩
          exact ⟨wk_pick [0, 1, 2, 5, 6] [0, 5, 8, 44, 45, 46] rfl, trivial⟩
        refine aw_seq (aw_region hT ?_)
        refine aw_cond (boolI (fun h1 => ?_) (fun h1 => ?_))
        · have h1 : (e != 0) = true := h1
          rw [h1] at hgo2
          refine aw_seq (aw_region hT ?_)
          refine aw_ret ?_
          exact retPick [0, 1, 2, 3, 4] ⟨_, hgo2.symm, rfl, rfl⟩ rfl
        · have h1 : (e != 0) = false := h1
          exact aw_skip ⟨wk_pick [0, 1, 2, 3, 4] [0, 5, 44, 45, 46] rfl, by simpa using h1⟩
      · have hR2 := k1 he
        rw [he] at hgo2
        refine aw_region hT ?_
        refine ⟨n - 1, by omega, _, wk_pick [0, 1, 2, 3, 4] [0, 5, 44, 45, 46] rfl, k + 1, IntKind.i64.wrap (j + 1), R2, D2, by omega, ?_, ?_, ?_, ok, ?_, rfl⟩
        · rw [wrap64 _ (by omega) (by omega), hj]; rfl
        · rw [hR2]
          obtain ⟨q1, q2, q3, q4, q5, q6, q7⟩ := hR'
          exact ⟨q1, q2, q3, ⟨q4.1, by show R'.frm ≤ R'.next + 1; omega⟩, ⟨q5.1, by show R'.start ≤ R'.next + 1; omega⟩, by show R'.next + 1 ≤ _; omega, hsw⟩
        · rw [hR2]; show R'.next + 1 + ((n - 1 : Nat) : Int) ≤ _; omega
        · rw [wrap64 _ (by omega) (by omega)]; exact hgo2
    · have h := of_decide_eq_false (show decide (j < (((catX l).length : Nat) : Int)) = false from h)
      rw [List.drop_eq_nil_of_le (by omega)] at hgo'
      refine aw_exit ?_
      exact ⟨_, wk_pick [0, 1, 2, 3, 4] [] rfl, R', D', hgo', rfl⟩
  rintro _ ⟨R', D', hZ', rfl⟩
  refine aw_seq (aw_region hT ?_)
  refine aw_ret ?_
  exact retPick [0, 1, 2, 3, 4] ⟨_, hZ'.symm, rfl, rfl⟩ rfl
end Go.Proofs.YtinfbclgkghgaaaGreat.AL

/- Of reading a device. -/
namespace Go.Proofs.YtinfbclgkghgaaaGreat.AL
open Go Go.Proofs

theorem lastW_mem {hit : Wr → Bool} : ∀ {l : List Wr} {x : Wr}, lastW hit l = some x → x ∈ l
  | [], x, h => by simp [lastW] at h
  | y :: r, x, h => by
    unfold lastW at h
    cases h1 : lastW hit r with
    | some z => rw [h1] at h; obtain rfl := Option.some.inj h; exact List.mem_cons_of_mem _ (lastW_mem h1)
    | none =>
      rw [h1] at h
      cases h2 : hit y with
      | true => rw [h2] at h; obtain rfl := Option.some.inj h; exact List.mem_cons_self ..
      | false => rw [h2] at h; simp at h
theorem read_len4 {D : Dev} {b : Nat} (h : D.Ok b) (a : Int) : (D.read a).1.1.length ≤ 256 := by
  unfold Dev.read
  split
  · exact Nat.zero_le _
  · split
    · exact Nat.zero_le _
    · show (D.readAt a).2.length ≤ _
      unfold Dev.readAt
      split
      · rename_i x hx
        exact Nat.le_of_eq (h.ws x (lastW_mem hx))
      · split
        · rename_i c hc
          split
          · exact Nat.zero_le _
          · exact Nat.le_of_eq (h.cs c (List.mem_of_getElem? hc))
        · exact Nat.zero_le _
end Go.Proofs.YtinfbclgkghgaaaGreat.AL

/- Devices of which no write goes wrong, of any length (plain). -/
namespace Go.Proofs.YtinfbclgkghgaaaGreat.AL
open Go Go.Proofs

structure CleanP (D : Dev) (N b : Nat) : Prop where
  ok : D.Ok b
  dead : D.dead = false
  armed : D.armed = false
  waits : D.waits = []
  len : D.cells.length = N
  well : ∀ c ∈ D.cells, c.drop = 0 ∧ c.miss = []
theorem hasP {D : Dev} {N k : Nat} (h : D.cells.length = N) (hk : k < N) : D.has (k : Int) = true := by
  unfold Dev.has; rw [h, decide_eq_true (show (k : Int) ≥ 0 by omega), decide_eq_true (show (k : Int) < (N : Int) by omega)]; rfl
theorem livesP {E : Dev} (h1 : E.dead = false) (h2 : E.armed = false) : E.lives.dead = false := by
  show (E.dead || (E.armed && E.left == 0)) = false
  rw [h1, h2]; rfl
theorem hhasP {E : Dev} {a : Int} {s : Bytes} (hd : E.dead = false) (hw : E.waits = []) (hh : E.has a = true) {c : Cell} (hc : E.cells[a.toNat]? = some c) : E.hhas a s = ((!c.lost && (c.s == s), 0), E.count) := by
  have hr : E.readAt a = match c.lost with | true => (20, []) | false => (0, c.s) := by
    unfold Dev.readAt; rw [hw]; show (match E.cells[a.toNat]? with | some c => _ | none => _) = _; rw [hc]; rfl
  have e : E.read a = (((E.readAt a).2, (E.readAt a).1), E.count) := by unfold Dev.read; rw [hd, hh]
  unfold Dev.hhas
  rw [e, hr]
  cases c.lost with
  | true => rfl
  | false => rfl

theorem cleanP_once {D : Dev} {N b : Nat} (h : CleanP D N b) {k : Nat} (hk : k < N) {s : Bytes} (hs : s.length = 256) :
    ∃ E, D.once k s = ((true, 0), E) ∧ CleanP E N (b + 1) ∧ E.cells = D.cells.set k ⟨s, false, 0, []⟩ := by
  obtain ⟨c, hc⟩ : ∃ c, D.cells[k]? = some c := ⟨_, List.getElem?_eq_getElem (by rw [h.len]; omega)⟩
  have hlt := (List.getElem?_eq_some_iff.1 hc).1
  obtain ⟨cd, cm⟩ := h.well c (List.mem_of_getElem? hc)
  have hh : D.has k = true := hasP h.len hk
  have hl : D.lives.dead = false := livesP h.dead h.armed
  have ok := (h.ok.write k s).flush
  have hput : D.lives.count.put k s = { D.lives.count with waits := [⟨k, s⟩] } := by
    unfold Dev.put
    rw [Int.toNat_natCast, show D.lives.count.cells[k]? = some c from hc]
    simp only
    rw [cd, cm]
    show { D.lives.count with waits := D.waits ++ [(⟨k, s⟩ : Wr)] } = _
    rw [h.waits]; rfl
  have e : D.write k s = (0, { D.lives.count with waits := [⟨k, s⟩] }) := by
    rw [← hput]
    unfold Dev.write
    rw [h.dead, hh, show ((s.length : Int) != 256) = false by rw [hs]; rfl, hl]
  have hl2 : Dev.dead (Dev.lives { D.lives.count with waits := [⟨k, s⟩] }) = false := livesP hl h.armed
  have ef : Dev.flush { D.lives.count with waits := [⟨k, s⟩] } = (0, (Dev.lives { D.lives.count with waits := [⟨k, s⟩] }).drain [true]) := by
    unfold Dev.flush
    rw [show Dev.dead { D.lives.count with waits := [⟨k, s⟩] } = false from hl, hl2]
  rw [e] at ok
  simp only at ok
  rw [ef] at ok
  have hcells : ((Dev.lives { D.lives.count with waits := [⟨k, s⟩] }).drain [true]).cells = D.cells.set k ⟨s, false, 0, []⟩ := by
    show doneL D.cells ⟨k, s⟩ = _
    rw [doneL_some (x := ⟨k, s⟩) (show D.cells[((k : Nat) : Int).toNat]? = some c by rw [Int.toNat_natCast]; exact hc)]
    show D.cells.set ((k : Nat) : Int).toNat { c with s := s, lost := false } = _
    rw [Int.toNat_natCast, cd, cm]
  have hwell : ∀ c ∈ D.cells.set k ⟨s, false, 0, []⟩, c.drop = 0 ∧ c.miss = [] := fun x hx => by
    rcases List.mem_or_eq_of_mem_set hx with hx | rfl
    · exact h.well x hx
    · exact ⟨rfl, rfl⟩
  have cE : CleanP ((Dev.lives { D.lives.count with waits := [⟨k, s⟩] }).drain [true]) N (b + 1) := ⟨ok, hl2, h.armed, rfl, by rw [hcells, List.length_set]; exact h.len, by rw [hcells]; exact hwell⟩
  have eo : D.once k s = ((Dev.lives { D.lives.count with waits := [⟨k, s⟩] }).drain [true]).hhas k s := by
    unfold Dev.once; rw [e]; simp only; rw [ef]; rfl
  generalize (Dev.lives { D.lives.count with waits := [⟨k, s⟩] }).drain [true] = E at cE hcells eo
  have hce : E.cells[((k : Nat) : Int).toNat]? = some ⟨s, false, 0, []⟩ := by rw [hcells, Int.toNat_natCast]; exact List.getElem?_set_self hlt
  refine ⟨E.count, ?_, ⟨cE.ok.count, cE.dead, cE.armed, cE.waits, cE.len, cE.well⟩, hcells⟩
  rw [eo, hhasP cE.dead cE.waits (hasP cE.len hk) hce]
  simp

theorem cleanP_one {D : Dev} {N b : Nat} (h : CleanP D N b) {k : Nat} (hk : k < N) {s : Bytes} (hs : s.length = 256) :
    ∃ E, D.one k s = (0, E) ∧ CleanP E N (b + 1) ∧ E.cells = D.cells.set k ⟨s, false, 0, []⟩ := by
  obtain ⟨E, h1, h2, h3⟩ := cleanP_once h hk hs
  refine ⟨E, ?_, h2, h3⟩
  show Dev.tryK 4 D k s = _
  unfold Dev.tryK
  rw [h1]; rfl

end Go.Proofs.YtinfbclgkghgaaaGreat.AL

/- Plain: a sector is lost, and read, on a device of which no write goes wrong. -/
namespace Go.Proofs.YtinfbclgkghgaaaGreat.AL
open Go Go.Proofs

abbrev loseF (k : Int) : Flt := ⟨3, k, 0, 0, 0, 0, 0, 0, 0⟩
theorem loseP {D : Dev} {N b k : Nat} (h : CleanP D N b) (hk : k < N) :
    ∃ E, D.fault (loseF k) = (0, E) ∧ CleanP E N (b + 1) ∧ E.cells = D.cells.modify k fun c => { c with lost := true } := by
  have hok := h.ok.fault (loseF k)
  have hm : D.may (loseF k) = 0 := by
    unfold Dev.may
    rw [show D.has (loseF k).at_ = true from hasP h.len hk]
    rfl
  have hs : D.settle (k : Int) = D := by
    unfold Dev.settle; rw [h.waits]
    obtain ⟨c, w, ar, de, le, op⟩ := D
    have hw : w = [] := h.waits
    subst hw; rfl
  have e : D.fault (loseF k) = (0, D.upd k fun c => { c with lost := true }) := by
    unfold Dev.fault; rw [hm]
    show (0, D.hurt (loseF k)) = _
    unfold Dev.hurt
    rw [if_neg (show ¬ (3 : Int) = 1 by decide), if_neg (show ¬ (3 : Int) = 2 by decide), if_pos rfl]
    show (0, (D.settle (k : Int)).upd (k : Int) _) = _
    rw [hs]
  rw [e] at hok
  refine ⟨_, e, ⟨hok, h.dead, h.armed, h.waits, (List.length_modify ..).trans h.len, ?_⟩, by unfold Dev.upd; rw [Int.toNat_natCast]⟩
  intro c hc
  have hc : c ∈ D.cells.modify (k : Int).toNat fun c => { c with lost := true } := hc
  obtain ⟨i, hi⟩ := List.getElem?_of_mem hc
  rw [List.getElem?_modify] at hi
  cases hx : D.cells[i]? with
  | none => rw [hx] at hi; simp at hi
  | some c0 =>
    rw [hx] at hi
    have h0 := h.well c0 (List.mem_of_getElem? hx)
    simp only [Int.toNat_natCast] at hi
    by_cases e : k = i
    · simp [e] at hi; subst hi; exact h0
    · simp [e] at hi; subst hi; exact h0

def cellB (D : Dev) (k : Nat) : Bytes := match D.cells[k]? with
  | some c => match c.lost with | true => [] | false => c.s
  | none => []
theorem readP {D : Dev} {N b k : Nat} (h : CleanP D N b) (hk : k < N) : (D.read k).1.1 = cellB D k ∧ (D.read k).2 = D.count ∧ CleanP D.count N b := by
  have e : D.read k = (((D.readAt k).2, (D.readAt k).1), D.count) := by unfold Dev.read; rw [h.dead, hasP h.len hk]
  refine ⟨?_, by rw [e], ⟨h.ok.count, h.dead, h.armed, h.waits, h.len, h.well⟩⟩
  rw [e]
  show (D.readAt k).2 = _
  unfold Dev.readAt cellB
  rw [h.waits, Int.toNat_natCast]
  show (match D.cells[k]? with | some c => (match c.lost with | true => ((20, []) : Int × Bytes) | false => (0, c.s)) | none => (20, [])).2 = _
  cases D.cells[k]? with
  | none => rfl
  | some c => cases hl : c.lost <;> simp [hl]
end Go.Proofs.YtinfbclgkghgaaaGreat.AL

/- The layer 11 (ring): both mirrors are read. -/
namespace Go.Proofs.YtinfbclgkghgaaaGreat.AL
open Go Go.Proofs

def rdK (D : Dev) (at_ : Nat → Int) : Nat → List Bytes × Dev
  | 0 => ([], D)
  | k + 1 => ((rdK D at_ k).1 ++ [((rdK D at_ k).2.read (at_ k)).1.1], ((rdK D at_ k).2.read (at_ k)).2)
theorem rdK_ok {D : Dev} {b : Nat} (h : D.Ok b) (at_ : Nat → Int) : ∀ k, (rdK D at_ k).2.Ok b
  | 0 => h
  | k + 1 => (rdK_ok h at_ k).read _
theorem rdK_len (D : Dev) (at_ : Nat → Int) : ∀ k, (rdK D at_ k).1.length = k
  | 0 => rfl
  | k + 1 => by show ((rdK D at_ k).1 ++ [_]).length = _; rw [List.length_append, rdK_len D at_ k]; rfl
theorem rdK_bytes {D : Dev} {b : Nat} (h : D.Ok b) (at_ : Nat → Int) : ∀ k, ∀ s ∈ (rdK D at_ k).1, s.length ≤ 256
  | 0, s, hs => by simp [rdK] at hs
  | k + 1, s, hs => by
    have hs : s ∈ (rdK D at_ k).1 ++ [((rdK D at_ k).2.read (at_ k)).1.1] := hs
    rw [List.mem_append, List.mem_singleton] at hs
    rcases hs with hs | rfl
    · exact rdK_bytes h at_ k s hs
    · exact read_len4 (rdK_ok h at_ k) _
def atM (g : GeoV) (m : Int) (k : Nat) : Int := addrB g m k
def load0 (D : Dev) (g : GeoV) : List Bytes × Dev := rdK D (atM g 0) g.w.toNat
def load1 (D : Dev) (g : GeoV) : List Bytes × Dev := rdK (load0 D g).2 (atM g 1) g.w.toNat

theorem less2 : LessCL [.p (.raw (.slice none 0 0)), .p (.raw (.slice none 0 0))] [.msl 4 1 0 0, .msl 5 1 0 0] := ⟨.inr (.inr (.inl ⟨4, 1, 0, rfl, rfl⟩)), .inr (.inr (.inl ⟨5, 1, 0, rfl, rfl⟩)), trivial⟩

set_option maxHeartbeats 1000000 in
set_option maxRecDepth 20000 in
theorem ring_Load (D : Dev) (g : GeoV) (b : Nat) (hD : D.Ok b) (hb : b ≤ 1000000) (hg : g.may = true) :
    AFm Tryz.prog 3 f_ring_Load [.ref 0 0, g.av] (devH D) (Pure (.tup [.p (.sl 1 (catX (load0 D g).1)), .p (.sl 1 (catX (load1 D g).1))]) (devH (load1 D g).2)) := by
  have wm := geo_May g
  rw [hg] at wm
  obtain ⟨g1, g2, _⟩ := g.of_may hg
  have k0 := rdK_ok hD (atM g 0)
  have k1 := rdK_ok (rdK_ok hD (atM g 0) g.w.toNat) (atM g 1)
  refine af_bodyM 3 hT F_ring_Load rfl rfl N_ring_Load rfl rfl ?_
  refine aw_seq (aw_region hT ?_)
  refine aw_wk (wk_boxL 3 g.pv rfl rfl) ?_
  refine aw_cut ⟨⟨45, [(0, .ref 0 0), (3, .p (.box g.pv))]⟩, devH D⟩ True (aw_seq (aw_region hT ?_)) (fun _ => ?_)
  · refine callP (af_at wm _ rfl rfl) ?_
    refine aw_cond ?_
    exact aw_skip ⟨wk_pick [0, 1, 2] [0, 3] rfl, trivial⟩
  refine aw_cut ⟨⟨45, [(0, .ref 0 0), (3, .p (.box g.pv)), (6, .ref 3 0)]⟩, devH D ++ [.cells 135 [.msl 4 1 0 0, .msl 5 1 0 0], .row t_s_u8 1 [], .row t_s_u8 1 []]⟩ True (aw_region hT ?_) (fun _ => ?_)
  · exact ⟨Wk.trans (wk_phantom t_s_u8 1) (Wk.trans (wk_phantom t_s_u8 1) (Wk.trans (wk_cells 3 _ rfl less2) (wk_pick [0, 1, 2, 3, 4, 5] [0, 3, 6] rfl))), trivial⟩
  refine aw_cut ⟨⟨45, [(6, .ref 3 0)]⟩, devH (load1 D g).2 ++ [.cells 135 [.msl 4 1 0 (catX (load0 D g).1).length, .msl 5 1 0 (catX (load1 D g).1).length], .row t_s_u8 1 (catX (load0 D g).1), .row t_s_u8 1 (catX (load1 D g).1)]⟩ True (aw_seq (aw_region hT ?_)) (fun _ => ?_)
  · refine aw_block ?_
    refine aw_loopW (fun n st => (n = 2 ∧ st = ⟨⟨45, [(0, .ref 0 0), (3, .p (.box g.pv)), (6, .ref 3 0), (14, i64 0)]⟩, devH D ++ [.cells 135 [.msl 4 1 0 (catX ([] : List Bytes)).length, .msl 5 1 0 (catX ([] : List Bytes)).length], .row t_s_u8 1 (catX ([] : List Bytes)), .row t_s_u8 1 (catX ([] : List Bytes))]⟩) ∨ (n = 1 ∧ st = ⟨⟨45, [(0, .ref 0 0), (3, .p (.box g.pv)), (6, .ref 3 0), (14, i64 1)]⟩, devH (load0 D g).2 ++ [.cells 135 [.msl 4 1 0 (catX (load0 D g).1).length, .msl 5 1 0 (catX ([] : List Bytes)).length], .row t_s_u8 1 (catX (load0 D g).1), .row t_s_u8 1 (catX ([] : List Bytes))]⟩) ∨ (n = 0 ∧ st = ⟨⟨45, [(0, .ref 0 0), (3, .p (.box g.pv)), (6, .ref 3 0), (14, i64 2)]⟩, devH (load1 D g).2 ++ [.cells 135 [.msl 4 1 0 (catX (load0 D g).1).length, .msl 5 1 0 (catX (load1 D g).1).length], .row t_s_u8 1 (catX (load0 D g).1), .row t_s_u8 1 (catX (load1 D g).1)]⟩)) 2 ⟨⟨45, _⟩, _⟩ (wk_pick [0, 1, 2, 3, 4, 5] [0, 3, 6, 14] rfl) (.inl ⟨rfl, rfl⟩) ?_
    rintro n st (⟨rfl, rfl⟩ | ⟨rfl, rfl⟩ | ⟨rfl, rfl⟩)
    · refine aw_seq (aw_region hT ?_)
      refine aw_seq (aw_cond ?_)
      refine aw_skip ?_
      refine aw_cut ⟨⟨45, [(0, .ref 0 0), (3, .p (.box g.pv)), (6, .ref 3 0), (14, i64 0)]⟩, devH (load0 D g).2 ++ [.cells 135 [.msl 4 1 0 (catX (load0 D g).1).length, .msl 5 1 0 (catX ([] : List Bytes)).length], .row t_s_u8 1 (catX (load0 D g).1), .row t_s_u8 1 (catX ([] : List Bytes))]⟩ True (aw_block (aw_seq (aw_region hT ?_))) (fun _ => ?_)
      · refine aw_seq (aw_region hT ?_)
        refine aw_block ?_
        refine aw_loopW (fun n st => ∃ (k : Nat) (j : Int) (X : List Bytes) (E : Dev), n + k = g.w.toNat ∧ j = k ∧ X = (rdK D (atM g 0) k).1 ∧ E = (rdK D (atM g 0) k).2 ∧ st = ⟨⟨45, [(0, .ref 0 0), (3, .p (.box g.pv)), (6, .ref 3 0), (7, i64 0), (14, i64 0), (18, i64 g.w), (19, i64 j)]⟩, devH E ++ [.cells 135 [.msl 4 1 0 (catX X).length, .msl 5 1 0 (catX ([] : List Bytes)).length], .row t_s_u8 1 (catX X), .row t_s_u8 1 (catX ([] : List Bytes))]⟩) g.w.toNat ⟨⟨45, _⟩, _⟩ (wk_pick [0, 1, 2, 3, 4, 5] [0, 3, 6, 7, 14, 18, 19] rfl) ⟨0, 0, [], _, rfl, rfl, rfl, rfl, rfl⟩ ?_
        rintro n st ⟨k, j, X, E, hnk, hj, hX, hE, rfl⟩
        have hXl : X.length = k := by rw [hX, rdK_len]
        have hcl := catX_len X
        have hEo : E.Ok b := by rw [hE]; exact k0 k
        refine aw_seq (aw_region hT ?_)
        refine aw_seq (aw_cond (boolI (fun h => ?_) (fun h => ?_)))
        · have h := of_decide_eq_true (show decide (j < g.w) = true from h)
          have ra := ring_addr g 0 j (by omega) (by omega) (by omega) (by omega)
          have rd := disk_Read E (addrB g 0 j) (by have := hEo.wl; omega) (fun x hx => by have := hEo.ws x hx; omega) (fun c hc => by have := hEo.cs c hc; omega)
          have e1 : (rdK D (atM g 0) (k + 1)).1 = X ++ [(E.read (addrB g 0 j)).1.1] := by rw [hX, hE, hj]; rfl
          have e2 : (rdK D (atM g 0) (k + 1)).2 = (E.read (addrB g 0 j)).2 := by rw [hE, hj]; rfl
          generalize addrB g 0 j = ad at ra rd e1 e2
          generalize E.read ad = Y at rd e1 e2
          obtain ⟨⟨t, f⟩, F⟩ := Y
          have rd : AFm Tryz.prog 3 f_disk_Disk_Read [.ref 0 0, i64 ad] (devH E) (Pure (.tup [bA t, i64 f]) (devH F)) := rd
          have e1 : (rdK D (atM g 0) (k + 1)).1 = X ++ [t] := e1
          have e2 : (rdK D (atM g 0) (k + 1)).2 = F := e2
          refine aw_skip ?_
          refine aw_cut ⟨⟨45, [(0, .ref 0 0), (3, .p (.box g.pv)), (6, .ref 3 0), (7, i64 0), (14, i64 0), (18, i64 g.w), (19, i64 j)]⟩, devH F ++ [.cells 135 [.msl 4 1 0 (catX (X ++ [t])).length, .msl 5 1 0 (catX ([] : List Bytes)).length], .row t_s_u8 1 (catX (X ++ [t])), .row t_s_u8 1 (catX ([] : List Bytes))]⟩ True (aw_block (aw_seq (aw_region hT ?_))) (fun _ => ?_)
          · refine aw_cut ⟨⟨45, [(0, .ref 0 0), (3, .p (.box g.pv)), (6, .ref 3 0), (7, i64 0), (9, bA t), (14, i64 0), (18, i64 g.w), (19, i64 j)]⟩, devH F ++ [.cells 135 [.msl 4 1 0 (catX X).length, .msl 5 1 0 (catX ([] : List Bytes)).length], .row t_s_u8 1 (catX X), .row t_s_u8 1 (catX ([] : List Bytes))]⟩ True (aw_region hT ?_) (fun _ => ?_)
            · refine callP (af_at ra _ rfl rfl) ?_
              refine callP (af_in [0, 1, 2] rd rfl rfl rfl) ?_
              exact ⟨wk_pick [0, 1, 2, 3, 4, 5] [0, 3, 6, 7, 9, 14, 18, 19] rfl, trivial⟩
            refine aw_regionF (fun k => Nat.beq 5 k) hT ?_
            refine ⟨⟨by decide, by decide⟩, ?_⟩
            refine ⟨⟨rfl, rfl⟩, ?_⟩
            refine ⟨rfl, ⟨?_, ?_⟩, ?_⟩
            · show ((catX X).length + 1) * 24 ≤ _
              omega
            · show (catX X).length + 1 ≤ _
              omega
            refine ⟨⟨by decide, by decide⟩, ?_⟩
            rw [catX_snoc1]
            exact ⟨wk_pick [0, 1, 2, 3, 6, 5] [0, 3, 6, 7, 14, 18, 19] rfl, trivial⟩
          · refine aw_region hT ?_
            refine ⟨n - 1, by omega, _, wk_pick [0, 1, 2, 3, 4, 5] [0, 3, 6, 7, 14, 18, 19] rfl, k + 1, IntKind.i64.wrap (j + 1), X ++ [t], F, by omega, ?_, e1.symm, e2.symm, rfl⟩
            rw [wrap64 _ (by omega) (by omega), hj]; rfl
        · have h := of_decide_eq_false (show decide (j < g.w) = false from h)
          have hk : k = g.w.toNat := by omega
          rw [hk] at hX hE
          have hX : X = (load0 D g).1 := hX
          have hE : E = (load0 D g).2 := hE
          rw [← hX, ← hE]
          refine aw_exit ?_
          exact ⟨wk_pick [0, 1, 2, 3, 4, 5] [0, 3, 6, 14] rfl, trivial⟩
      · refine aw_region hT ?_
        exact ⟨1, by omega, _, wk_pick [0, 1, 2, 3, 4, 5] [0, 3, 6, 14] rfl, .inr (.inl ⟨rfl, rfl⟩)⟩
    · refine aw_seq (aw_region hT ?_)
      refine aw_seq (aw_cond ?_)
      refine aw_skip ?_
      refine aw_cut ⟨⟨45, [(0, .ref 0 0), (3, .p (.box g.pv)), (6, .ref 3 0), (14, i64 1)]⟩, devH (load1 D g).2 ++ [.cells 135 [.msl 4 1 0 (catX (load0 D g).1).length, .msl 5 1 0 (catX (load1 D g).1).length], .row t_s_u8 1 (catX (load0 D g).1), .row t_s_u8 1 (catX (load1 D g).1)]⟩ True (aw_block (aw_seq (aw_region hT ?_))) (fun _ => ?_)
      · refine aw_seq (aw_region hT ?_)
        refine aw_block ?_
        refine aw_loopW (fun n st => ∃ (k : Nat) (j : Int) (X : List Bytes) (E : Dev), n + k = g.w.toNat ∧ j = k ∧ X = (rdK (load0 D g).2 (atM g 1) k).1 ∧ E = (rdK (load0 D g).2 (atM g 1) k).2 ∧ st = ⟨⟨45, [(0, .ref 0 0), (3, .p (.box g.pv)), (6, .ref 3 0), (7, i64 1), (14, i64 1), (18, i64 g.w), (19, i64 j)]⟩, devH E ++ [.cells 135 [.msl 4 1 0 (catX (load0 D g).1).length, .msl 5 1 0 (catX X).length], .row t_s_u8 1 (catX (load0 D g).1), .row t_s_u8 1 (catX X)]⟩) g.w.toNat ⟨⟨45, _⟩, _⟩ (wk_pick [0, 1, 2, 3, 4, 5] [0, 3, 6, 7, 14, 18, 19] rfl) ⟨0, 0, [], _, rfl, rfl, rfl, rfl, rfl⟩ ?_
        rintro n st ⟨k, j, X, E, hnk, hj, hX, hE, rfl⟩
        have hXl : X.length = k := by rw [hX, rdK_len]
        have hcl := catX_len X
        have hEo : E.Ok b := by rw [hE]; exact k1 k
        refine aw_seq (aw_region hT ?_)
        refine aw_seq (aw_cond (boolI (fun h => ?_) (fun h => ?_)))
        · have h := of_decide_eq_true (show decide (j < g.w) = true from h)
          have ra := ring_addr g 1 j (by omega) (by omega) (by omega) (by omega)
          have rd := disk_Read E (addrB g 1 j) (by have := hEo.wl; omega) (fun x hx => by have := hEo.ws x hx; omega) (fun c hc => by have := hEo.cs c hc; omega)
          have e1 : (rdK (load0 D g).2 (atM g 1) (k + 1)).1 = X ++ [(E.read (addrB g 1 j)).1.1] := by rw [hX, hE, hj]; rfl
          have e2 : (rdK (load0 D g).2 (atM g 1) (k + 1)).2 = (E.read (addrB g 1 j)).2 := by rw [hE, hj]; rfl
          generalize addrB g 1 j = ad at ra rd e1 e2
          generalize E.read ad = Y at rd e1 e2
          obtain ⟨⟨t, f⟩, F⟩ := Y
          have rd : AFm Tryz.prog 3 f_disk_Disk_Read [.ref 0 0, i64 ad] (devH E) (Pure (.tup [bA t, i64 f]) (devH F)) := rd
          have e1 : (rdK (load0 D g).2 (atM g 1) (k + 1)).1 = X ++ [t] := e1
          have e2 : (rdK (load0 D g).2 (atM g 1) (k + 1)).2 = F := e2
          refine aw_skip ?_
          refine aw_cut ⟨⟨45, [(0, .ref 0 0), (3, .p (.box g.pv)), (6, .ref 3 0), (7, i64 1), (14, i64 1), (18, i64 g.w), (19, i64 j)]⟩, devH F ++ [.cells 135 [.msl 4 1 0 (catX (load0 D g).1).length, .msl 5 1 0 (catX (X ++ [t])).length], .row t_s_u8 1 (catX (load0 D g).1), .row t_s_u8 1 (catX (X ++ [t]))]⟩ True (aw_block (aw_seq (aw_region hT ?_))) (fun _ => ?_)
          · refine aw_cut ⟨⟨45, [(0, .ref 0 0), (3, .p (.box g.pv)), (6, .ref 3 0), (7, i64 1), (9, bA t), (14, i64 1), (18, i64 g.w), (19, i64 j)]⟩, devH F ++ [.cells 135 [.msl 4 1 0 (catX (load0 D g).1).length, .msl 5 1 0 (catX X).length], .row t_s_u8 1 (catX (load0 D g).1), .row t_s_u8 1 (catX X)]⟩ True (aw_region hT ?_) (fun _ => ?_)
            · refine callP (af_at ra _ rfl rfl) ?_
              refine callP (af_in [0, 1, 2] rd rfl rfl rfl) ?_
              exact ⟨wk_pick [0, 1, 2, 3, 4, 5] [0, 3, 6, 7, 9, 14, 18, 19] rfl, trivial⟩
            refine aw_regionF (fun k => Nat.beq 5 k) hT ?_
            refine ⟨⟨by decide, by decide⟩, ?_⟩
            refine ⟨⟨rfl, rfl⟩, ?_⟩
            refine ⟨rfl, ⟨?_, ?_⟩, ?_⟩
            · show ((catX X).length + 1) * 24 ≤ _
              omega
            · show (catX X).length + 1 ≤ _
              omega
            refine ⟨⟨by decide, by decide⟩, ?_⟩
            rw [catX_snoc1]
            exact ⟨wk_pick [0, 1, 2, 3, 4, 6] [0, 3, 6, 7, 14, 18, 19] rfl, trivial⟩
          · refine aw_region hT ?_
            refine ⟨n - 1, by omega, _, wk_pick [0, 1, 2, 3, 4, 5] [0, 3, 6, 7, 14, 18, 19] rfl, k + 1, IntKind.i64.wrap (j + 1), X ++ [t], F, by omega, ?_, e1.symm, e2.symm, rfl⟩
            rw [wrap64 _ (by omega) (by omega), hj]; rfl
        · have h := of_decide_eq_false (show decide (j < g.w) = false from h)
          have hk : k = g.w.toNat := by omega
          rw [hk] at hX hE
          have hX : X = (load1 D g).1 := hX
          have hE : E = (load1 D g).2 := hE
          rw [← hX, ← hE]
          refine aw_exit ?_
          exact ⟨wk_pick [0, 1, 2, 3, 4, 5] [0, 3, 6, 14] rfl, trivial⟩
      · refine aw_region hT ?_
        exact ⟨0, by omega, _, wk_pick [0, 1, 2, 3, 4, 5] [0, 3, 6, 14] rfl, .inr (.inr ⟨rfl, rfl⟩)⟩
    · refine aw_seq (aw_region hT ?_)
      refine aw_seq (aw_cond ?_)
      refine aw_exit ?_
      exact ⟨wk_pick [0, 1, 2, 3, 4, 5] [6] rfl, trivial⟩
  refine aw_wk (wk_frzC 4 3 0 _ rfl rfl rfl rfl) ?_
  refine aw_wk (wk_frzC 5 3 1 _ rfl rfl rfl rfl) ?_
  refine aw_seq ?_
  refine aw_draw [] [] hT follows_mixed (by rfl) ?_
  refine ⟨⟨by decide, by decide⟩, ?_⟩
  refine ⟨⟨by decide, by decide⟩, ?_⟩
  refine aw_ret ?_
  exact retPick [0, 1, 2] ⟨rfl, rfl⟩ rfl
end Go.Proofs.YtinfbclgkghgaaaGreat.AL

/- Devices that may die in the midst of writes, and what a crash leaves of them (plain). -/
namespace Go.Proofs.YtinfbclgkghgaaaGreat.AL
open Go Go.Proofs

/-- A device of which no write goes wrong but that may die. -/
structure LiveP (D : Dev) (N b : Nat) : Prop where
  ok : D.Ok b
  dead : D.dead = false
  waits : D.waits = []
  len : D.cells.length = N
  well : ∀ c ∈ D.cells, c.drop = 0 ∧ c.miss = []
theorem CleanP.live {D : Dev} {N b : Nat} (h : CleanP D N b) : LiveP D N b := ⟨h.ok, h.dead, h.waits, h.len, h.well⟩
def fine (s : Bytes) : Cell := ⟨s, false, 0, []⟩
/-- It died; this waits. -/
structure DiedP (D E : Dev) (N b : Nat) (x : Put9) : Prop where
  ok : E.Ok b
  dead : E.dead = true
  cells : E.cells = D.cells
  waits : E.waits = [] ∨ E.waits = [⟨x.at_, x.s⟩]

theorem liveP_once {D : Dev} {N b : Nat} (h : LiveP D N b) {k : Nat} (hk : k < N) {s : Bytes} (hs : s.length = 256) :
    (∃ E, D.once k s = ((true, 0), E) ∧ LiveP E N (b + 1) ∧ E.cells = D.cells.set k (fine s)) ∨ ∃ E, D.once k s = ((false, 21), E) ∧ DiedP D E N (b + 1) ⟨k, s⟩ := by
  obtain ⟨c, hc⟩ : ∃ c, D.cells[k]? = some c := ⟨_, List.getElem?_eq_getElem (by rw [h.len]; omega)⟩
  have hlt := (List.getElem?_eq_some_iff.1 hc).1
  obtain ⟨cd, cm⟩ := h.well c (List.mem_of_getElem? hc)
  have hh : D.has k = true := hasP h.len hk
  have okw := h.ok.write k s
  cases hl : D.lives.dead with
  | true =>
    have e : D.write k s = (21, D.lives) := by
      unfold Dev.write
      rw [h.dead, hh, show ((s.length : Int) != 256) = false by rw [hs]; rfl, hl]
    refine .inr ⟨D.lives, ?_, ⟨h.ok.lives.mono (Nat.le_succ _), hl, rfl, .inl h.waits⟩⟩
    unfold Dev.once; rw [e]; rfl
  | false =>
    have hput : D.lives.count.put k s = { D.lives.count with waits := [⟨k, s⟩] } := by
      unfold Dev.put
      rw [Int.toNat_natCast, show D.lives.count.cells[k]? = some c from hc]
      simp only
      rw [cd, cm]
      show { D.lives.count with waits := D.waits ++ [(⟨k, s⟩ : Wr)] } = _
      rw [h.waits]; rfl
    have e : D.write k s = (0, { D.lives.count with waits := [⟨k, s⟩] }) := by
      rw [← hput]
      unfold Dev.write
      rw [h.dead, hh, show ((s.length : Int) != 256) = false by rw [hs]; rfl, hl]
    rw [e] at okw
    simp only at okw
    have okf := okw.flush
    cases hl2 : Dev.dead (Dev.lives { D.lives.count with waits := [⟨k, s⟩] }) with
    | true =>
      have ef : Dev.flush { D.lives.count with waits := [⟨k, s⟩] } = (21, Dev.lives { D.lives.count with waits := [⟨k, s⟩] }) := by
        unfold Dev.flush
        rw [show Dev.dead { D.lives.count with waits := [⟨k, s⟩] } = false from hl, hl2]
      rw [ef] at okf
      refine .inr ⟨Dev.lives { D.lives.count with waits := [⟨k, s⟩] }, ?_, ⟨okf, hl2, rfl, .inr rfl⟩⟩
      unfold Dev.once; rw [e]; simp only; rw [ef]; rfl
    | false =>
      have ef : Dev.flush { D.lives.count with waits := [⟨k, s⟩] } = (0, (Dev.lives { D.lives.count with waits := [⟨k, s⟩] }).drain [true]) := by
        unfold Dev.flush
        rw [show Dev.dead { D.lives.count with waits := [⟨k, s⟩] } = false from hl, hl2]
      rw [ef] at okf
      have hcells : ((Dev.lives { D.lives.count with waits := [⟨k, s⟩] }).drain [true]).cells = D.cells.set k (fine s) := by
        show doneL D.cells ⟨k, s⟩ = _
        rw [doneL_some (x := ⟨k, s⟩) (show D.cells[((k : Nat) : Int).toNat]? = some c by rw [Int.toNat_natCast]; exact hc)]
        show D.cells.set ((k : Nat) : Int).toNat { c with s := s, lost := false } = _
        rw [Int.toNat_natCast, cd, cm]; rfl
      have hwell : ∀ c ∈ D.cells.set k (fine s), c.drop = 0 ∧ c.miss = [] := fun x hx => by
        rcases List.mem_or_eq_of_mem_set hx with hx | rfl
        · exact h.well x hx
        · exact ⟨rfl, rfl⟩
      have cE : LiveP ((Dev.lives { D.lives.count with waits := [⟨k, s⟩] }).drain [true]) N (b + 1) := ⟨okf, hl2, rfl, by rw [hcells, List.length_set]; exact h.len, by rw [hcells]; exact hwell⟩
      have eo : D.once k s = ((Dev.lives { D.lives.count with waits := [⟨k, s⟩] }).drain [true]).hhas k s := by
        unfold Dev.once; rw [e]; simp only; rw [ef]; rfl
      generalize (Dev.lives { D.lives.count with waits := [⟨k, s⟩] }).drain [true] = E at cE hcells eo
      have hce : E.cells[((k : Nat) : Int).toNat]? = some (fine s) := by rw [hcells, Int.toNat_natCast]; exact List.getElem?_set_self hlt
      refine .inl ⟨E.count, ?_, ⟨cE.ok.count, cE.dead, cE.waits, cE.len, cE.well⟩, hcells⟩
      rw [eo, hhasP cE.dead cE.waits (hasP cE.len hk) hce]
      simp [fine]

theorem liveP_one {D : Dev} {N b : Nat} (h : LiveP D N b) {k : Nat} (hk : k < N) {s : Bytes} (hs : s.length = 256) :
    (∃ E, D.one k s = (0, E) ∧ LiveP E N (b + 1) ∧ E.cells = D.cells.set k (fine s)) ∨ ∃ E, D.one k s = (21, E) ∧ DiedP D E N (b + 1) ⟨k, s⟩ := by
  rcases liveP_once h hk hs with ⟨E, h1, h2, h3⟩ | ⟨E, h1, h2⟩
  · refine .inl ⟨E, ?_, h2, h3⟩
    show Dev.tryK 4 D k s = _
    unfold Dev.tryK
    rw [h1]; rfl
  · refine .inr ⟨E, ?_, h2⟩
    show Dev.tryK 4 D k s = _
    unfold Dev.tryK
    rw [h1]; rfl

/-- What is written, one behind the other. -/
def putsC : List Put9 → List Cell → List Cell
  | [], cs => cs
  | p :: r, cs => putsC r (cs.set p.at_.toNat (fine p.s))
theorem putsC_len : ∀ (l : List Put9) (cs : List Cell), (putsC l cs).length = cs.length
  | [], _ => rfl
  | p :: r, cs => by rw [putsC, putsC_len r, List.length_set]
theorem putsC_app (l r : List Put9) (cs : List Cell) : putsC (l ++ r) cs = putsC r (putsC l cs) := by
  induction l generalizing cs with
  | nil => rfl
  | cons p l ih => exact ih _
/-- A put that may be. -/
def PutP (N : Nat) (p : Put9) : Prop := 0 ≤ p.at_ ∧ p.at_ < (N : Int) ∧ p.s.length = 256

theorem liveP_each {N : Nat} : ∀ (ps : List Put9) {D : Dev} {b : Nat} (m : Int), (∀ p ∈ ps, PutP N p) → LiveP D N b →
    (∃ E m', eachK oneG ps D m = (0, (E, m')) ∧ LiveP E N (b + ps.length) ∧ E.cells = putsC ps D.cells) ∨
    ∃ E m' j x, j < ps.length ∧ ps[j]? = some x ∧ eachK oneG ps D m = (21, (E, m')) ∧ E.Ok (b + ps.length) ∧ E.dead = true ∧ E.cells = putsC (ps.take j) D.cells ∧ (E.waits = [] ∨ E.waits = [⟨x.at_, x.s⟩])
  | [], D, b, m, _, h => .inl ⟨D, m, rfl, h, rfl⟩
  | p :: r, D, b, m, hp, h => by
    obtain ⟨h0, h1, h2⟩ := hp p (by simp)
    have hk : ((p.at_.toNat : Nat) : Int) = p.at_ := by omega
    have eg : ∀ e E, D.one p.at_ p.s = (e, E) → oneG D m p.at_ p.s = (e, (E, more e m)) := fun e E he => by unfold oneG; rw [he]
    rcases liveP_one h (k := p.at_.toNat) (by omega) h2 with ⟨E, g1, g2, g3⟩ | ⟨E, g1, g2⟩
    · rw [hk] at g1
      have eg := eg _ _ g1
      rcases liveP_each r (more 0 m) (fun q hq => hp q (by simp [hq])) g2 with ⟨F, m', k1, k2, k3⟩ | ⟨F, m', j, x, k0, k1, k2, k3, k4, k5, k6⟩
      · refine .inl ⟨F, m', ?_, by rw [List.length_cons, show b + (r.length + 1) = b + 1 + r.length by omega]; exact k2, by rw [k3, g3]; rfl⟩
        rw [eachK_cons, eg]; exact k1
      · refine .inr ⟨F, m', j + 1, x, by rw [List.length_cons]; omega, by rw [List.getElem?_cons_succ]; exact k1, ?_, by rw [List.length_cons, show b + (r.length + 1) = b + 1 + r.length by omega]; exact k3, k4, by rw [k5, g3]; rfl, k6⟩
        rw [eachK_cons, eg]; exact k2
    · rw [hk] at g1 g2
      have eg := eg _ _ g1
      refine .inr ⟨E, more 21 m, 0, p, by simp, rfl, ?_, g2.ok.mono (by rw [List.length_cons]; omega), g2.dead, g2.cells, g2.waits⟩
      rw [eachK_cons, eg]; rfl

/-- THE CRASH: of writes one behind the other the first ones are there, behind a crash. -/
theorem crashP {N : Nat} (ps : List Put9) {D : Dev} {b : Nat} (hp : ∀ p ∈ ps, PutP N p) (h : LiveP D N b) (keep : List Bool) :
    (D.all9 ps).2.Ok (b + ps.length) ∧ ∃ j, j ≤ ps.length ∧ CleanP ((D.all9 ps).2.crashed keep) N (b + ps.length) ∧ ((D.all9 ps).2.crashed keep).cells = putsC (ps.take j) D.cells ∧ (((D.all9 ps).1 = 0 ∧ j = ps.length) ∨ (D.all9 ps).1 = 21) := by
  have wellS : ∀ (l : List Put9) (cs : List Cell), (∀ c ∈ cs, c.drop = 0 ∧ c.miss = []) → ∀ c ∈ putsC l cs, c.drop = 0 ∧ c.miss = [] := by
    intro l
    induction l with
    | nil => exact fun cs h => h
    | cons p l ih =>
      intro cs hcs
      refine ih _ fun c hc => ?_
      rcases List.mem_or_eq_of_mem_set hc with hc | rfl
      · exact hcs c hc
      · exact ⟨rfl, rfl⟩
  have fin : ∀ (E : Dev) (j : Nat), (E.crashed keep).cells = putsC (ps.take j) D.cells → E.Ok (b + ps.length) → CleanP (E.crashed keep) N (b + ps.length) := fun E j hE ok =>
    ⟨ok.crashed keep, rfl, rfl, rfl, by rw [hE, putsC_len, h.len], by rw [hE]; exact wellS _ _ h.well⟩
  rcases liveP_each ps 0 hp h with ⟨E, m', h1, h2, h3⟩ | ⟨E, m', j, x, h0, hx, h1, h2, h3, h4, h5⟩
  · have e : D.all9 ps = (0, E) := by unfold Dev.all9; rw [h1]
    rw [e]
    have hc : (E.crashed keep).cells = putsC (ps.take ps.length) D.cells := by
      show crashC E.waits keep E.waits.length E.cells = _
      rw [h2.waits, List.take_length]; exact h3
    exact ⟨h2.ok, ps.length, Nat.le_refl _, fin E _ hc h2.ok, hc, .inl ⟨rfl, rfl⟩⟩
  · have e : D.all9 ps = (21, E) := by unfold Dev.all9; rw [h1]
    rw [e]
    refine ⟨h2, ?_⟩
    have hj : (E.crashed keep).cells = putsC (ps.take j) D.cells ∨ (E.crashed keep).cells = putsC (ps.take (j + 1)) D.cells := by
      show crashC E.waits keep E.waits.length E.cells = _ ∨ crashC E.waits keep E.waits.length E.cells = _
      rcases h5 with h5 | h5
      · rw [h5]; exact .inl h4
      · rw [h5]
        show (match kept keep 0 with | true => doneL E.cells ⟨x.at_, x.s⟩ | false => E.cells) = _ ∨ (match kept keep 0 with | true => doneL E.cells ⟨x.at_, x.s⟩ | false => E.cells) = _
        cases kept keep 0 with
        | false => exact .inl h4
        | true =>
          right
          obtain ⟨q0, q1, q2⟩ := hp x (List.mem_of_getElem? hx)
          have hlen : x.at_.toNat < E.cells.length := by rw [h4, putsC_len, h.len]; omega
          have hc := List.getElem?_eq_getElem hlen
          have hw : ∀ c ∈ E.cells, c.drop = 0 ∧ c.miss = [] := by rw [h4]; exact wellS _ _ h.well
          have hcw := hw _ (List.getElem_mem hlen)
          generalize E.cells[x.at_.toNat] = c at hc hcw
          show doneL E.cells ⟨x.at_, x.s⟩ = _
          rw [doneL_some (x := ⟨x.at_, x.s⟩) hc, List.take_add_one, hx, putsC_app, ← h4]
          show E.cells.set x.at_.toNat { c with s := x.s, lost := false } = E.cells.set x.at_.toNat (fine x.s)
          unfold fine
          rw [← hcw.1, ← hcw.2]
    rcases hj with hj | hj
    · exact ⟨j, by omega, fin E _ hj h2, hj, .inr rfl⟩
    · exact ⟨j + 1, by omega, fin E _ hj h2, hj, .inr rfl⟩
end Go.Proofs.YtinfbclgkghgaaaGreat.AL

/- The law of layer 11: a device whose sectors are all free. -/
namespace Go.Proofs.YtinfbclgkghgaaaGreat.AL
open Go Go.Proofs

def freeB (vol : Int) (a : Nat) : Blk := ⟨1, vol, a, 0, 0, []⟩
def freeS (vol : Int) (a : Nat) : Bytes := (freeB vol a).sld.1
def wrK (vol : Int) (D : Dev) : Nat → Dev
  | 0 => D
  | k + 1 => ((wrK vol D k).write k (freeS vol k)).2
def GeoV.secs (g : GeoV) : Nat := (4 + 2 * g.w + 2 * g.s * (g.k + g.m)).toNat
def blankD (vol : Int) (g : GeoV) : Dev := (wrK vol (Dev.new g.secs) g.secs).flush.2
theorem wrK_ok (vol : Int) {D : Dev} {b : Nat} (h : D.Ok b) : ∀ k, (wrK vol D k).Ok (b + k)
  | 0 => h
  | k + 1 => (wrK_ok vol h k).write _ _
theorem secs_le {g : GeoV} (hg : g.may = true) : (g.secs : Int) = 4 + 2 * g.w + 2 * g.s * (g.k + g.m) ∧ g.secs ≤ 4096 ∧ 4 + 2 * g.w ≤ (g.secs : Int) := by
  have hg2 := hg
  unfold GeoV.may at hg2
  rw [Bool.and_eq_true, decide_eq_true_eq] at hg2
  obtain ⟨m1, m2, m3, m4, m5⟩ := fits_mul hg2.1
  have hb := g.of_may hg
  unfold GeoV.secs
  have h0 : 0 ≤ 2 * g.s * (g.k + g.m) := by rw [Int.mul_assoc]; omega
  omega
def blankOk (vol : Int) (g : GeoV) : Bool := g.may && (!decide (g.w > 16) && (!decide (vol < 0) && !decide (vol > 4294967295)))
abbrev nilPt : AV := .p (.raw (.pointer none))

set_option maxRecDepth 20000 in
theorem law11_Blank_no (vol : Int) (g : GeoV) (h : blankOk vol g = false) : AF Tryz.prog f_law11_Blank [i64 vol, g.av] [] (Pure nilPt []) := by
  have wm := ref08_May g
  unfold blankOk at h
  refine af_body hT F_law11_Blank rfl rfl N_law11_Blank rfl ?_
  refine aw_seq (aw_region hT ?_)
  refine aw_wk (wk_boxL 0 g.pv rfl rfl) ?_
  refine aw_seq (aw_region hT ?_)
  refine callP (af_at wm _ rfl rfl) ?_
  refine aw_seq (aw_seq (aw_region hT ?_))
  refine boolI (fun h0 => ?_) (fun h0 => ?_)
  · refine aw_cond ?_
    refine aw_seq (aw_region hT ?_)
    refine aw_ret ?_
    exact retPick [] ⟨rfl, rfl⟩ rfl
  have h0 : (!g.may) = false := h0
  refine boolI (fun h1 => ?_) (fun h1 => ?_)
  · refine aw_cond ?_
    refine aw_seq (aw_region hT ?_)
    refine aw_ret ?_
    exact retPick [] ⟨rfl, rfl⟩ rfl
  have h1 : decide (g.w > 16) = false := h1
  refine boolI (fun h2 => ?_) (fun h2 => ?_)
  · refine aw_cond ?_
    refine aw_seq (aw_region hT ?_)
    refine aw_ret ?_
    exact retPick [] ⟨rfl, rfl⟩ rfl
  have h2 : decide (vol < 0) = false := h2
  refine aw_cond (boolI (fun h3 => ?_) (fun h3 => ?_))
  · refine aw_seq (aw_region hT ?_)
    refine aw_ret ?_
    exact retPick [] ⟨rfl, rfl⟩ rfl
  have h3 : decide (vol > 4294967295) = false := h3
  rw [(Bool.not_eq_false' _).mp h0, h1, h2, h3] at h
  exact absurd h (by decide)

set_option maxHeartbeats 1000000 in
set_option maxRecDepth 20000 in
theorem law11_Blank (vol : Int) (g : GeoV) (h : blankOk vol g = true) : AF Tryz.prog f_law11_Blank [i64 vol, g.av] [] (Pure (.ref 0 0) (devH (blankD vol g))) := by
  have wm := ref08_May g
  unfold blankOk at h
  simp only [Bool.and_eq_true, Bool.not_eq_true', decide_eq_false_iff_not] at h
  obtain ⟨hg, h16, hv0, hv1⟩ := h
  rw [hg] at wm
  obtain ⟨g1, g2, g3, g4, g5, g6, g7, g8⟩ := g.of_may hg
  obtain ⟨q1, q2, q3⟩ := secs_le hg
  obtain ⟨m1, m2, m3, m4, m5⟩ := fits_mul (by unfold GeoV.may at hg; rw [Bool.and_eq_true] at hg; exact hg.1)
  have hX := m5
  obtain ⟨N, hN⟩ : ∃ N, N = g.secs := ⟨_, rfl⟩
  have hnv : IntKind.i64.wrap (IntKind.i64.wrap (4 + IntKind.i64.wrap (2 * g.w)) + IntKind.i64.wrap (IntKind.i64.wrap (2 * g.s) * IntKind.i64.wrap (g.k + g.m))) = (N : Int) := by
    rw [hN, wrap64 (2 * g.w) (by omega) (by omega), wrap64 (4 + 2 * g.w) (by omega) (by omega), wrap64 (2 * g.s) (by omega) (by omega), wrap64 (g.k + g.m) (by omega) (by omega), wrap64 (2 * g.s * (g.k + g.m)) (by omega) (by omega), wrap64 _ (by omega) (by omega), q1]
  have n1 := disk_New N (by omega) (by omega)
  have okD := wrK_ok vol (ok_new N 0)
  refine af_body hT F_law11_Blank rfl rfl N_law11_Blank rfl ?_
  refine aw_seq (aw_region hT ?_)
  refine aw_wk (wk_boxL 0 g.pv rfl rfl) ?_
  refine aw_seq (aw_region hT ?_)
  refine callP (af_at wm _ rfl rfl) ?_
  refine aw_cut ⟨⟨67, [(0, i64 vol), (3, .p (.box g.pv))]⟩, []⟩ True (aw_seq (aw_region hT ?_)) (fun _ => ?_)
  · refine boolI (fun h => ?_) (fun _ => ?_)
    · have h := of_decide_eq_true (show decide (g.w > 16) = true from h)
      omega
    refine boolI (fun h => ?_) (fun _ => ?_)
    · have h := of_decide_eq_true (show decide (vol < 0) = true from h)
      omega
    refine aw_cond (boolI (fun h => ?_) (fun _ => ?_))
    · have h := of_decide_eq_true (show decide (vol > 4294967295) = true from h)
      omega
    exact aw_skip ⟨wk_pick [] [0, 3] rfl, trivial⟩
  refine aw_cut ⟨⟨67, [(0, i64 vol), (6, i64 N)]⟩, []⟩ True (aw_region hT ?_) (fun _ => ?_)
  · rw [← hnv]
    exact ⟨wk_pick [] [0, 6] rfl, trivial⟩
  clear hnv
  refine aw_cut ⟨⟨67, [(0, i64 vol), (6, i64 N), (7, .ref 0 0)]⟩, devH (Dev.new N)⟩ True (aw_region hT ?_) (fun _ => ?_)
  · refine callP n1 ?_
    exact ⟨wk_pick [0, 1, 2] [0, 6, 7] rfl, trivial⟩
  have eB : blankD vol g = (wrK vol (Dev.new N) N).flush.2 := by rw [hN]; rfl
  refine aw_cut ⟨⟨67, [(7, .ref 0 0)]⟩, devH (wrK vol (Dev.new N) N)⟩ True (aw_seq (aw_region hT ?_)) (fun _ => ?_)
  · refine aw_block ?_
    refine aw_loopW (fun n st => ∃ (k : Nat) (j : Int) (E : Dev), n + k = N ∧ j = k ∧ E = wrK vol (Dev.new N) k ∧ st = ⟨⟨67, [(0, i64 vol), (6, i64 N), (7, .ref 0 0), (9, i64 j)]⟩, devH E⟩) N ⟨⟨67, _⟩, _⟩ (wk_pick [0, 1, 2] [0, 6, 7, 9] rfl) ⟨0, 0, _, rfl, rfl, rfl, rfl⟩ ?_
    rintro n st ⟨k, j, E, hnk, hj, hE, rfl⟩
    have hEo : E.Ok (0 + k) := by rw [hE]; exact okD k
    refine aw_seq (aw_seq (aw_region hT ?_))
    refine aw_cond (boolI (fun h => ?_) (fun h => ?_))
    · have h := of_decide_eq_true (show decide (j < (N : Int)) = true from h)
      have ws := ref07_Seal ⟨1, vol, j, 0, 0, []⟩
      have eS : (Blk.mk 1 vol j 0 0 []).sld.1 = freeS vol k := by rw [hj]; rfl
      have eE : wrK vol (Dev.new N) (k + 1) = (E.write j (freeS vol k)).2 := by rw [hE, hj]; rfl
      have ww := disk_Write E j (freeS vol k) (by have := hEo.wl; omega)
      rw [eS] at ws
      generalize (Blk.mk 1 vol j 0 0 []).sld.2 = e at ws
      generalize freeS vol k = s at ws ww eE
      generalize E.write j s = Y at ww eE
      obtain ⟨f, F⟩ := Y
      have ww : AFm Tryz.prog 1 f_disk_Disk_Write [.ref 0 0, i64 j, bA s] (devH E) (Pure (i64 f) (devH F)) := ww
      have eE : wrK vol (Dev.new N) (k + 1) = F := eE
      refine aw_skip ?_
      refine aw_cut ⟨⟨67, [(0, i64 vol), (6, i64 N), (7, .ref 0 0), (9, i64 j)]⟩, devH F⟩ True (aw_block (aw_seq (aw_region hT ?_))) (fun _ => ?_)
      · refine callP (af_argAgg (af_at ws _ rfl rfl) ⟨.inl rfl, .inl rfl, .inl rfl, .inl rfl, .inl rfl, .inr ⟨rfl, 1, rfl⟩, trivial⟩) ?_
        refine aw_region hT ?_
        refine callP (af_in [0, 1, 2] ww rfl rfl rfl) ?_
        exact ⟨wk_pick [0, 3, 4] [0, 6, 7, 9] rfl, trivial⟩
      · refine aw_region hT ?_
        refine ⟨n - 1, by omega, _, wk_pick [0, 1, 2] [0, 6, 7, 9] rfl, k + 1, IntKind.i64.wrap (j + 1), F, by omega, ?_, eE.symm, rfl⟩
        rw [wrap64 _ (by omega) (by omega), hj]; rfl
    · have h := of_decide_eq_false (show decide (j < (N : Int)) = false from h)
      have hk : k = N := by omega
      rw [hk] at hE
      rw [← hE]
      refine aw_exit ?_
      exact ⟨wk_pick [0, 1, 2] [7] rfl, trivial⟩
  have okN := okD N
  have wf := disk_Flush (wrK vol (Dev.new N) N) okN.at_ (by have := okN.wl; omega)
  rw [← eB] at wf
  generalize (wrK vol (Dev.new N) N).flush.1 = f at wf
  generalize blankD vol g = B at wf
  refine aw_seq (aw_region hT ?_)
  refine callP (af_in [0, 1, 2] wf rfl rfl rfl) ?_
  refine aw_seq (aw_region hT ?_)
  refine aw_ret ?_
  exact retPick [0, 3, 4] ⟨rfl, rfl⟩ rfl

/-! What such a device has. -/
theorem freeS_len (vol : Int) (hv : wordB vol = true) (a : Nat) (ha : a ≤ 4294967295) : freeS vol a = sealB (freeB vol a).all ∧ openB (sealB (freeB vol a).all) = (freeB vol a, 0) ∧ (freeS vol a).length = 256 := by
  have hn : (freeB vol a).nums = true := by
    unfold Blk.nums freeB
    simp only [List.all_cons, List.all_nil, Bool.and_eq_true, decide_eq_true_eq]
    have w1 : wordB (a : Int) = true := by unfold wordB; simp only [Bool.and_eq_true, decide_eq_true_eq]; omega
    exact ⟨by decide, hv, w1, by decide, by decide, trivial⟩
  have hb : (freeB vol a).body.length ≤ 228 := Nat.zero_le _
  have e : freeS vol a = sealB (freeB vol a).all := by
    unfold freeS Blk.sld
    rw [hn, decide_eq_false (show ¬ (freeB vol a).body.length > 228 by omega)]
  refine ⟨e, open_seal hn hb, ?_⟩
  rw [e, sealB_len, all_len _ hb]
theorem wrK_state (vol : Int) (hv : wordB vol = true) (N : Nat) (hN : N ≤ 4096) : ∀ k, k ≤ N → (wrK vol (Dev.new N) k).cells = (Dev.new N).cells ∧ (wrK vol (Dev.new N) k).waits = (List.range k).map (fun (a : Nat) => (⟨(a : Int), freeS vol a⟩ : Wr)) ∧ (wrK vol (Dev.new N) k).dead = false ∧ (wrK vol (Dev.new N) k).armed = false
  | 0, _ => ⟨rfl, rfl, rfl, rfl⟩
  | k + 1, hk => by
    obtain ⟨h1, h2, h3, h4⟩ := wrK_state vol hv N hN k (by omega)
    have hl := (freeS_len vol hv k (by omega)).2.2
    have hc : (Dev.new N).cells[k]? = some cell1 := by
      show (List.replicate N cell1)[k]? = _
      rw [List.getElem?_replicate, if_pos (by omega)]
    show ((wrK vol (Dev.new N) k).write k (freeS vol k)).2.cells = _ ∧ _
    generalize hE : wrK vol (Dev.new N) k = E at h1 h2 h3 h4
    have hh : E.has k = true := hasP (N := N) (by rw [h1]; show (List.replicate N cell1).length = N; rw [List.length_replicate]) (by omega)
    have hld : E.lives.dead = false := livesP h3 h4
    have hput : E.lives.count.put k (freeS vol k) = { E.lives.count with waits := E.waits ++ [⟨(k : Int), freeS vol k⟩] } := by
      unfold Dev.put
      rw [Int.toNat_natCast, show E.lives.count.cells[k]? = some cell1 by show E.cells[k]? = _; rw [h1]; exact hc]
      rfl
    have e : E.write k (freeS vol k) = (0, { E.lives.count with waits := E.waits ++ [⟨(k : Int), freeS vol k⟩] }) := by
      rw [← hput]
      unfold Dev.write
      rw [h3, hh, show (((freeS vol k).length : Int) != 256) = false by rw [hl]; rfl, hld]
    have e2 : wrK vol (Dev.new N) (k + 1) = { E.lives.count with waits := E.waits ++ [⟨(k : Int), freeS vol k⟩] } := by
      show ((wrK vol (Dev.new N) k).write k (freeS vol k)).2 = _
      rw [hE, e]
    rw [e, e2]
    refine ⟨h1, ?_, hld, h4⟩
    rw [List.range_succ, List.map_append, ← h2]; rfl
theorem crash_all (vol : Int) (cs : List Cell) (hw : ∀ c ∈ cs, c.drop = 0 ∧ c.miss = []) (N : Nat) (hN : N ≤ cs.length) : ∀ i, i ≤ N → ∀ a, (crashC ((List.range N).map (fun (a : Nat) => (⟨(a : Int), freeS vol a⟩ : Wr))) [true] i cs)[a]? = if a < i then some (fine (freeS vol a)) else cs[a]?
  | 0, _, a => by rw [if_neg (by omega)]; rfl
  | i + 1, hi, a => by
    have ih := crash_all vol cs hw N hN i (by omega)
    have hk : kept [true] i = true := by
      unfold kept
      rw [show i % [true].length = 0 from Nat.mod_one i]; rfl
    have hg : ((List.range N).map (fun (a : Nat) => (⟨(a : Int), freeS vol a⟩ : Wr))).getD i ⟨0, []⟩ = ⟨(i : Int), freeS vol i⟩ := by
      rw [List.getD_eq_getElem?_getD, List.getElem?_map, List.getElem?_range (by omega)]; rfl
    have hlen := crashC_len ((List.range N).map (fun (a : Nat) => (⟨(a : Int), freeS vol a⟩ : Wr))) [true] cs i
    unfold crashC
    rw [hk, hg]
    show (doneL _ _)[a]? = _
    have hci : (crashC ((List.range N).map (fun (a : Nat) => (⟨(a : Int), freeS vol a⟩ : Wr))) [true] i cs)[i]? = cs[i]? := by rw [ih i, if_neg (by omega)]
    obtain ⟨c, hc⟩ : ∃ c, cs[i]? = some c := ⟨_, List.getElem?_eq_getElem (by omega)⟩
    have hcw := hw c (List.mem_of_getElem? hc)
    rw [hc] at hci
    generalize crashC ((List.range N).map (fun (a : Nat) => (⟨(a : Int), freeS vol a⟩ : Wr))) [true] i cs = L at ih hlen hci ⊢
    rw [doneL_some (x := ⟨(i : Int), freeS vol i⟩) (c := c) (by show L[((i : Nat) : Int).toNat]? = _; rw [Int.toNat_natCast]; exact hci)]
    show (L.set ((i : Nat) : Int).toNat { c with s := freeS vol i, lost := false })[a]? = _
    rw [Int.toNat_natCast, List.getElem?_set]
    by_cases e : i = a
    · subst e
      rw [if_pos rfl, if_pos (by omega), if_pos (by omega)]
      unfold fine
      rw [← hcw.1, ← hcw.2]
    · rw [if_neg e, ih a]
      by_cases e2 : a < i
      · rw [if_pos e2, if_pos (by omega)]
      · rw [if_neg e2, if_neg (by omega)]
theorem blankP (vol : Int) (hv : wordB vol = true) (g : GeoV) (hg : g.may = true) : CleanP (blankD vol g) g.secs g.secs ∧ ∀ a, a < g.secs → (blankD vol g).cells[a]? = some (fine (freeS vol a)) := by
  obtain ⟨_, q2, _⟩ := secs_le hg
  have okN := wrK_ok vol (ok_new g.secs 0) g.secs
  obtain ⟨h1, h2, h3, h4⟩ := wrK_state vol hv g.secs q2 g.secs (Nat.le_refl _)
  have okF := okN.flush
  have eB : blankD vol g = (wrK vol (Dev.new g.secs) g.secs).flush.2 := rfl
  rw [← eB, Nat.zero_add] at okF
  generalize wrK vol (Dev.new g.secs) g.secs = E at h1 h2 h3 h4 eB
  have hld : E.lives.dead = false := livesP h3 h4
  have e : E.flush = (0, E.lives.drain [true]) := by unfold Dev.flush; rw [h3, hld]
  rw [e] at eB
  have hcl : (Dev.new g.secs).cells.length = g.secs := List.length_replicate
  have hwl : ∀ c ∈ (Dev.new g.secs).cells, c.drop = 0 ∧ c.miss = [] := fun c hc => by rw [List.eq_of_mem_replicate hc]; exact ⟨rfl, rfl⟩
  have hcs : (blankD vol g).cells = crashC ((List.range g.secs).map (fun (a : Nat) => (⟨(a : Int), freeS vol a⟩ : Wr))) [true] g.secs (Dev.new g.secs).cells := by
    rw [eB]
    show crashC E.waits [true] E.waits.length E.cells = _
    rw [h2, h1, List.length_map, List.length_range]
  have hca := crash_all vol (Dev.new g.secs).cells hwl g.secs (by omega) g.secs (Nat.le_refl _)
  have hcell : ∀ a, a < g.secs → (blankD vol g).cells[a]? = some (fine (freeS vol a)) := fun a ha => by rw [hcs, hca a, if_pos ha]
  have hlen : (blankD vol g).cells.length = g.secs := by rw [hcs, crashC_len]; exact hcl
  refine ⟨⟨okF, by rw [eB]; exact hld, by rw [eB]; exact h4, by rw [eB]; rfl, hlen, fun c hc => ?_⟩, hcell⟩
  obtain ⟨i, hi⟩ := List.getElem?_of_mem hc
  have hlt := (List.getElem?_eq_some_iff.1 hi).1
  rw [hcell i (by omega)] at hi
  obtain rfl := Option.some.inj hi
  exact ⟨rfl, rfl⟩
end Go.Proofs.YtinfbclgkghgaaaGreat.AL
