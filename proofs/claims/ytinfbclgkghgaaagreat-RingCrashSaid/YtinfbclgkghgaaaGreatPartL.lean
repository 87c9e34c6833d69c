/- A part of the proof. -/
import Derived.Laws.StructEq
import Derived.ChangeKeysEq
import Derived.Test.YtinfbclgkghgaaaGreatPartK
/- The layer 11 (ring), plain: the transactions of what was appended. -/
namespace Go.Proofs.YtinfbclgkghgaaaGreat.AL
open Go Go.Proofs Go.Proofs.YtinfbclgkghgaaaGreat.AL.Crc

/-- The pieces of one transaction. -/
def SegP (s : List Pc) : Prop := s ≠ [] ∧ segOk s.length s 0 = true ∧ ∀ p ∈ s, p.of_ = s.length
def nxtP (P : List Pc) (n : Int) : Int := match P.getLast? with | some p => p.seq + 1 | none => n
def sumL (vol : Int) (g : GeoV) (P : List Pc) (c : Int) : Int := match P.getLast? with | some p => sumP vol g p | none => c
theorem lst_with (vol : Int) (g : GeoV) (P : List Pc) : lst (withSums vol g P) = P := by
  unfold lst withSums
  rw [List.map_map]
  exact (List.map_congr_left fun p _ => rfl).trans (List.map_id P)
theorem with_take (vol : Int) (g : GeoV) (P : List Pc) (n : Nat) : (withSums vol g P).take n = withSums vol g (P.take n) := by unfold withSums; rw [List.map_take]
theorem with_drop (vol : Int) (g : GeoV) (P : List Pc) (n : Nat) : (withSums vol g P).drop n = withSums vol g (P.drop n) := by unfold withSums; rw [List.map_drop]
theorem nxtP_app (a b : List Pc) (n : Int) : nxtP (a ++ b) n = nxtP b (nxtP a n) := by
  unfold nxtP
  rcases List.eq_nil_or_concat b with rfl | ⟨l, x, rfl⟩
  · simp
  · rw [List.concat_eq_append, ← List.append_assoc]; simp
theorem sumL_app (vol : Int) (g : GeoV) (a b : List Pc) (n : Int) : sumL vol g (a ++ b) n = sumL vol g b (sumL vol g a n) := by
  unfold sumL
  rcases List.eq_nil_or_concat b with rfl | ⟨l, x, rfl⟩
  · simp
  · rw [List.concat_eq_append, ← List.append_assoc]; simp
theorem sms_last (vol : Int) (g : GeoV) (s : List Pc) (hs : s ≠ []) (c : Int) : (sms (withSums vol g s)).getLastD 0 = sumL vol g s c := by
  unfold sms withSums sumL
  rw [List.map_map]
  rcases List.eq_nil_or_concat s with rfl | ⟨l, x, rfl⟩
  · exact absurd rfl hs
  · rw [List.concat_eq_append, List.map_append]; simp
theorem lastR_seq (s : List Pc) (hs : s ≠ []) (n : Int) : (lastR s).seq + 1 = nxtP s n := by
  unfold nxtP
  rcases List.eq_nil_or_concat s with rfl | ⟨l, x, rfl⟩
  · exact absurd rfl hs
  · rw [List.concat_eq_append, lastR_snoc]; simp

theorem grpL_segs (vol : Int) (g : GeoV) : ∀ (Q : List (List Pc)) (f : Nat) (t : TailV), (∀ s ∈ Q, SegP s) → Q.flatten.length ≤ f →
    grpL f (withSums vol g Q.flatten) t = { t with txs := t.txs ++ Q.map catB, next := nxtP Q.flatten t.next, chain := sumL vol g Q.flatten t.chain }
  | [], f, t, _, _ => by
    show grpL f [] t = _
    rw [grpL_nil]
    obtain ⟨a, b, c, d⟩ := t
    simp [nxtP, sumL]
  | s :: Q, f, t, hQ, hf => by
    obtain ⟨h1, h2, h3⟩ := hQ s (by simp)
    rw [List.flatten_cons] at hf ⊢
    rw [List.length_append] at hf
    obtain ⟨p, r, rfl⟩ : ∃ p r, s = p :: r := by
      cases s with
      | nil => exact absurd rfl h1
      | cons p r => exact ⟨p, r, rfl⟩
    have hof := h3 p (by simp)
    rw [List.length_cons] at hf hof
    obtain ⟨f, rfl⟩ : ∃ k, f = k + 1 := ⟨f - 1, by omega⟩
    have hw : withSums vol g (p :: r ++ Q.flatten) = (p, sumP vol g p) :: withSums vol g (r ++ Q.flatten) := rfl
    have ht : ((p, sumP vol g p) :: withSums vol g (r ++ Q.flatten)).take p.of_.toNat = withSums vol g (p :: r) := by
      rw [← hw, with_take, hof, Int.toNat_natCast, show r.length + 1 = (p :: r).length from rfl, List.take_left]
    have hd : ((p, sumP vol g p) :: withSums vol g (r ++ Q.flatten)).drop p.of_.toNat = withSums vol g Q.flatten := by
      rw [← hw, with_drop, hof, Int.toNat_natCast, show r.length + 1 = (p :: r).length from rfl, List.drop_left]
    have hl : (withSums vol g (r ++ Q.flatten)).length = r.length + Q.flatten.length := by unfold withSums; rw [List.length_map, List.length_append]
    rw [hw, grpL_cons, ht, hd, lst_with, hl, decide_eq_false (show ¬ p.of_ > ((r.length + Q.flatten.length + 1 : Nat) : Int) by omega)]
    have h2 : segOk p.of_ (p :: r) 0 = true := by rw [hof]; exact h2
    rw [h2]
    simp only [Bool.not_true, Bool.or_false]
    rw [grpL_segs vol g Q f _ (fun s hs => hQ s (by simp [hs])) (by omega)]
    rw [nxtP_app, sumL_app, sms_last vol g (p :: r) (by simp) t.chain, lastR_seq (p :: r) (by simp) t.next]
    simp

theorem splitF_cat : ∀ (f : Nat) (b : Bytes), (splitF f b).flatten = b
  | 0, b => by simp [splitF]
  | f + 1, b => by
    unfold splitF
    split
    · rw [List.flatten_cons, splitF_cat f, List.take_append_drop]
    · simp
theorem splitB_cat (b : Bytes) : (splitB b).flatten = b := splitF_cat _ b
theorem mkP_cat (n : Int) : ∀ (l : List Bytes) (i : Int) (R : Rg), catB (mkP n l i R) = l.flatten
  | [], _, _ => rfl
  | b :: r, i, R => by
    show catB (pcR R i n b :: mkP n r (i + 1) (nxR R (pcR R i n b))) = _
    have := mkP_cat n r (i + 1) (nxR R (pcR R i n b))
    unfold catB at this ⊢
    rw [List.map_cons, List.flatten_cons, this, List.flatten_cons]; rfl
theorem mkP_seg (n : Int) : ∀ (l : List Bytes) (i : Int) (R : Rg), segOk n (mkP n l i R) i = true ∧ ∀ p ∈ mkP n l i R, p.of_ = n
  | [], _, _ => ⟨rfl, fun _ h => by simp [mkP] at h⟩
  | b :: r, i, R => by
    obtain ⟨h1, h2⟩ := mkP_seg n r (i + 1) (nxR R (pcR R i n b))
    refine ⟨?_, fun p hp => ?_⟩
    · show (match (pcR R i n b).index != i || (pcR R i n b).of_ != n with | true => false | false => segOk n (mkP n r (i + 1) (nxR R (pcR R i n b))) (i + 1)) = true
      rw [show ((pcR R i n b).index != i || (pcR R i n b).of_ != n) = false by show (i != i || n != n) = false; simp]
      exact h1
    · have hp : p ∈ pcR R i n b :: mkP n r (i + 1) (nxR R (pcR R i n b)) := hp
      rw [List.mem_cons] at hp
      rcases hp with rfl | hp
      · rfl
      · exact h2 p hp
theorem tx_seg (tx : Bytes) (R : Rg) : SegP (mkP (splitB tx).length (splitB tx) 0 R) ∧ catB (mkP (splitB tx).length (splitB tx) 0 R) = tx := by
  have hl := mkP_len (splitB tx).length (splitB tx) 0 R
  have hp := splitB_pos tx
  obtain ⟨h1, h2⟩ := mkP_seg (splitB tx).length (splitB tx) 0 R
  refine ⟨⟨fun h => ?_, by rw [hl]; exact h1, by rw [hl]; exact h2⟩, by rw [mkP_cat, splitB_cat]⟩
  rw [h] at hl
  rw [List.length_nil] at hl
  omega

theorem nxtP_chain {vol : Int} {g : GeoV} {e f s0 c0 : Int} {P : List Pc} (h : Chain vol g e f s0 c0 P) : nxtP P s0 = s0 + P.length ∧ sumL vol g P c0 = sumAt vol g c0 P P.length := by
  unfold nxtP sumL
  rw [List.getLast?_eq_getElem?]
  cases hl : P.length with
  | zero =>
    have : P = [] := List.length_eq_zero_iff.mp hl
    subst this
    exact ⟨by simp, rfl⟩
  | succ n =>
    have hx := List.getElem?_eq_getElem (show n < P.length by omega)
    generalize P[n] = p at hx
    have := (h.may n p hx).2.1
    rw [show n + 1 - 1 = n by omega, hx]
    refine ⟨by simp only; omega, ?_⟩
    show _ = (match P[n]? with | some p => sumP vol g p | none => c0)
    rw [hx]
def epQ (Q : List (List Pc)) (e : Int) : Int := match Q with | [] => 0 | _ :: _ => e
/-- WHAT A LOG TELLS. -/
theorem told_log {R : Rg} {D : Dev} {b : Nat} {s0 c0 : Int} {Q : List (List Pc)} (h : LogP R D b s0 c0 Q.flatten) (hQ : ∀ s ∈ Q, SegP s) {x y : List Bytes} (hc : wordB c0 = true) (hx : (x.length : Int) = R.g.w) (hy : (y.length : Int) = R.g.w) (ht : Tells R.vol R.g s0 Q.flatten x y) :
    followB R.vol R.g x y s0 c0 = (⟨Q.map catB, R.next, R.chain, epQ Q R.epoch⟩, 0) := by
  have hn := h.next
  have hz := h.zero
  have hs : wordB s0 = true := by
    have := h.ok.n
    unfold wordB; simp only [Bool.and_eq_true, decide_eq_true_eq]; omega
  have hok : logOk R.vol R.g x y s0 c0 = true := by
    unfold logOk
    rw [h.ok.g, h.ok.vol, hs, hc, hx, hy]
    simp
  rw [follow_chain h.ok.g h.chain ht h.ok.e.1 h.len hok]
  unfold groupB
  have hl : (withSums R.vol R.g Q.flatten).length = Q.flatten.length := by unfold withSums; rw [List.length_map]
  rw [hl, grpL_segs R.vol R.g Q _ _ hQ (Nat.le_refl _)]
  obtain ⟨e1, e2⟩ := nxtP_chain h.chain
  simp only [List.nil_append]
  rw [e1, e2, ← hn, ← h.sum]
  congr 2
  unfold lastE withSums
  rw [List.getLast?_map]
  cases Q with
  | nil => rfl
  | cons s r =>
    have hne : (s :: r).flatten ≠ [] := fun e => (hQ s (by simp)).1 (by rw [List.flatten_cons] at e; exact (List.append_eq_nil_iff.mp e).1)
    obtain ⟨p, hp⟩ : ∃ p, (s :: r).flatten.getLast? = some p := by
      cases hg : (s :: r).flatten.getLast? with
      | none => rw [List.getLast?_eq_none_iff] at hg; exact absurd hg hne
      | some p => exact ⟨p, rfl⟩
    rw [hp]
    rw [List.getLast?_eq_getElem?] at hp
    exact (h.chain.may _ _ hp).2.2.1
end Go.Proofs.YtinfbclgkghgaaaGreat.AL

/- The layer 11 (ring), plain: a log on a new device, and what is read of it behind damage. -/
namespace Go.Proofs.YtinfbclgkghgaaaGreat.AL
open Go Go.Proofs Go.Proofs.YtinfbclgkghgaaaGreat.AL.Crc

theorem CellsP.all {vol : Int} {g : GeoV} {s0 : Int} {P : List Pc} {cs : List Cell} (h : CellsP vol g s0 P cs) {k m : Int} (k0 : 0 ≤ k) (k1 : k < g.w) (hm : m = 0 ∨ m = 1) : ∃ s, cs[(addrB g m k).toNat]? = some (fine s) := by
  by_cases e : ∃ i : Nat, i < P.length ∧ slotOf g s0 i = k
  · obtain ⟨i, hi, rfl⟩ := e
    exact ⟨_, h.used i _ (List.getElem?_eq_getElem hi) m hm⟩
  · exact ⟨_, h.free k m k0 k1 hm fun i hi he => e ⟨i, hi, he⟩⟩
theorem newOk_ok {vol : Int} {g : GeoV} {epoch start next chain : Int} (h : newOk vol g epoch start next chain = true) : (newR vol g epoch start next chain).Ok := by
  unfold newOk at h
  rw [Bool.and_eq_true, Bool.and_eq_true, Bool.and_eq_true] at h
  obtain ⟨hg, hw, h1, h2⟩ := h
  have hv : wordB vol = true := by simp only [List.all_cons, Bool.and_eq_true] at hw; exact hw.1
  unfold wordB at hw
  simp only [List.all_cons, List.all_nil, Bool.and_true, Bool.and_eq_true, decide_eq_true_eq] at hw
  obtain ⟨q1, q2, q3, q4, q5⟩ := hw
  have h1 := of_decide_eq_false ((Bool.not_eq_true' _).mp h1)
  exact ⟨hg, hv, q2, ⟨q4.1, Int.le_refl _⟩, ⟨q3.1, by show start ≤ next; omega⟩, q4.2, q5⟩
theorem logP_new {vol : Int} {g : GeoV} {epoch start chain : Int} (h : newOk vol g epoch start start chain = true) : LogP (newR vol g epoch start start chain) (blankD vol g) g.secs start chain [] := by
  have ok := newOk_ok h
  obtain ⟨c, hc⟩ := blankP vol ok.vol g ok.g
  obtain ⟨_, _, q⟩ := secs_le ok.g
  obtain ⟨g1, _⟩ := g.of_may ok.g
  have q : 4 + 2 * g.w ≤ (g.secs : Int) := q
  refine ⟨ok, c, ⟨fun i p hi => by simp at hi, fun k m k0 k1 hm _ => ?_⟩, ⟨fun i p hi => by simp at hi⟩, (Int.add_zero _).symm, rfl, ok.s.1, by show (0 : Int) ≤ g.w; omega⟩
  have k1 : k < g.w := k1
  refine hc _ ?_
  rcases hm with rfl | rfl
  · show (addrB g 0 k).toNat < _
    rw [addr0]; omega
  · show (addrB g 1 k).toNat < _
    rw [addr1]; omega

/-- Behind damage that leaves one of both sectors of each slot. -/
theorem load_told {R : Rg} {D : Dev} {b : Nat} {s0 c0 : Int} {Q : List (List Pc)} (h : LogP R D b s0 c0 Q.flatten) (hQ : ∀ s ∈ Q, SegP s) (hc : wordB c0 = true) {E : Dev} {b2 : Nat} (hE : CleanP E R.g.secs b2)
    (hab : ∀ k : Int, 0 ≤ k → k < R.g.w → (cellB E (addrB R.g 0 k).toNat = cB D.cells (addrB R.g 0 k).toNat ∨ (toldP (cellB E (addrB R.g 0 k).toNat) R.vol R.g 0 k).2 = false) ∧ (cellB E (addrB R.g 1 k).toNat = cB D.cells (addrB R.g 1 k).toNat ∨ (toldP (cellB E (addrB R.g 1 k).toNat) R.vol R.g 1 k).2 = false) ∧ (cellB E (addrB R.g 0 k).toNat = cB D.cells (addrB R.g 0 k).toNat ∨ cellB E (addrB R.g 1 k).toNat = cB D.cells (addrB R.g 1 k).toNat)) :
    followB R.vol R.g (load0 E R.g).1 (load1 E R.g).1 s0 c0 = (⟨Q.map catB, R.next, R.chain, epQ Q R.epoch⟩, 0) := by
  obtain ⟨l0, l1, _, _⟩ := load_P h.ok.g hE
  obtain ⟨g1, _⟩ := R.g.of_may h.ok.g
  have hx : ∀ f : Nat → Bytes, ((((List.range R.g.w.toNat).map f).length : Nat) : Int) = R.g.w := fun f => by rw [List.length_map, List.length_range]; omega
  rw [l0, l1]
  refine told_log h hQ hc (hx _) (hx _) ?_
  refine tells_P h.ok.g h.ok.vol h.zero h.cells (fun i p hi => ⟨(h.chain.may i p hi).1, (h.chain.may i p hi).2.1⟩) _ _ fun k k0 k1 => ?_
  have := hab k k0 k1
  rw [atS_map _ _ k0 (by omega), atS_map _ _ k0 (by omega), show ((k.toNat : Nat) : Int) = k by omega]
  exact this
theorem cell_same {D E : Dev} {k : Nat} {s : Bytes} (h : D.cells[k]? = some (fine s)) (hE : E.cells[k]? = D.cells[k]?) : cellB E k = cB D.cells k := by
  unfold cellB cB
  rw [hE, h]; rfl

/-! The example. -/
abbrev g11 : GeoV := ⟨8, 1, 2, 1⟩
abbrev abc11 : Bytes := [97, 98, 99]
theorem g11_may : g11.may = true := by decide +kernel
theorem awake11_plain : ∃ (z : Bytes), z = List.replicate 450 0 ∧ ∃ (D0 D1 D2 D3 : Dev) (R0 R1 R2 : Rg) (l0 l1 : List Bytes) (D4 : Dev),
    D0 = blankD 7 g11 ∧ R0 = newR 7 g11 1 0 0 0 ∧ R0.append D0 abc11 = (0, (R1, D1)) ∧ R1.append D1 z = (0, (R2, D2)) ∧ D2.fault (loseF 6) = (0, D3) ∧ l0 = (load0 D3 g11).1 ∧ l1 = (load1 D3 g11).1 ∧ D4 = (load1 D3 g11).2 ∧
    followB 7 g11 l0 l1 0 0 = (⟨[abc11, z], 4, R2.chain, 1⟩, 0) ∧ R2.next = 4 ∧ R0.Ok ∧ R1.Ok ∧ D0.Ok 26 ∧ D1.Ok 28 ∧ D2.Ok 34 ∧ D3.Ok 35 ∧ (∀ s ∈ l0, s.length ≤ 256) ∧ (∀ s ∈ l1, s.length ≤ 256) := by
  refine ⟨_, rfl, ?_⟩
  generalize hz : List.replicate 450 (0 : UInt8) = z
  have hs1 : (splitB abc11).length = 1 := by decide +kernel
  have hs2 : (splitB z).length = 3 := by rw [← hz]; decide +kernel
  have hsec : g11.secs = 26 := by decide +kernel
  have L0 := logP_new (vol := 7) (g := g11) (epoch := 1) (start := 0) (chain := 0) (by decide +kernel)
  obtain ⟨D1, a1, L1⟩ := append_P L0 rfl abc11 (by omega) (by rw [hs1]; decide) (by rw [hs1]; decide)
  obtain ⟨s1, c1⟩ := tx_seg abc11 (newR 7 g11 1 0 0 0)
  obtain ⟨i1, i2, i3, i4, i5, i6⟩ := advR_id (splitB abc11).length (splitB abc11) 0 (newR 7 g11 1 0 0 0)
  have m1 := mkP_len (splitB abc11).length (splitB abc11) 0 (newR 7 g11 1 0 0 0)
  rw [List.nil_append] at L1
  generalize advR (splitB abc11).length (splitB abc11) 0 (newR 7 g11 1 0 0 0) = R1 at a1 L1 i1 i2 i3 i4 i5 i6
  generalize mkP (splitB abc11).length (splitB abc11) 0 (newR 7 g11 1 0 0 0) = P1 at L1 s1 c1 m1
  rw [hs1] at L1 m1 i6
  have i1 : R1.g = g11 := i1
  have i2 : R1.vol = 7 := i2
  have i3 : R1.epoch = 1 := i3
  have i5 : R1.start = 0 := i5
  have i6 : R1.next = 1 := i6
  obtain ⟨D2, a2, L2⟩ := append_P L1 i5 z (by omega) (by rw [hs2, m1, i1]; decide) (by rw [hs2, i6]; decide)
  obtain ⟨s2, c2⟩ := tx_seg z R1
  obtain ⟨j1, j2, j3, j4, j5, j6⟩ := advR_id (splitB z).length (splitB z) 0 R1
  have m2 := mkP_len (splitB z).length (splitB z) 0 R1
  generalize advR (splitB z).length (splitB z) 0 R1 = R2 at a2 L2 j1 j2 j3 j4 j5 j6
  generalize mkP (splitB z).length (splitB z) 0 R1 = P2 at L2 s2 c2 m2
  rw [hs2] at L2 m2 j6
  rw [i1] at j1
  rw [i2] at j2
  rw [i3] at j3
  rw [i6] at j6
  have hn : R2.next = 4 := j6
  have c2' := L2.clean
  rw [j1, hsec] at c2'
  obtain ⟨D3, f3, c3, e3⟩ := loseP c2' (k := 6) (by omega)
  have hF := load_told (Q := [P1, P2]) (c0 := 0) (by rw [show [P1, P2].flatten = P1 ++ P2 by simp]; exact L2) (fun s hs => by
    simp only [List.mem_cons, List.not_mem_nil, or_false] at hs
    rcases hs with rfl | rfl
    · exact s1
    · exact s2) (by decide) (E := D3) (by rw [j1, hsec]; exact c3) (by
    intro k k0 k1
    rw [j1] at k1 ⊢
    have k1 : k < 8 := k1
    have hc := L2.cells
    rw [j1] at hc
    obtain ⟨x0, hx0⟩ := hc.all k0 (show k < g11.w from k1) (.inl rfl)
    obtain ⟨x1, hx1⟩ := hc.all k0 (show k < g11.w from k1) (.inr rfl)
    rw [addr0] at hx0 ⊢
    rw [addr1] at hx1 ⊢
    have same : ∀ n : Nat, n ≠ 6 → D3.cells[n]? = D2.cells[n]? := fun n hn => by
      rw [e3, List.getElem?_modify]
      cases D2.cells[n]? with
      | none => rfl
      | some c =>
        show some (if 6 = n then { c with lost := true } else c) = some c
        rw [if_neg (fun h => hn h.symm)]
    have w8 : g11.w = 8 := rfl
    have B := cell_same hx1 (same _ (by omega))
    refine ⟨?_, .inl B, .inr B⟩
    by_cases hk : (4 + k).toNat = 6
    · right
      have : cellB D3 (4 + k).toNat = [] := by
        unfold cellB
        rw [e3, List.getElem?_modify, hk]
        rw [hk] at hx0
        rw [hx0]; rfl
      rw [this]; exact toldP_nil _ _ _ _
    · left
      exact cell_same hx0 (same _ hk))
  rw [j1, j2, hn, j3] at hF
  have o0 := L0.clean.ok
  rw [hsec] at o0
  have o1 := L1.clean.ok
  rw [hsec] at o1
  have o2 := L2.clean.ok
  rw [hsec] at o2
  have hF : followB 7 g11 (load0 D3 g11).1 (load1 D3 g11).1 0 0 = (⟨[catB P1, catB P2], 4, R2.chain, 1⟩, 0) := hF
  rw [c1, c2] at hF
  exact ⟨blankD 7 g11, D1, D2, D3, newR 7 g11 1 0 0 0, R1, R2, _, _, _, rfl, rfl, a1, a2, f3, rfl, rfl, rfl, hF, hn, L0.ok, L1.ok, o0, o1, o2, c3.ok, rdK_bytes c3.ok _ _, rdK_bytes (rdK_ok c3.ok _ _) _ _⟩
end Go.Proofs.YtinfbclgkghgaaaGreat.AL

/- Plain: up to four changed bytes in a row are seen by the sum at the end. -/
namespace Go.Proofs.YtinfbclgkghgaaaGreat.AL
open Go Go.Proofs Go.Proofs.YtinfbclgkghgaaaGreat.AL.Crc

theorem word4_leB (n : Nat) : word4 (UInt8.ofNat n) (UInt8.ofNat (n / 256)) (UInt8.ofNat (n / 256 ^ 2)) (UInt8.ofNat (n / 256 ^ 3)) = BitVec.ofNat 32 n := by
  apply BitVec.eq_of_getLsbD_eq
  intro i hi
  have h1 : i = 8 * (i / 8) + i % 8 := by omega
  rw [h1, word4_bit _ _ _ _ (show i / 8 < 4 by omega) (show i % 8 < 8 by omega)]
  have key : ∀ j, j < 4 → (wd (UInt8.ofNat (n / 256 ^ j))).getLsbD (i % 8) = (BitVec.ofNat 32 n).getLsbD (8 * j + i % 8) := by
    intro j hj
    unfold wd
    rw [BitVec.getLsbD_ofNat, BitVec.getLsbD_ofNat, UInt8.toNat_ofNat', show (256 : Nat) ^ j = 2 ^ (8 * j) by rw [show (256 : Nat) = 2 ^ 8 from rfl, Nat.pow_mul], show (2 : Nat) ^ 8 = 2 ^ 8 from rfl, Nat.testBit_mod_two_pow, Nat.testBit_div_two_pow, decide_eq_true (show i % 8 < 32 by omega), decide_eq_true (show i % 8 < 8 by omega), decide_eq_true (show 8 * j + i % 8 < 32 by omega), Bool.true_and, Bool.true_and, Bool.true_and, Nat.add_comm]
  have h2 : i / 8 = 0 ∨ i / 8 = 1 ∨ i / 8 = 2 ∨ i / 8 = 3 := by omega
  rcases h2 with h | h | h | h <;> rw [h] <;> unfold sel4
  · have := key 0 (by omega); rwa [Nat.pow_zero, Nat.div_one] at this
  · have := key 1 (by omega); rwa [Nat.pow_one] at this
  · exact key 2 (by omega)
  · exact key 3 (by omega)

theorem run_whole {p : Bytes} (hp : wholeB p = true) : run all1 p = stN 32 all1 := by
  unfold wholeB at hp
  split at hp
  · rename_i h4
    have h4 := of_decide_eq_true h4
    have e : p = p.take (p.length - 4) ++ leB 4 (sum (p.take (p.length - 4))).toNat := by
      rw [← eq_of_beq hp, List.take_append_drop]
    generalize p.take (p.length - 4) = m at e
    rw [e, run_append]
    show run (run all1 m) [UInt8.ofNat ((sum m).toNat / 256 ^ 0), UInt8.ofNat ((sum m).toNat / 256 ^ 1), UInt8.ofNat ((sum m).toNat / 256 ^ 2), UInt8.ofNat ((sum m).toNat / 256 ^ 3)] = _
    rw [run4, Nat.pow_zero, Nat.div_one, Nat.pow_one, word4_leB, BitVec.ofNat_toNat, BitVec.setWidth_eq]
    congr 1
    show run all1 m ^^^ (run all1 m ^^^ all1) = all1
    rw [← BitVec.xor_assoc, BitVec.xor_self, BitVec.zero_xor]
  · exact absurd hp (by decide)

def chg (s : Bytes) (by_ : Nat → UInt8) (a : Nat) : Nat → Bytes
  | 0 => s
  | k + 1 => (chg s by_ a k).set (a + k) ((chg s by_ a k).getD (a + k) 0 ^^^ by_ k)
def chd (by_ : Nat → UInt8) : Nat → Bool
  | 0 => false
  | k + 1 => chd by_ k || by_ k != 0
theorem chg_len (s : Bytes) (b : Nat → UInt8) (a : Nat) : ∀ k, (chg s b a k).length = s.length
  | 0 => rfl
  | k + 1 => by rw [chg, List.length_set, chg_len s b a k]
theorem set_at (l r : Bytes) (x y : UInt8) (n : Nat) (h : n = l.length) : (l ++ x :: r).set n y = l ++ y :: r := by subst h; simp
theorem getD_at (l r : Bytes) (x : UInt8) (n : Nat) (h : n = l.length) : (l ++ x :: r).getD n 0 = x := by subst h; simp
theorem chg4 (l r : Bytes) (x0 x1 x2 x3 : UInt8) (b : Nat → UInt8) : chg (l ++ x0 :: x1 :: x2 :: x3 :: r) b l.length 4 = l ++ (x0 ^^^ b 0) :: (x1 ^^^ b 1) :: (x2 ^^^ b 2) :: (x3 ^^^ b 3) :: r := by
  have e1 : chg (l ++ x0 :: x1 :: x2 :: x3 :: r) b l.length 1 = l ++ (x0 ^^^ b 0) :: x1 :: x2 :: x3 :: r := by
    show (l ++ x0 :: x1 :: x2 :: x3 :: r).set (l.length + 0) ((l ++ x0 :: x1 :: x2 :: x3 :: r).getD (l.length + 0) 0 ^^^ b 0) = _
    rw [getD_at _ _ _ _ (Nat.add_zero _), set_at _ _ _ _ _ (Nat.add_zero _)]
  have e2 : chg (l ++ x0 :: x1 :: x2 :: x3 :: r) b l.length 2 = (l ++ [x0 ^^^ b 0]) ++ (x1 ^^^ b 1) :: x2 :: x3 :: r := by
    rw [chg, e1, show l ++ (x0 ^^^ b 0) :: x1 :: x2 :: x3 :: r = (l ++ [x0 ^^^ b 0]) ++ x1 :: x2 :: x3 :: r by simp]
    rw [getD_at _ _ _ _ (by simp), set_at _ _ _ _ _ (by simp)]
  have e3 : chg (l ++ x0 :: x1 :: x2 :: x3 :: r) b l.length 3 = (l ++ [x0 ^^^ b 0, x1 ^^^ b 1]) ++ (x2 ^^^ b 2) :: x3 :: r := by
    rw [chg, e2, show (l ++ [x0 ^^^ b 0]) ++ (x1 ^^^ b 1) :: x2 :: x3 :: r = (l ++ [x0 ^^^ b 0, x1 ^^^ b 1]) ++ x2 :: x3 :: r by simp]
    rw [getD_at _ _ _ _ (by simp), set_at _ _ _ _ _ (by simp)]
  rw [chg, e3, show (l ++ [x0 ^^^ b 0, x1 ^^^ b 1]) ++ (x2 ^^^ b 2) :: x3 :: r = (l ++ [x0 ^^^ b 0, x1 ^^^ b 1, x2 ^^^ b 2]) ++ x3 :: r by simp]
  rw [getD_at _ _ _ _ (by simp), set_at _ _ _ _ _ (by simp)]
  simp
theorem xorL_self : ∀ l : Bytes, xorL l l = List.replicate l.length 0
  | [] => rfl
  | x :: r => by
    show (x ^^^ x) :: xorL r r = _
    rw [xorL_self r, UInt8.xor_self]; rfl
theorem xorL_app : ∀ (l l' r r' : Bytes), l.length = l'.length → xorL (l ++ r) (l' ++ r') = xorL l l' ++ xorL r r'
  | [], [], r, r', _ => rfl
  | x :: l, y :: l', r, r', h => by
    show (x ^^^ y) :: xorL (l ++ r) (l' ++ r') = _
    rw [xorL_app l l' r r' (by simpa using h)]; rfl
  | [], _ :: _, _, _, h => by simp at h
  | _ :: _, [], _, _, h => by simp at h
theorem xor_back (x b : UInt8) : x ^^^ (x ^^^ b) = b := by rw [← UInt8.xor_assoc, UInt8.xor_self, UInt8.zero_xor]

theorem chd_all {b : Nat → UInt8} (h0 : b 0 = 0) (h1 : b 1 = 0) (h2 : b 2 = 0) (h3 : b 3 = 0) : chd b 4 = false := by
  unfold chd chd chd chd chd; rw [h0, h1, h2, h3]; rfl
theorem chd_none {b : Nat → UInt8} (h : chd b 4 = false) : b 0 = 0 ∧ b 1 = 0 ∧ b 2 = 0 ∧ b 3 = 0 := by
  unfold chd chd chd chd chd at h
  simp only [Bool.or_eq_false_iff, bne_eq_false_iff_eq] at h
  exact ⟨h.1.1.1.2, h.1.1.2, h.1.2, h.2⟩

theorem few_whole {s : Bytes} (hs : wholeB s = true) (hl : s.length = 256) (b : Nat → UInt8) {a : Nat} (ha : a ≤ 252) (hp : wholeB (chg s b a 4) = true) : b 0 = 0 ∧ b 1 = 0 ∧ b 2 = 0 ∧ b 3 = 0 := by
  obtain ⟨l, r, x0, x1, x2, x3, rfl, rfl⟩ : ∃ l r x0 x1 x2 x3, s = l ++ x0 :: x1 :: x2 :: x3 :: r ∧ a = l.length := by
    have h1 : (s.drop a).length = 256 - a := by rw [List.length_drop, hl]
    match hd : s.drop a, h1 with
    | x0 :: x1 :: x2 :: x3 :: r, _ => exact ⟨s.take a, r, x0, x1, x2, x3, by rw [← hd, List.take_append_drop], by rw [List.length_take]; omega⟩
    | [], h => simp at h; omega
    | [_], h => simp at h; omega
    | [_, _], h => simp at h; omega
    | [_, _, _], h => simp at h; omega
  have h1 := run_whole hs
  have h2 := run_whole hp
  rw [chg4] at h2
  have h3 := run_diff (l ++ x0 :: x1 :: x2 :: x3 :: r) (l ++ (x0 ^^^ b 0) :: (x1 ^^^ b 1) :: (x2 ^^^ b 2) :: (x3 ^^^ b 3) :: r) all1 all1 (by simp)
  rw [h1, h2, BitVec.xor_self, BitVec.xor_self, xorL_app _ _ _ _ rfl, xorL_self] at h3
  have e : xorL (x0 :: x1 :: x2 :: x3 :: r) ((x0 ^^^ b 0) :: (x1 ^^^ b 1) :: (x2 ^^^ b 2) :: (x3 ^^^ b 3) :: r) = [b 0, b 1, b 2, b 3] ++ List.replicate r.length 0 := by
    show (x0 ^^^ (x0 ^^^ b 0)) :: (x1 ^^^ (x1 ^^^ b 1)) :: (x2 ^^^ (x2 ^^^ b 2)) :: (x3 ^^^ (x3 ^^^ b 3)) :: xorL r r = _
    rw [xor_back, xor_back, xor_back, xor_back, xorL_self]; rfl
  rw [e, ← List.append_assoc] at h3
  exact run_burst h3.symm

end Go.Proofs.YtinfbclgkghgaaaGreat.AL

/- The layer 11 (ring), plain: what a fault does to a device of which no write goes wrong; a damaged sector tells nothing. -/
namespace Go.Proofs.YtinfbclgkghgaaaGreat.AL
open Go Go.Proofs Go.Proofs.YtinfbclgkghgaaaGreat.AL.Crc

theorem LiveP.mono {D : Dev} {N b c : Nat} (h : LiveP D N b) (hc : b ≤ c) : LiveP D N c := ⟨h.ok.mono hc, h.dead, h.waits, h.len, h.well⟩
theorem CleanP.mono {D : Dev} {N b c : Nat} (h : CleanP D N b) (hc : b ≤ c) : CleanP D N c := ⟨h.ok.mono hc, h.dead, h.armed, h.waits, h.len, h.well⟩
def hitC (f : Flt) (c : Cell) : Cell := if f.kind = 1 then { c with s := rotB f c.s 4 } else if f.kind = 2 then { c with s := zeros, lost := false } else { c with lost := true }
theorem faultP {D : Dev} {N b : Nat} {f : Flt} (h : CleanP D N b) (h0 : 0 ≤ f.at_) (h1 : f.at_ < (N : Int)) (k1 : 1 ≤ f.kind) (k3 : f.kind ≤ 3) (o0 : 0 ≤ f.off) (o1 : f.off < 256) :
    ∃ E, D.fault f = (0, E) ∧ CleanP E N (b + 1) ∧ E.cells = D.cells.modify f.at_.toNat (hitC f) := by
  have hok := h.ok.fault f
  have hh : D.has f.at_ = true := by
    have := hasP h.len (k := f.at_.toNat) (by omega)
    rwa [show ((f.at_.toNat : Nat) : Int) = f.at_ by omega] at this
  have hm : D.may f = 0 := by
    unfold Dev.may
    rw [hh]
    simp only
    rw [decide_eq_false (show ¬ f.kind < 1 by omega), decide_eq_false (show ¬ f.kind > 5 by omega), decide_eq_false (show ¬ f.off < 0 by omega), decide_eq_false (show ¬ f.off ≥ 256 by omega), show (f.kind == 4) = false from beq_eq_false_iff_ne.mpr (by omega), show (f.kind == 5) = false from beq_eq_false_iff_ne.mpr (by omega)]
    simp
  have hs : D.settle f.at_ = D := by
    unfold Dev.settle; rw [h.waits]
    obtain ⟨c, w, ar, de, le, op⟩ := D
    have hw : w = [] := h.waits
    subst hw; rfl
  have e : D.fault f = (0, D.upd f.at_ (hitC f)) := by
    unfold Dev.fault; rw [hm]
    show (0, D.hurt f) = _
    unfold Dev.hurt
    rw [hs]
    have hk : f.kind = 1 ∨ f.kind = 2 ∨ f.kind = 3 := by omega
    rcases hk with k | k | k
    · rw [if_pos k]
      congr 2
      funext c
      unfold hitC; rw [if_pos k]
    · rw [if_neg (by omega), if_pos k]
      congr 2
      funext c
      unfold hitC; rw [if_neg (by omega), if_pos k]
    · rw [if_neg (by omega), if_neg (by omega), if_pos k]
      congr 2
      funext c
      unfold hitC; rw [if_neg (by omega), if_neg (by omega)]
  rw [e] at hok
  refine ⟨_, e, ⟨hok, h.dead, h.armed, h.waits, (List.length_modify ..).trans h.len, ?_⟩, rfl⟩
  intro c hc
  have hc : c ∈ D.cells.modify f.at_.toNat (hitC f) := hc
  obtain ⟨i, hi⟩ := List.getElem?_of_mem hc
  rw [List.getElem?_modify] at hi
  cases hx : D.cells[i]? with
  | none => rw [hx] at hi; simp at hi
  | some c0 =>
    rw [hx] at hi
    have hw := h.well c0 (List.mem_of_getElem? hx)
    have hi : some (if f.at_.toNat = i then hitC f c0 else c0) = some c := hi
    have hi := Option.some.inj hi
    subst hi
    split
    · unfold hitC
      split
      · exact hw
      · split
        · exact hw
        · exact hw
    · exact hw

theorem open_zeros : (openB zeros).2 ≠ 0 := by
  have hk : (blkOf zeros).sld.2 = 1 := by decide +kernel
  intro h
  unfold openB at h
  split at h
  · exact absurd h (by decide)
  · split at h
    · exact absurd h (by decide)
    · rw [hk] at h
      exact absurd h (by decide)
theorem rotB_chg (f : Flt) (s : Bytes) (hl : s.length = 256) (h0 : 0 ≤ f.off) (h1 : f.off ≤ 252) : ∀ k, k ≤ 4 → rotB f s k = chg s f.m f.off.toNat k
  | 0, _ => rfl
  | k + 1, hk => by
    unfold rotB chg
    rw [rotB_chg f s hl h0 h1 k (by omega), hl, decide_eq_true (show f.off + (k : Int) < ((256 : Nat) : Int) by omega)]
def cellS (c : Cell) : Bytes := match c.lost with | true => [] | false => c.s
theorem hit_bad {f : Flt} {s : Bytes} (hw : wholeB s = true) (hl : s.length = 256) (k1 : 1 ≤ f.kind) (k3 : f.kind ≤ 3) (o0 : 0 ≤ f.off) (o1 : f.off ≤ 252) (hm : f.kind = 1 → chd f.m 4 = true) : (openB (cellS (hitC f (fine s)))).2 ≠ 0 := by
  have hk : f.kind = 1 ∨ f.kind = 2 ∨ f.kind = 3 := by omega
  rcases hk with k | k | k
  · unfold hitC
    rw [if_pos k]
    show (openB (rotB f s 4)).2 ≠ 0
    rw [rotB_chg f s hl o0 o1 4 (Nat.le_refl _)]
    have hn : wholeB (chg s f.m f.off.toNat 4) = false := by
      cases hq : wholeB (chg s f.m f.off.toNat 4) with
      | false => rfl
      | true =>
        obtain ⟨b0, b1, b2, b3⟩ := few_whole hw hl f.m (by omega) hq
        have := hm k
        rw [chd_all b0 b1 b2 b3] at this
        exact absurd this (by decide)
    have ho : (openB (chg s f.m f.off.toNat 4)).2 = 7 := by
      unfold openB
      rw [chg_len, hl, hn]; rfl
    rw [ho]; decide
  · unfold hitC
    rw [if_neg (by omega), if_pos k]
    exact open_zeros
  · unfold hitC
    rw [if_neg (by omega), if_neg (by omega)]
    show (openB []).2 ≠ 0
    decide
theorem bad_told {s : Bytes} (h : (openB s).2 ≠ 0) (vol : Int) (g : GeoV) (m slot : Int) : (toldP s vol g m slot).2 = false := by
  unfold toldP
  rw [show ((openB s).2 != 0) = true from bne_iff_ne.mpr h]; rfl
theorem bad_clean {s : Bytes} (h : (openB s).2 ≠ 0) (vol : Int) (g : GeoV) (m slot : Int) : cleanM vol g m slot s = false := by
  unfold cleanM
  rw [show ((openB s).2 == 0) = false from beq_eq_false_iff_ne.mpr h]; rfl
theorem cellB_cellS (D : Dev) (k : Nat) {c : Cell} (h : D.cells[k]? = some c) : cellB D k = cellS c := by
  unfold cellB cellS; rw [h]; rfl

theorem free_whole {v : Int} (hv : wordB v = true) {k : Nat} (hk : k ≤ 4294967295) : wholeB (freeS v k) = true ∧ (freeS v k).length = 256 := by
  obtain ⟨e1, _, e3⟩ := freeS_len v hv k hk
  exact ⟨by rw [e1]; exact whole_seal _, e3⟩
theorem sector_whole {p : Pc} {vol : Int} {g : GeoV} {m : Int} (hp : p.may = true) (hg : g.may = true) (hv : wordB vol = true) (m0 : 0 ≤ m) (m2 : m < 2) : wholeB (p.sector vol g m).1 = true ∧ (p.sector vol g m).1.length = 256 :=
  ⟨by rw [(sectorP_ok hp hg hv m0 m2).1]; exact whole_seal _, sector_len hp hg hv m0 m2⟩
/-- Each sector of the log is whole. -/
theorem CellsP.whole {vol : Int} {g : GeoV} {s0 : Int} {P : List Pc} {cs : List Cell} (h : CellsP vol g s0 P cs) (hg : g.may = true) (hv : wordB vol = true) (hp : ∀ (i : Nat) (p : Pc), P[i]? = some p → p.may = true) {k m : Int} (k0 : 0 ≤ k) (k1 : k < g.w) (hm : m = 0 ∨ m = 1) :
    ∃ s, cs[(addrB g m k).toNat]? = some (fine s) ∧ wholeB s = true ∧ s.length = 256 := by
  obtain ⟨g1, g2, _⟩ := g.of_may hg
  by_cases e : ∃ i : Nat, i < P.length ∧ slotOf g s0 i = k
  · obtain ⟨i, hi, rfl⟩ := e
    obtain ⟨a, b⟩ := sector_whole (hp i _ (List.getElem?_eq_getElem hi)) hg hv (m := m) (by omega) (by omega)
    exact ⟨_, h.used i _ (List.getElem?_eq_getElem hi) m hm, a, b⟩
  · have hk : (addrB g m k).toNat ≤ 4294967295 := by
      rcases hm with rfl | rfl
      · rw [addr0]; omega
      · rw [addr1]; omega
    obtain ⟨a, b⟩ := free_whole hv hk
    exact ⟨_, h.free k m k0 k1 hm fun i hi he => e ⟨i, hi, he⟩, a, b⟩

/-- Of each slot which sector is damaged: the devices, one behind the other. -/
abbrev hurtF (f : Flt) (g : GeoV) (x : Int) (i : Nat) : Flt := { f with at_ := 4 + (x - 1) * g.w + i, n := 0, to := 0 }
def hurtK (f : Flt) (g : GeoV) (h : List Int) (D : Dev) : Nat → Dev
  | 0 => D
  | i + 1 => match h[i]? with
    | some x => match (x == 1) || (x == 2) with
      | true => ((hurtK f g h D i).fault (hurtF f g x i)).2
      | false => hurtK f g h D i
    | none => hurtK f g h D i
def hurtX (h : List Int) (k : Nat) (j : Int) (m : Int) : Bool := decide (j < k) && (h[j.toNat]? == some (m + 1))
theorem hurtP {D : Dev} {b : Nat} {g : GeoV} {f : Flt} (hg : g.may = true) (h : CleanP D g.secs b) (k1 : 1 ≤ f.kind) (k3 : f.kind ≤ 3) (o0 : 0 ≤ f.off) (o1 : f.off < 256) (hh : List Int) : ∀ k : Nat, (k : Int) ≤ g.w →
    CleanP (hurtK f g hh D k) g.secs (b + k) ∧ ∀ j m : Int, 0 ≤ j → j < g.w → (m = 0 ∨ m = 1) → (hurtK f g hh D k).cells[(addrB g m j).toNat]? = (match hurtX hh k j m with | true => (D.cells[(addrB g m j).toNat]?).map (hitC (hurtF f g (m + 1) j.toNat)) | false => D.cells[(addrB g m j).toNat]?)
  | 0, _ => by
    refine ⟨h, fun j m j0 j1 hm => ?_⟩
    unfold hurtX
    rw [decide_eq_false (show ¬ j < ((0 : Nat) : Int) by omega)]; rfl
  | k + 1, hk => by
    obtain ⟨c, r⟩ := hurtP hg h k1 k3 o0 o1 hh k (by omega)
    obtain ⟨_, _, q⟩ := secs_le hg
    obtain ⟨g1, _⟩ := g.of_may hg
    have keep : ∀ (E : Dev), CleanP E g.secs (b + k) → CleanP E g.secs (b + (k + 1)) := fun E c => ⟨⟨c.ok.at_, c.ok.ws, c.ok.cs, c.ok.mt, fun x hx => by have := c.ok.ml x hx; omega, by have := c.ok.wl; omega⟩, c.dead, c.armed, c.waits, c.len, c.well⟩
    have still : ∀ j m : Int, (j ≠ k ∨ hh[k]? ≠ some (m + 1)) → 0 ≤ j → hurtX hh (k + 1) j m = hurtX hh k j m := by
      intro j m hj j0
      unfold hurtX
      by_cases e : j = k
      · have h2 : hh[j.toNat]? ≠ some (m + 1) := by
          rw [e, Int.toNat_natCast]
          rcases hj with hj | hj
          · exact absurd e hj
          · exact hj
        rw [show (hh[j.toNat]? == some (m + 1)) = false from beq_eq_false_iff_ne.mpr h2, Bool.and_false, Bool.and_false]
      · by_cases e2 : j < (k : Int)
        · rw [decide_eq_true e2, decide_eq_true (show j < ((k + 1 : Nat) : Int) by omega)]
        · rw [decide_eq_false e2, decide_eq_false (show ¬ j < ((k + 1 : Nat) : Int) by omega)]
    cases hx : hh[k]? with
    | none =>
      have e : hurtK f g hh D (k + 1) = hurtK f g hh D k := by rw [hurtK, hx]
      rw [e]
      exact ⟨keep _ c, fun j m j0 j1 hm => by rw [still j m (.inr (by rw [hx]; simp)) j0]; exact r j m j0 j1 hm⟩
    | some x =>
      cases hc : (x == 1) || (x == 2) with
      | false =>
        have e : hurtK f g hh D (k + 1) = hurtK f g hh D k := by
          rw [hurtK, hx]; simp only; rw [hc]
        rw [e]
        refine ⟨keep _ c, fun j m j0 j1 hm => ?_⟩
        rw [still j m (.inr ?_) j0]
        · exact r j m j0 j1 hm
        · rw [hx]
          intro he
          have he := Option.some.inj he
          rw [he] at hc
          rcases hm with rfl | rfl <;> exact absurd hc (by decide)
      | true =>
        have hx12 : x = 1 ∨ x = 2 := by
          rw [Bool.or_eq_true, beq_iff_eq, beq_iff_eq] at hc; exact hc
        have hat : (hurtF f g x k).at_ = addrB g (x - 1) k := rfl
        have a0 : 0 ≤ addrB g (x - 1) k ∧ addrB g (x - 1) k < (g.secs : Int) := by
          rcases hx12 with rfl | rfl
          · rw [show (1 : Int) - 1 = 0 from rfl, addr0]; omega
          · rw [show (2 : Int) - 1 = 1 from rfl, addr1]; omega
        obtain ⟨E, e1, e2, e3⟩ := faultP (f := hurtF f g x k) c a0.1 a0.2 k1 k3 o0 o1
        have e : hurtK f g hh D (k + 1) = E := by
          rw [hurtK, hx]; simp only; rw [hc]; simp only; rw [e1]
        rw [e]
        refine ⟨e2, fun j m j0 j1 hm => ?_⟩
        rw [e3, hat, List.getElem?_modify]
        by_cases ej : j = k ∧ m = x - 1
        · obtain ⟨rfl, rfl⟩ := ej
          have hX : hurtX hh (k + 1) k (x - 1) = true := by
            unfold hurtX
            rw [decide_eq_true (show (k : Int) < ((k + 1 : Nat) : Int) by omega), Int.toNat_natCast, hx, show x - 1 + 1 = x by omega]; simp
          have hX0 : hurtX hh k k (x - 1) = false := by
            unfold hurtX
            rw [decide_eq_false (show ¬ (k : Int) < ((k : Nat) : Int) by omega)]; rfl
          rw [hX, r k (x - 1) j0 j1 hm, hX0, Int.toNat_natCast, show x - 1 + 1 = x by omega]
          show (fun a => if (addrB g (x - 1) k).toNat = (addrB g (x - 1) k).toNat then hitC (hurtF f g x k) a else a) <$> D.cells[(addrB g (x - 1) ↑k).toNat]? = _
          simp
        · have hne : ¬ (addrB g (x - 1) k).toNat = (addrB g m j).toNat := by
            rcases hx12 with rfl | rfl <;> rcases hm with rfl | rfl
            · rw [show (1 : Int) - 1 = 0 from rfl, addr0, addr0]
              have : j ≠ k := fun e => ej ⟨e, rfl⟩
              omega
            · rw [show (1 : Int) - 1 = 0 from rfl, addr0, addr1]; omega
            · rw [show (2 : Int) - 1 = 1 from rfl, addr0, addr1]; omega
            · rw [show (2 : Int) - 1 = 1 from rfl, addr1, addr1]
              have : j ≠ k := fun e => ej ⟨e, rfl⟩
              omega
          rw [still j m ?_ j0, ← r j m j0 j1 hm]
          · cases (hurtK f g hh D k).cells[(addrB g m j).toNat]? with
            | none => rfl
            | some c => show some (if _ then _ else _) = _; rw [if_neg hne]
          · by_cases e : j = k
            · right
              rw [hx]
              intro he
              have he := Option.some.inj he
              exact ej ⟨e, by omega⟩
            · exact .inl e
end Go.Proofs.YtinfbclgkghgaaaGreat.AL

/- The layer 11 (ring), plain: what is told behind damage. -/
namespace Go.Proofs.YtinfbclgkghgaaaGreat.AL
open Go Go.Proofs Go.Proofs.YtinfbclgkghgaaaGreat.AL.Crc

/-- One sector of each slot at most is damaged: all is told. -/
theorem left_P {R : Rg} {D : Dev} {b : Nat} {s0 c0 : Int} {Q : List (List Pc)} (h : LogP R D b s0 c0 Q.flatten) (hQ : ∀ s ∈ Q, SegP s) (hc : wordB c0 = true) {f : Flt} (k1 : 1 ≤ f.kind) (k3 : f.kind ≤ 3) (o0 : 0 ≤ f.off) (o1 : f.off ≤ 252) (hm : f.kind = 1 → chd f.m 4 = true) (hh : List Int) {n : Nat} (hn : (n : Int) ≤ R.g.w) :
    followB R.vol R.g (load0 (hurtK f R.g hh D n) R.g).1 (load1 (hurtK f R.g hh D n) R.g).1 s0 c0 = (⟨Q.map catB, R.next, R.chain, epQ Q R.epoch⟩, 0) ∧ CleanP (hurtK f R.g hh D n) R.g.secs (b + n) := by
  obtain ⟨c, r⟩ := hurtP h.ok.g h.clean k1 k3 o0 (by omega) hh n hn
  refine ⟨load_told h hQ hc c fun k k0 kw => ?_, c⟩
  have key : ∀ m : Int, (m = 0 ∨ m = 1) → (hurtX hh n k m = false → cellB (hurtK f R.g hh D n) (addrB R.g m k).toNat = cB D.cells (addrB R.g m k).toNat) ∧ (cellB (hurtK f R.g hh D n) (addrB R.g m k).toNat = cB D.cells (addrB R.g m k).toNat ∨ (toldP (cellB (hurtK f R.g hh D n) (addrB R.g m k).toNat) R.vol R.g m k).2 = false) := by
    intro m hm2
    obtain ⟨s, e1, e2, e3⟩ := h.cells.whole h.ok.g h.ok.vol (fun i p hi => (h.chain.may i p hi).1) k0 kw hm2
    have hr := r k m k0 kw hm2
    cases hX : hurtX hh n k m with
    | false =>
      rw [hX] at hr
      have := cell_same e1 hr
      exact ⟨fun _ => this, .inl this⟩
    | true =>
      refine ⟨fun h => absurd h (by decide), .inr ?_⟩
      rw [hX, e1] at hr
      rw [cellB_cellS _ _ hr]
      exact bad_told (hit_bad e2 e3 k1 k3 o0 o1 hm) _ _ _ _
  refine ⟨(key 0 (.inl rfl)).2, (key 1 (.inr rfl)).2, ?_⟩
  cases hX : hurtX hh n k 0 with
  | false => exact .inl ((key 0 (.inl rfl)).1 hX)
  | true =>
    refine .inr ((key 1 (.inr rfl)).1 ?_)
    unfold hurtX at hX ⊢
    rw [Bool.and_eq_true, beq_iff_eq] at hX
    rw [hX.2]
    exact Bool.and_false _

/-- Where a piece that is needed is not told at all. -/
theorem goL_torn {vol : Int} {g : GeoV} {epoch frm s0 c0 : Int} {P : List Pc} {a b : List Bytes} (hch : Chain vol g epoch frm s0 c0 P) (he : 0 ≤ epoch) {w : Nat} (hw : w < P.length)
    (ht : ∀ (i : Nat) (p : Pc), i < w → P[i]? = some p → cand1 vol g 0 a (s0 + i) = [p] ∧ cand1 vol g 1 b (s0 + i) = [p]) (hs0 : cand1 vol g 0 a (s0 + w) = []) (hs1 : cand1 vol g 1 b (s0 + w) = []) (hcl : cleanB vol g a b (slotOf g s0 w) = false) :
    ∀ (n i : Nat) (S : RdS), i ≤ w → (n : Int) = g.w - i → (P.length : Int) ≤ g.w → S.sum = sumAt vol g c0 P i → (i = 0 → S.some_ = false ∧ S.last.epoch = 0) → (0 < i → S.some_ = true ∧ S.last.epoch = epoch ∧ S.last.frm = frm) →
      (goL vol g a b n (s0 + i) S).2 = true
  | 0, i, S, hi, hn, hP, _, _, _ => by omega
  | n + 1, i, S, hi, hn, hP, hs, h0, h1 => by
    by_cases hlt : i < w
    · have hx := List.getElem?_eq_getElem (show i < P.length by omega)
      generalize P[i] = p at hx
      obtain ⟨m1, m2, m3, m4, m5⟩ := hch.may i p hx
      obtain ⟨t1, t2⟩ := ht i p hlt hx
      have hf : fitsS S p = true := by
        unfold fitsS
        rw [m5, hs, show ((sumAt vol g c0 P i) != (sumAt vol g c0 P i)) = false by simp, Bool.false_or, m3]
        rcases Nat.eq_zero_or_pos i with hi0 | hi0
        · obtain ⟨q1, q2⟩ := h0 hi0
          rw [q1, q2, decide_eq_false (show ¬ epoch < 0 by omega)]; rfl
        · obtain ⟨q1, q2, q3⟩ := h1 hi0
          rw [q1, q2, q3, m4, decide_eq_false (show ¬ epoch < epoch by omega)]
          simp
      have hpk : pickS S (cands vol g a b (s0 + i)) = some p := pick_same S p hf (.inl t1) (.inl t2) (by rw [t1]; simp)
      unfold goL
      rw [hpk]
      have ih := goL_torn hch he hw ht hs0 hs1 hcl n (i + 1) ⟨p, true, sumP vol g p, false⟩ (by omega) (by omega) hP (by have e : sumAt vol g c0 P (i + 1) = sumP vol g p := (by show (match P[i]? with | some p => sumP vol g p | none => c0) = _; rw [hx]); exact e.symm) (fun h => absurd h (by omega)) (fun _ => ⟨rfl, m3, m4⟩)
      rw [show s0 + ((i + 1 : Nat) : Int) = s0 + (i : Int) + 1 by omega] at ih
      exact ih
    · have hi2 : i = w := by omega
      have hc : cands vol g a b (s0 + i) = [] := by unfold cands; rw [hi2, hs0, hs1]; rfl
      unfold goL
      rw [hc, hi2]
      show (([] : List Pc).isEmpty && !cleanB vol g a b (slotOf g s0 w)) = _
      rw [hcl]; rfl

abbrev loseA (a : Int) : Flt := ⟨3, a, 0, 0, 0, 0, 0, 0, 0⟩
abbrev blankA (a : Int) : Flt := ⟨2, a, 0, 0, 0, 0, 0, 0, 0⟩
/-- Both sectors of a slot that is needed are damaged. -/
theorem both_P {R : Rg} {D : Dev} {b : Nat} {c0 : Int} {P : List Pc} (h : LogP R D b 0 c0 P) (hc : wordB c0 = true) {w : Nat} (hw : w < P.length) :
    ∃ E F, D.fault (loseA (4 + w)) = (0, E) ∧ E.fault (blankA (4 + R.g.w + w)) = (0, F) ∧ CleanP E R.g.secs (b + 1) ∧ CleanP F R.g.secs (b + 2) ∧ followB R.vol R.g (load0 F R.g).1 (load1 F R.g).1 0 c0 = (TailV.zero, 22) := by
  have hl := h.len
  obtain ⟨_, _, q⟩ := secs_le h.ok.g
  obtain ⟨g1, _⟩ := R.g.of_may h.ok.g
  obtain ⟨E, e1, e2, e3⟩ := faultP (f := loseA (4 + w)) h.clean (by show (0 : Int) ≤ 4 + w; omega) (by show 4 + (w : Int) < _; omega) (by show (1 : Int) ≤ 3; decide) (by show (3 : Int) ≤ 3; decide) (Int.le_refl 0) (by show (0 : Int) < 256; decide)
  obtain ⟨F, f1, f2, f3⟩ := faultP (f := blankA (4 + R.g.w + w)) e2 (by show (0 : Int) ≤ 4 + R.g.w + w; omega) (by show 4 + R.g.w + (w : Int) < _; omega) (by show (1 : Int) ≤ 2; decide) (by show (2 : Int) ≤ 3; decide) (Int.le_refl 0) (by show (0 : Int) < 256; decide)
  refine ⟨E, F, e1, f1, e2, f2, ?_⟩
  have cells : ∀ k m : Int, 0 ≤ k → k < R.g.w → (m = 0 ∨ m = 1) → (k ≠ w → cellB F (addrB R.g m k).toNat = cB D.cells (addrB R.g m k).toNat) ∧ (k = w → (openB (cellB F (addrB R.g m k).toNat)).2 ≠ 0) := by
    intro k m k0 k1 hm
    obtain ⟨s, s1, s2, s3⟩ := h.cells.whole h.ok.g h.ok.vol (fun i p hi => (h.chain.may i p hi).1) k0 k1 hm
    have hF : F.cells[(addrB R.g m k).toNat]? = some (if (4 + R.g.w + (w : Int)).toNat = (addrB R.g m k).toNat then hitC (blankA (4 + R.g.w + w)) (if (4 + (w : Int)).toNat = (addrB R.g m k).toNat then hitC (loseA (4 + w)) (fine s) else fine s) else (if (4 + (w : Int)).toNat = (addrB R.g m k).toNat then hitC (loseA (4 + w)) (fine s) else fine s)) := by
      rw [f3, List.getElem?_modify, e3, List.getElem?_modify, s1]; rfl
    refine ⟨fun hk => ?_, fun hk => ?_⟩
    · have n1 : ¬ (4 + R.g.w + (w : Int)).toNat = (addrB R.g m k).toNat := by
        rcases hm with rfl | rfl
        · rw [addr0]; omega
        · rw [addr1]; omega
      have n2 : ¬ (4 + (w : Int)).toNat = (addrB R.g m k).toNat := by
        rcases hm with rfl | rfl
        · rw [addr0]; omega
        · rw [addr1]; omega
      rw [if_neg n1, if_neg n2] at hF
      exact cell_same s1 (hF.trans s1.symm)
    · rw [cellB_cellS _ _ hF]
      rcases hm with rfl | rfl
      · rw [addr0, if_neg (by omega), if_pos (by omega)]
        exact hit_bad s2 s3 (by show (1 : Int) ≤ 3; decide) (by show (3 : Int) ≤ 3; decide) (Int.le_refl 0) (by show (0 : Int) ≤ 252; decide) (fun h => absurd h (by show ¬ (3 : Int) = 1; decide))
      · rw [addr1, if_pos (by omega), if_neg (by omega)]
        exact hit_bad s2 s3 (by show (1 : Int) ≤ 2; decide) (by show (2 : Int) ≤ 3; decide) (Int.le_refl 0) (by show (0 : Int) ≤ 252; decide) (fun h => absurd h (by show ¬ (2 : Int) = 1; decide))
  obtain ⟨l0, l1, _, _⟩ := load_P h.ok.g f2
  have hx : ∀ f : Nat → Bytes, ((((List.range R.g.w.toNat).map f).length : Nat) : Int) = R.g.w := fun f => by rw [List.length_map, List.length_range]; omega
  rw [l0, l1]
  have A : ∀ k : Int, 0 ≤ k → k < R.g.w → atS ((List.range R.g.w.toNat).map (fun (i : Nat) => cellB F (addrB R.g 0 i).toNat)) k = cellB F (addrB R.g 0 k).toNat := fun k k0 k1 => by
    rw [atS_map _ _ k0 (by omega), show ((k.toNat : Nat) : Int) = k by omega]
  have B : ∀ k : Int, 0 ≤ k → k < R.g.w → atS ((List.range R.g.w.toNat).map (fun (i : Nat) => cellB F (addrB R.g 1 i).toNat)) k = cellB F (addrB R.g 1 k).toNat := fun k k0 k1 => by
    rw [atS_map _ _ k0 (by omega), show ((k.toNat : Nat) : Int) = k by omega]
  have X := hx fun (i : Nat) => cellB F (addrB R.g 0 i).toNat
  have Y := hx fun (i : Nat) => cellB F (addrB R.g 1 i).toNat
  generalize (List.range R.g.w.toNat).map (fun (i : Nat) => cellB F (addrB R.g 0 i).toNat) = x at A X
  generalize (List.range R.g.w.toNat).map (fun (i : Nat) => cellB F (addrB R.g 1 i).toNat) = y at B Y
  have hok : logOk R.vol R.g x y 0 c0 = true := by
    unfold logOk
    rw [h.ok.g, h.ok.vol, hc, X, Y]
    simp
    decide
  have hslot : ∀ i : Nat, (i : Int) < R.g.w → slotOf R.g 0 i = i := fun i hi => by
    unfold slotOf
    rw [Int.zero_add, Int.tmod_eq_emod_of_nonneg (by omega), Int.emod_eq_of_lt (by omega) (by omega)]
  have hsw := hslot w (by omega)
  have hsw2 : (0 + (w : Int)).tmod R.g.w = w := hsw
  have t := goL_torn (a := x) (b := y) h.chain h.ok.e.1 hw (fun i p hi hp => by
    obtain ⟨m1, m2, _⟩ := h.chain.may i p hp
    have hsi := hslot i (by omega)
    have hk : p.seq.tmod R.g.w = (i : Int) := by rw [m2]; exact hsi
    have c0 := (cells i 0 (by omega) (by omega) (.inl rfl)).1 (by omega)
    have c1 := (cells i 1 (by omega) (by omega) (.inr rfl)).1 (by omega)
    have u0 := cB_fine (h.cells.used i p hp 0 (.inl rfl))
    have u1 := cB_fine (h.cells.used i p hp 1 (.inr rfl))
    rw [hsi] at u0 u1
    rw [← m2]
    exact ⟨cand1_one m1 h.ok.g h.ok.vol (.inl rfl) (by rw [hk, A _ (by omega) (by omega), c0, u0]), cand1_one m1 h.ok.g h.ok.vol (.inr rfl) (by rw [hk, B _ (by omega) (by omega), c1, u1])⟩)
    (cand1_none (by rw [hsw2, A _ (by omega) (by omega)]; exact bad_told ((cells w 0 (by omega) (by omega) (.inl rfl)).2 rfl) _ _ _ _))
    (cand1_none (by rw [hsw2, B _ (by omega) (by omega)]; exact bad_told ((cells w 1 (by omega) (by omega) (.inr rfl)).2 rfl) _ _ _ _))
    (by
      unfold cleanB
      rw [hsw, A _ (by omega) (by omega), B _ (by omega) (by omega), bad_clean ((cells w 0 (by omega) (by omega) (.inl rfl)).2 rfl), bad_clean ((cells w 1 (by omega) (by omega) (.inr rfl)).2 rfl)]; rfl)
    R.g.w.toNat 0 (rd0 c0) (Nat.zero_le _) (by omega) hl rfl (fun _ => ⟨rfl, rfl⟩) (fun h => absurd h (by omega))
  rw [follow_ref]
  unfold refB
  rw [hok]
  simp only
  have t : (goL R.vol R.g x y R.g.w.toNat 0 (rd0 c0)).2 = true := t
  rw [t]

/-- Transactions are appended, one behind the other. -/
def apsA : List Bytes → List Bytes → Rg → Dev → (List Bytes × Bool) × (Rg × Dev)
  | [], out, R, D => ((out, true), (R, D))
  | x :: r, out, R, D => match ((R.append D x).1 == 4) || ((R.append D x).1 == 2) with
    | true => apsA r out (R.append D x).2.1 (R.append D x).2.2
    | false => match (R.append D x).1 != 0 with
      | true => ((out, false), (R.append D x).2)
      | false => apsA r (out ++ [x]) (R.append D x).2.1 (R.append D x).2.2
theorem aps_P {s0 c0 : Int} : ∀ (l out : List Bytes) (R : Rg) (D : Dev) (b : Nat) (Q : List (List Pc)), LogP R D b s0 c0 Q.flatten → (∀ s ∈ Q, SegP s) → R.start = s0 → out = Q.map catB →
    ∃ (R' : Rg) (D' : Dev) (b' : Nat) (Q' : List (List Pc)), apsA l out R D = ((Q'.map catB, true), (R', D')) ∧ LogP R' D' b' s0 c0 Q'.flatten ∧ (∀ s ∈ Q', SegP s) ∧ R'.g = R.g ∧ R'.vol = R.vol ∧ R'.epoch = R.epoch ∧ R'.start = R.start ∧ b' + 2 * Q.flatten.length = b + 2 * Q'.flatten.length
  | [], out, R, D, b, Q, h, hQ, hs, ho => ⟨R, D, b, Q, by rw [ho]; rfl, h, hQ, rfl, rfl, rfl, rfl, rfl⟩
  | x :: r, out, R, D, b, Q, h, hQ, hs, ho => by
    have hn := h.next
    by_cases h64 : (splitB x).length > 64
    · have e : R.append D x = (2, (R, D)) := by unfold Rg.append; rw [decide_eq_true h64]
      have ea : apsA (x :: r) out R D = apsA r out R D := by unfold apsA; rw [e]; cases r <;> rfl
      rw [ea]
      exact aps_P r out R D b Q h hQ hs ho
    · by_cases hf : R.next + (splitB x).length - R.start > R.g.w ∨ R.next + ((splitB x).length : Int) > 4294967295
      · have e : R.append D x = (4, (R, D)) := by
          unfold Rg.append; rw [decide_eq_false h64]
          simp only
          rw [show (decide (R.next + ((splitB x).length : Int) - R.start > R.g.w) || decide (R.next + ((splitB x).length : Int) > 4294967295)) = true by rw [Bool.or_eq_true, decide_eq_true_eq, decide_eq_true_eq]; exact hf]
        have ea : apsA (x :: r) out R D = apsA r out R D := by unfold apsA; rw [e]; cases r <;> rfl
        rw [ea]
        exact aps_P r out R D b Q h hQ hs ho
      · obtain ⟨E, e1, e2⟩ := append_P h hs x (by omega) (by omega) (by omega)
        obtain ⟨t1, t2⟩ := tx_seg x R
        have tl := mkP_len (splitB x).length (splitB x) 0 R
        obtain ⟨i1, i2, i3, i4, i5, i6⟩ := advR_id (splitB x).length (splitB x) 0 R
        generalize advR (splitB x).length (splitB x) 0 R = R1 at e1 e2 i1 i2 i3 i4 i5 i6
        generalize mkP (splitB x).length (splitB x) 0 R = P1 at e2 t1 t2 tl
        have ea : apsA (x :: r) out R D = apsA r (out ++ [x]) R1 E := by unfold apsA; rw [e1]; cases r <;> rfl
        obtain ⟨R', D', b', Q', g1, g2, g3, g4, g5, g6, g7, g8⟩ := aps_P r (out ++ [x]) R1 E (b + 2 * (splitB x).length) (Q ++ [P1]) (by rw [List.flatten_append, show [P1].flatten = P1 by simp]; exact e2) (fun s hs => by
          rw [List.mem_append, List.mem_singleton] at hs
          rcases hs with hs | rfl
          · exact hQ s hs
          · exact t1) (i5.trans hs) (by rw [ho, List.map_append]; show _ = _ ++ [catB P1]; rw [t2])
        refine ⟨R', D', b', Q', by rw [ea]; exact g1, g2, g3, g4.trans i1, g5.trans i2, g6.trans i3, g7.trans i5, ?_⟩
        rw [List.flatten_append, show [P1].flatten = P1 by simp, List.length_append, tl] at g8
        omega
end Go.Proofs.YtinfbclgkghgaaaGreat.AL

/- The law of layer 11: transactions are appended, as far as may be. -/
namespace Go.Proofs.YtinfbclgkghgaaaGreat.AL
open Go Go.Proofs

theorem nxR_ok {R : Rg} (hR : R.Ok) (p : Pc) (hn : R.next + 1 ≤ 4294967295) : (nxR R p).Ok := by
  obtain ⟨o1, o2, o3, o4, o5, o6, o7⟩ := hR
  refine ⟨o1, o2, o3, ⟨o4.1, ?_⟩, ⟨o5.1, ?_⟩, hn, sumP_word R.vol R.g p⟩
  · show R.frm ≤ R.next + 1; omega
  · show R.start ≤ R.next + 1; omega
theorem appK_ok (n : Int) : ∀ (l : List Bytes) (i : Int) (R : Rg) (D : Dev) (b : Nat), R.Ok → D.Ok b → b + 8 * l.length < 1000000 → R.next + l.length ≤ 4294967295 → (appK n l i R D).2.1.Ok ∧ (appK n l i R D).2.2.Ok (b + 8 * l.length)
  | [], _, R, D, b, hR, hD, _, _ => ⟨hR, hD⟩
  | x :: r, i, R, D, b, hR, hD, hb, hn => by
    rw [List.length_cons] at hb hn
    obtain ⟨ok, k1, k2⟩ := putR_ok hR hD (by omega) (pcR R i n x)
    show (match (putR R D (pcR R i n x)).1 != 0 with
        | true => putR R D (pcR R i n x)
        | false => appK n r (i + 1) (putR R D (pcR R i n x)).2.1 (putR R D (pcR R i n x)).2.2).2.1.Ok ∧ (match (putR R D (pcR R i n x)).1 != 0 with
        | true => putR R D (pcR R i n x)
        | false => appK n r (i + 1) (putR R D (pcR R i n x)).2.1 (putR R D (pcR R i n x)).2.2).2.2.Ok (b + 8 * (x :: r).length)
    generalize putR R D (pcR R i n x) = Y at ok k1 k2
    obtain ⟨e, R2, D2⟩ := Y
    have k1 : e = 0 → R2 = nxR R (pcR R i n x) := k1
    have k2 : e ≠ 0 → R2 = R := k2
    have ok : D2.Ok (b + 8) := ok
    rw [List.length_cons]
    show (match e != 0 with
        | true => ((e, R2, D2) : Int × Rg × Dev)
        | false => appK n r (i + 1) R2 D2).2.1.Ok ∧ (match e != 0 with
        | true => ((e, R2, D2) : Int × Rg × Dev)
        | false => appK n r (i + 1) R2 D2).2.2.Ok (b + 8 * (r.length + 1))
    cases he : e != 0 with
    | true =>
      have he : e ≠ 0 := bne_iff_ne.mp he
      rw [k2 he]
      exact ⟨hR, ok.mono (by omega)⟩
    | false =>
      have he : e = 0 := by simpa using he
      have e2 := k1 he
      have ih := appK_ok n r (i + 1) R2 D2 (b + 8) (by rw [e2]; exact nxR_ok hR _ (by omega)) ok (by omega) (by rw [e2]; show R.next + 1 + _ ≤ _; omega)
      rw [show b + 8 * (r.length + 1) = b + 8 + 8 * r.length by omega]
      exact ih
theorem append_okR {R : Rg} {D : Dev} {b : Nat} (hR : R.Ok) (hD : D.Ok b) (hb : b + 600 < 1000000) (x : Bytes) : (R.append D x).2.1.Ok ∧ (R.append D x).2.2.Ok (b + 600) := by
  unfold Rg.append
  split
  · exact ⟨hR, hD.mono (by omega)⟩
  · rename_i h1
    have h1 := of_decide_eq_false h1
    split
    · exact ⟨hR, hD.mono (by omega)⟩
    · rename_i h2
      rw [Bool.or_eq_false_iff] at h2
      have h2 := of_decide_eq_false h2.2
      obtain ⟨a, c⟩ := appK_ok (splitB x).length (splitB x) 0 R D b hR hD (by omega) (by omega)
      exact ⟨a, c.mono (by omega)⟩
theorem apsA_cons (x : Bytes) (r out : List Bytes) (R : Rg) (D : Dev) {z : Int × Rg × Dev} (h : R.append D x = z) : apsA (x :: r) out R D = match (z.1 == 4) || (z.1 == 2) with
    | true => apsA r out z.2.1 z.2.2
    | false => match z.1 != 0 with
      | true => ((out, false), z.2)
      | false => apsA r (out ++ [x]) z.2.1 z.2.2 := by subst h; rfl

set_option maxHeartbeats 2000000 in
set_option maxRecDepth 20000 in
theorem law11_appended (R : Rg) (D : Dev) (l : List Bytes) (b : Nat) (hR : R.Ok) (hD : D.Ok b) (hb : b + 600 * l.length < 900000) (hl : ∀ s ∈ l, s.length ≤ 1000000) (hll : l.length ≤ 1000) :
    AFm Tryz.prog 3 f_law11_appended [.ref 2 0, .p (.sl 1 (catX l))] (rgH R D) (Pure (.tup [.p (.sl 1 (catX (apsA l [] R D).1.1)), bl (apsA l [] R D).1.2]) (rgH (apsA l [] R D).2.1 (apsA l [] R D).2.2)) := by
  refine AFm.mono (R := fun r H' => ∃ z, z = apsA l [] R D ∧ r = .tup [.p (.sl 1 (catX z.1.1)), bl z.1.2] ∧ H' = rgH z.2.1 z.2.2) ?_ (by rintro r H' ⟨b, rfl, rfl, rfl⟩; exact ⟨rfl, rfl⟩)
  generalize hZ : apsA l [] R D = Z
  have hcl := catX_len l
  refine af_bodyM 3 hT F_law11_appended rfl rfl N_law11_appended rfl rfl ?_
  refine aw_seq (aw_region hT ?_)
  refine aw_cut ⟨⟨38, [(0, .ref 2 0), (1, .p (.sl 1 (catX l))), (6, .msl 5 1 0 0)]⟩, rgH R D ++ [.row t_s_u8 1 []]⟩ True (aw_region hT ?_) (fun _ => ?_)
  · exact ⟨Wk.trans (wk_phantom t_s_u8 1) (Wk.trans (wk_nil 6 5 1 0 rfl) (wk_pick [0, 1, 2, 3, 4, 5] [0, 1, 6] rfl)), trivial⟩
  refine aw_cut2 (fun st => ∃ (R' : Rg) (D' : Dev) (out : List Bytes), ((out, true), (R', D')) = Z ∧ out.length ≤ 1000000 ∧ st = ⟨⟨38, [(6, .msl 5 1 0 (catX out).length)]⟩, rgH R' D' ++ [.row t_s_u8 1 (catX out)]⟩) (aw_seq (aw_region hT ?_)) ?_
  · refine aw_block ?_
    refine aw_loopW (fun n st => ∃ (k : Nat) (j : Int) (R' : Rg) (D' : Dev) (out : List Bytes), n + k = l.length ∧ j = k ∧ R'.Ok ∧ D'.Ok (b + 600 * k) ∧ out.length ≤ k ∧ Z = apsA (l.drop k) out R' D' ∧ st = ⟨⟨38, [(0, .ref 2 0), (1, .p (.sl 1 (catX l))), (6, .msl 5 1 0 (catX out).length), (7, i64 j)]⟩, rgH R' D' ++ [.row t_s_u8 1 (catX out)]⟩) l.length ⟨⟨38, _⟩, _⟩ (wk_pick [0, 1, 2, 3, 4, 5] [0, 1, 6, 7] rfl) ⟨0, 0, R, D, [], rfl, rfl, hR, hD, Nat.le_refl _, hZ.symm, rfl⟩ ?_
    rintro n st ⟨k, j, R', D', out, hnk, hj, hR', hD', ho, hgo, rfl⟩
    have hol := catX_len out
    refine aw_seq (aw_seq (aw_region hT ?_))
    refine aw_cond (boolI (fun h => ?_) (fun h => ?_))
    · have h := of_decide_eq_true (show decide (j < (((catX l).length : Nat) : Int)) = true from h)
      have hk : k < l.length := by omega
      have hx := List.getElem?_eq_getElem hk
      have hxa := hl _ (List.getElem_mem hk)
      have hd := List.drop_eq_getElem_cons hk
      generalize l[k] = s at hx hxa hd
      rw [hd] at hgo
      have hxp : (catX l)[j.toNat]? = some [bP s] := by rw [hj, Int.toNat_natCast]; exact catX_get hx
      have w := Ring_Append R' D' s (b + 600 * k) hR' hD' (by omega) hxa
      obtain ⟨a1, a2⟩ := append_okR hR' hD' (by omega) s
      have hgo2 := fun z hz => hgo.trans (apsA_cons s (l.drop (k + 1)) out R' D' (z := z) hz)
      generalize R'.append D' s = Y at w a1 a2 hgo2
      have hgo2 := hgo2 Y rfl
      obtain ⟨e, R2, D2⟩ := Y
      have a1 : R2.Ok := a1
      have a2 : D2.Ok (b + 600 * k + 600) := a2
      have w : AFm Tryz.prog 3 f_ring_Ring_Append [.ref 2 0, bA s] (rgH R' D') (Pure (i64 e) (rgH R2 D2)) := w
      have hgo2 : Z = match (e == 4) || (e == 2) with
        | true => apsA (l.drop (k + 1)) out R2 D2
        | false => match e != 0 with
          | true => ((out, false), (R2, D2))
          | false => apsA (l.drop (k + 1)) (out ++ [s]) R2 D2 := hgo2
      refine aw_skip ?_
      refine aw_cut2 (fun st => ∃ out2 : List Bytes, out2.length ≤ k + 1 ∧ Z = apsA (l.drop (k + 1)) out2 R2 D2 ∧ st = ⟨⟨38, [(0, .ref 2 0), (1, .p (.sl 1 (catX l))), (6, .msl 5 1 0 (catX out2).length), (7, i64 j)]⟩, rgH R2 D2 ++ [.row t_s_u8 1 (catX out2)]⟩) (aw_block (aw_seq (aw_region hT ?_))) ?_
      · refine ⟨by omega, optI hxp ?_⟩
        refine callP (af_in [0, 1, 2, 3, 4] w rfl rfl rfl) ?_
        refine aw_cut ⟨⟨38, [(0, .ref 2 0), (1, .p (.sl 1 (catX l))), (6, .msl 5 1 0 (catX out).length), (7, i64 j), (8, i64 e)]⟩, rgH R2 D2 ++ [.row t_s_u8 1 (catX out)]⟩ ((e == 4 || e == 2) = false) (aw_seq (aw_region hT ?_)) ?_
        · refine boolI (fun h1 => ?_) (fun h1 => ?_)
          · have h1 : (e == 4) = true := h1
            rw [h1] at hgo2
            refine aw_cond ?_
            refine aw_exit ?_
            exact ⟨_, wk_pick [0, 1, 2, 6, 7, 5] [0, 1, 6, 7] rfl, out, by omega, hgo2, rfl⟩
          · have h1 : (e == 4) = false := h1
            refine aw_cond (boolI (fun h2 => ?_) (fun h2 => ?_))
            · have h2 : (e == 2) = true := h2
              rw [h1, h2] at hgo2
              refine aw_exit ?_
              exact ⟨_, wk_pick [0, 1, 2, 6, 7, 5] [0, 1, 6, 7] rfl, out, by omega, hgo2, rfl⟩
            · have h2 : (e == 2) = false := h2
              exact aw_skip ⟨wk_pick [0, 1, 2, 6, 7, 5] [0, 1, 6, 7, 8] rfl, by rw [h1, h2]; rfl⟩
        intro h1
        rw [h1] at hgo2
        have hgo2 : Z = match e != 0 with
          | true => ((out, false), (R2, D2))
          | false => apsA (l.drop (k + 1)) (out ++ [s]) R2 D2 := hgo2
        refine aw_seq (aw_seq (aw_region hT ?_))
        refine aw_cond (boolI (fun h2 => ?_) (fun h2 => ?_))
        · have h2 : (e != 0) = true := h2
          rw [h2] at hgo2
          refine aw_seq (aw_region hT ?_)
          refine aw_wk (wk_frzE 4 5 _ rfl rfl rfl rfl) ?_
          refine aw_ret ?_
          exact retPick [0, 1, 2, 3, 4] ⟨_, hgo2.symm, rfl, rfl⟩ rfl
        · have h2 : (e != 0) = false := h2
          rw [h2] at hgo2
          refine aw_skip ?_
          refine aw_regionF (fun k => Nat.beq 5 k) hT ?_
          refine ⟨by omega, optI hxp ?_⟩
          refine ⟨⟨rfl, rfl⟩, ?_⟩
          refine ⟨rfl, ⟨?_, ?_⟩, ?_⟩
          · show ((catX out).length + 1) * 24 ≤ _
            omega
          · show (catX out).length + 1 ≤ _
            omega
          exact ⟨_, wk_pick [0, 1, 2, 3, 4, 6] [0, 1, 6, 7] rfl, out ++ [s], by rw [List.length_append, List.length_singleton]; omega, hgo2, by rw [catX_snoc1]; rfl⟩
      · rintro _ ⟨out2, ho2, hz2, rfl⟩
        refine aw_region hT ?_
        refine ⟨n - 1, by omega, _, wk_pick [0, 1, 2, 3, 4, 5] [0, 1, 6, 7] rfl, k + 1, IntKind.i64.wrap (j + 1), R2, D2, out2, by omega, by rw [wrap64 _ (by omega) (by omega)]; omega, a1, by rw [show b + 600 * (k + 1) = b + 600 * k + 600 by omega]; exact a2, ho2, hz2, rfl⟩
    · have h := of_decide_eq_false (show decide (j < (((catX l).length : Nat) : Int)) = false from h)
      rw [List.drop_eq_nil_of_le (by omega)] at hgo
      refine aw_exit ?_
      exact ⟨_, wk_pick [0, 1, 2, 3, 4, 5] [6] rfl, R', D', out, hgo.symm, by omega, rfl⟩
  rintro _ ⟨R', D', out, hz, hol, rfl⟩
  have hcl := catX_len out
  refine aw_seq (aw_region hT ?_)
  refine aw_wk (wk_frzE 4 5 _ rfl rfl rfl rfl) ?_
  refine aw_ret ?_
  exact retPick [0, 1, 2, 3, 4] ⟨_, hz, rfl, rfl⟩ rfl
end Go.Proofs.YtinfbclgkghgaaaGreat.AL

/- The abstract layer, part r: structs of plain fields are compared. -/
namespace Go.Proofs.YtinfbclgkghgaaaGreat.AL
open Go Go.RowKit

variable {P : Program}

def fitB (P : Program) (e : TypeId) (a b : Option Value) : Bool :=
  match P.underlying e, a, b with
  | some (.int _), some (.int k _), some (.int k' _) => k == k'
  | some .bool, some (.bool _), some (.bool _) => true
  | some .string, some (.string _), some (.string _) => true
  | _, _, _ => false

theorem fit_part {e : TypeId} {xs ys : Array Value} {off d : Nat} (w : World) (h : fitB P e xs[off]? ys[off]? = true) :
    ∃ a b r, (part e xs off).run P w = .ok a w ∧ (part e ys off).run P w = .ok b w ∧ (Op.equalIn (d + 1) e a b).run P w = .ok r w ∧ (r = true ↔ xs[off]? = ys[off]?) := by
  unfold fitB at h
  split at h
  · rename_i q k n k' n' hu ha hb
    obtain rfl : k = k' := eq_of_beq h
    exact ⟨.int k n, .int k n', n == n', by simp [part, isAgg, run_underlying hu, ha], by simp [part, isAgg, run_underlying hu, hb], run_equalIn_int w d e k q n n' hu, by rw [ha, hb]; simp⟩
  · rename_i a b hu ha hb
    exact ⟨.bool a, .bool b, a == b, by simp [part, isAgg, run_underlying hu, ha], by simp [part, isAgg, run_underlying hu, hb], run_equalIn_bool w d e a b hu, by rw [ha, hb]; simp⟩
  · rename_i a b hu ha hb
    refine ⟨.string a, .string b, a.toList == b.toList, by simp [part, isAgg, run_underlying hu, ha], by simp [part, isAgg, run_underlying hu, hb], run_equalIn_string w d e a b hu, ?_⟩
    rw [ha, hb]; simp [ByteArray.toList_eq]
    constructor
    · intro h; exact ByteArray.ext h
    · intro h; rw [h]
  · exact absurd h (by simp)

end Go.Proofs.YtinfbclgkghgaaaGreat.AL

/- The abstract layer, part r2: arrays of plain items are compared. -/
namespace Go.Proofs.YtinfbclgkghgaaaGreat.AL
open Go Go.RowKit

variable {P : Program}

theorem fits_items {e : TypeId} {c : Nat} {xs ys : Array Value} (w : World) (d : Nat) : ∀ is : List Nat, (∀ i ∈ is, fitB P e xs[i * c]? ys[i * c]? = true) → ∃ r, (Op.eqItems (d + 1) e c xs ys is).run P w = .ok r w ∧ (r = true ↔ ∀ i ∈ is, xs[i * c]? = ys[i * c]?)
  | [], _ => ⟨true, by simp [Op.eqItems], by simp⟩
  | i :: is, h => by
    obtain ⟨a, b, r, p1, p2, p3, hiff⟩ := fit_part (d := d) w (h i (by simp))
    obtain ⟨r', q1, q2⟩ := fits_items w d is fun j hj => h j (by simp [hj])
    simp only [Op.eqItems, Sem.run_bind, p1, p2, p3, Result.andThen_ok]
    cases r with
    | false => exact ⟨false, by simp, by simp; intro h; exact absurd (hiff.2 h) (by simp)⟩
    | true => exact ⟨r', by simpa using q1, by rw [q2]; simp [hiff.1 rfl]⟩
theorem eq_items {t e : TypeId} {n c : Nat} {i : TypeInfo} {xs ys : Array Value} (xo yo : Operand) (w : World) (hu : P.underlying t = some (.array n e)) (hi : P.info? e = some i) (hc : P.cellsOf e = c) (hg : P.eqGuardType P.depth t = false)
    (h : ∀ i ∈ List.range n, fitB P e xs[i * c]? ys[i * c]? = true) : ∃ r, (binG .eql t xo yo (.agg xs) (.agg ys)).run P w = .ok (.bool r) w ∧ (r = true ↔ ∀ i ∈ List.range n, xs[i * c]? = ys[i * c]?) := by
  obtain ⟨r, h1, h2⟩ := fits_items w 9998 (List.range n) h
  refine ⟨r, ?_, h2⟩
  unfold binG
  rw [Sem.run_bind, run_eqGuard_agg w .eql t xo yo _ _ hg, Result.andThen_ok, run_eql_struct]
  rw [show (10000 : Nat) = 9999 + 1 from rfl, run_equalIn_array w 9999 _ _ hu hi, hc, h1]
  rfl
end Go.Proofs.YtinfbclgkghgaaaGreat.AL

/- The equality of two of [4]byte. -/
namespace Go.Proofs.YtinfbclgkghgaaaGreat.AL
open Go Go.Proofs Go.RowKit

abbrev m4 (a b c d : UInt8) : List Value := [.int .u8 a.toNat, .int .u8 b.toNat, .int .u8 c.toNat, .int .u8 d.toNat]
set_option maxRecDepth 100000
theorem m4_hu : Tryz.prog.underlying t_a4_u8 = some (.array 4 t_u8) := by kernel_rfl
theorem m4_hc : Tryz.prog.cellsOf t_u8 = 1 := by kernel_rfl
theorem m4_hg : Tryz.prog.eqGuardType Tryz.prog.depth t_a4_u8 = false := by kernel_rfl
theorem m4_u8 : Tryz.prog.underlying t_u8 = some (.int .u8) := by kernel_rfl
theorem m4_hi : ∃ i, Tryz.prog.info? t_u8 = some i := info_of_underlying m4_u8
theorem eq_m4 (xo yo : Operand) (a b c d a' b' c' d' : UInt8) (w : World) : (binG .eql t_a4_u8 xo yo (.agg (m4 a b c d).toArray) (.agg (m4 a' b' c' d').toArray)).run Tryz.prog w = .ok (.bool (decide (a = a' ∧ b = b' ∧ c = c' ∧ d = d'))) w := by
  obtain ⟨i, hi⟩ := m4_hi
  have fit : ∀ x y : Int, fitB Tryz.prog t_u8 (some (.int .u8 x)) (some (.int .u8 y)) = true := fun x y => by
    unfold fitB; rw [m4_u8]; rfl
  obtain ⟨r, h1, h2⟩ := eq_items (n := 4) (xs := (m4 a b c d).toArray) (ys := (m4 a' b' c' d').toArray) xo yo w m4_hu hi m4_hc m4_hg (by
    intro i hi
    have : i = 0 ∨ i = 1 ∨ i = 2 ∨ i = 3 := by have := List.mem_range.1 hi; omega
    rcases this with rfl | rfl | rfl | rfl
    · exact fit a.toNat a'.toNat
    · exact fit b.toNat b'.toNat
    · exact fit c.toNat c'.toNat
    · exact fit d.toNat d'.toNat)
  rw [h1]
  have e : ∀ x y : UInt8, (some (Value.int .u8 (x.toNat : Int)) = some (Value.int .u8 (y.toNat : Int))) ↔ x = y := fun x y => by
    constructor
    · intro h
      have h : (x.toNat : Int) = y.toNat := by injection h with h; injection h
      exact UInt8.toNat_inj.mp (by omega)
    · rintro rfl; rfl
  have : r = decide (a = a' ∧ b = b' ∧ c = c' ∧ d = d') := by
    have h3 : r = true ↔ (a = a' ∧ b = b' ∧ c = c' ∧ d = d') := by
      rw [h2]
      constructor
      · intro h
        exact ⟨(e a a').1 (h 0 (by decide)), (e b b').1 (h 1 (by decide)), (e c c').1 (h 2 (by decide)), (e d d').1 (h 3 (by decide))⟩
      · rintro ⟨rfl, rfl, rfl, rfl⟩ i _; rfl
    cases r with
    | true => rw [decide_eq_true (h3.1 rfl)]
    | false => rw [decide_eq_false (fun e => by have := h3.2 e; cases this)]
  rw [this]
end Go.Proofs.YtinfbclgkghgaaaGreat.AL

/- The layer: a literal's row that goes through a conversion to its own type (as in a conversion of a constant string to bytes). -/
namespace Go.Proofs.YtinfbclgkghgaaaGreat.AL
open Go Go.RowKit

/-- One block has got a mark: its cells are as they were. -/
structure Marked (w w' : World) (B : Nat) : Prop where
  os : w'.os = w.os
  tape : w'.tape = w.tape
  output : w'.output = w.output
  size : w'.heap.size = w.heap.size
  old : ∀ k, k ≠ B → w'.heap[k]? = w.heap[k]?
  new : ∀ cs t fr, w.heap[B]? = some (.cells cs t fr) → ∃ fr', w'.heap[B]? = some (.cells cs t fr')
theorem marked_freeze (w : World) (B n : Nat) : Marked w (w.freeze ⟨B, n, none⟩ 1) B := by
  unfold World.freeze
  rw [if_neg (by decide)]
  refine ⟨rfl, rfl, rfl, Array.size_modify, fun k hk => ?_, fun cs t fr h => ?_⟩
  · show (w.heap.modify B _)[k]? = _
    rw [Array.getElem?_modify, if_neg (fun e => hk e.symm)]
  · show ∃ fr', (w.heap.modify B _)[B]? = _
    rw [Array.getElem?_modify, if_pos rfl, h]
    exact ⟨_, rfl⟩
theorem Marked.cell {w w' : World} {B : Nat} (m : Marked w w' B) {cs : Array Value} {t : TypeId} {fr : Nat × Nat} (hB : w.heap[B]? = some (.cells cs t fr)) (C o : Nat) : w'.cell? ⟨C, o, none⟩ = w.cell? ⟨C, o, none⟩ := by
  unfold World.cell?
  by_cases e : C = B
  · subst e
    obtain ⟨fr', h⟩ := m.new cs t fr hB
    simp only [hB, h]
  · simp only [m.old C e]
theorem PRep.marked {w w' : World} {I : Nat → Prop} (hc : ∀ B o, w'.cell? ⟨B, o, none⟩ = w.cell? ⟨B, o, none⟩) {x : PV} {v : Value} (h : PRep w I x v) : PRep w' I x v := by
  induction h with
  | raw v h1 => exact .raw v h1
  | sl sz xs A c f hc' hl hA _ ih =>
    refine .sl sz xs A c f hc' hl ?_ (fun j e i u h1 h2 => ih j e i u h1 h2)
    rcases hA with hA | ⟨b, o, h1, h2, h3⟩
    · exact .inl hA
    · exact .inr ⟨b, o, h1, h2, fun j e hj => ⟨(h3 j e hj).1, fun i hi => by rw [hc]; exact (h3 j e hj).2 i hi⟩⟩
  | box cs b o f hb hcell _ ih => exact .box cs b o f hb (fun i hi => by rw [hc]; exact hcell i hi) (fun i u hu => ih i u hu)
theorem ARep.marked {w w' : World} {I : Nat → Prop} {ι : Nat → Option Nat} {B : Nat} (m : Marked w w' B) {cs : Array Value} {t : TypeId} {fr : Nat × Nat} (hB : w.heap[B]? = some (.cells cs t fr)) {x : AV} {v : Value} (h : ARep w I ι x v) : ARep w' I ι x v := by
  induction h with
  | p h => exact .p (h.marked (m.cell hB))
  | top v => exact .top v
  | agg l vs hn _ ih => exact .agg l vs hn ih
  | tup l vs hn _ ih => exact .tup l vs hn ih
  | ref b off B h => exact .ref b off B h
  | msl b sz off len C c h hc hs' =>
    refine .msl b sz off len C c h hc ?_
    obtain ⟨cs', t', fr', h1, h2⟩ := hs'
    by_cases e : C = B
    · subst e
      obtain ⟨fr2, h3⟩ := m.new cs' t' fr' h1
      exact ⟨cs', t', fr2, h3, h2⟩
    · exact ⟨cs', t', fr', by rw [m.old C e]; exact h1, h2⟩
  | msl0 b sz off A => exact .msl0 b sz off A
  | elr b sz i off B h => exact .elr b sz i off B h
  | clo fn caps vs hn _ ih => exact .clo fn caps vs hn ih
  | mth fn first vs hn _ ih => exact .mth fn first vs hn ih
  | yld b B h => exact .yld b B h
  | mp b B h => exact .mp b B h
theorem SimH.marked {w w' : World} {I : Nat → Prop} {ι : Nat → Option Nat} {H : List ABlk} {B : Nat} (hs : SimH w I ι H) (hI : I B) (m : Marked w w' B) {cs : Array Value} {t : TypeId} {fr : Nat × Nat} (hB : w.heap[B]? = some (.cells cs t fr)) : SimH w' I ι H := by
  refine ⟨fun b k hb => ?_, hs.inj, fun C hC => by rw [m.size]; exact hs.Ilt C hC, hs.dom, fun b C hb => by rw [m.size]; exact hs.rng b C hb⟩
  have h0 := hs.blk b k hb
  have ne : ∀ C, ¬ I C → C ≠ B := fun C hC e => hC (e ▸ hI)
  cases k with
  | dead => trivial
  | cells t l =>
    obtain ⟨C, cs, h1, h2, h3, h4, h5⟩ := h0
    exact ⟨C, cs, h1, by rw [m.old C (ne C h3)]; exact h2, h3, h4, fun i u hu => (h5 i u hu).marked m hB⟩
  | lp q st pe l =>
    obtain ⟨C, cs, h1, h2, h3, h4, h5⟩ := h0
    exact ⟨C, cs, h1, by rw [m.old C (ne C h3)]; exact h2, h3, h4, fun i u hu => (h5 i u hu).marked m hB⟩
  | row t sz xs =>
    rcases h0 with h0 | ⟨C, cs, h1, h2, h3, h4, h5, h6⟩
    · exact .inl h0
    · exact .inr ⟨C, cs, h1, by rw [m.old C (ne C h3)]; exact h2, h3, h4, h5, fun j e hj => ⟨(h6 j e hj).1, fun i u hu => ((h6 j e hj).2 i u hu).marked (m.cell hB)⟩⟩
  | obj o =>
    obtain ⟨h0', C, h1, h2, h3⟩ := h0
    exact ⟨h0', C, h1, by rw [m.old C (ne C h3)]; exact h2, h3⟩
theorem Ex.marked {n : Nat} {w0 w w' : World} {I0 I : Nat → Prop} {ι0 ι : Nat → Option Nat} {H0 H : List ABlk} {B : Nat} (x : Ex n w0 I0 ι0 H0 w I ι H) (hB : w0.heap.size ≤ B) (m : Marked w w' B) : Ex n w0 I0 ι0 H0 w' I ι H :=
  ⟨⟨m.os.trans x.ext.os, m.tape.trans x.ext.tape, m.output.trans x.ext.output, by rw [m.size]; exact x.ext.size, fun C cs t fr h => by
    have hlt : C < w0.heap.size := (Array.getElem?_eq_some_iff.1 h).1
    obtain ⟨cs', h1, h2⟩ := x.ext.shape C cs t fr h
    exact ⟨cs', by rw [m.old C (by omega)]; exact h1, h2⟩, x.ext.Isub, fun C hC hn => by rw [m.old C (by omega)]; exact x.ext.frame C hC hn, x.ext.Inew, x.ext.own⟩, x.keep, x.len⟩

section
variable {P : Program} {T : TTab} {m : Nat}
theorem wanted_none {o : Oper} (h : o.guard = none) {w : World} {I : Nat → Prop} {ι : Nat → Option Nat} {fr : Fr} {ops : Array Oper} {a : Act} (hf : FrOk w I ι fr a.tmps) : Region.wanted o (yielded ops a.tmps) = true := by
  obtain ⟨c, _, h1, h2, _⟩ := guard_ok (ops := ops) (o := o) (K := fun c _ => c = true) hf (by unfold guardA; rw [h])
  rw [h2, h1]

set_option maxHeartbeats 1000000 in
/-- A region whose second operation makes a row of bytes that the third one converts to its own type: the bytes are immutable behind. -/
theorem aw_regionB {ro : Option Nat} (hT : TOk P T) {id : Nat} {ops : Array Oper} {s : St} {Q : Exit → St → Prop} {o0 o1 o2 : Oper} {r : List Oper} {t e : TypeId} {d1 : Tmp} {ti ei : TI}
    (hl : ops.toList = o0 :: o1 :: o2 :: r) (g0 : o0.guard = none) (g1 : o1.guard = none) (g2 : o2.guard = none)
    (e1 : o1.dst = some d1) (h2 : o2.op = .convert t t (.tmp d1)) (ht : T t = some ti) (htd : ti.d = .slice e) (he : T e = some ei) (hed : ei.d = .int .u8)
    (hd0 : dstOk s.fr.n o0.dst = true) (hd1 : dstOk s.fr.n o1.dst = true) (hd2 : dstOk s.fr.n o2.dst = true) (hbel : belowH s.H.length s.H = true)
    (h : aopX P T (callA P) (evX s.fr) s.H (fun u H' => H' = s.H ∧ aopX P T (callA P) (evX (putA s.fr o0.dst u)) s.H (fun u1 H1 => ∃ t' sz xs, u1 = .msl s.H.length sz 0 xs.length ∧ H1 = s.H ++ [.row t' sz xs] ∧ 0 < xs.length ∧ aOps P T ops (fun _ => false) r 3 (putA (putA (putA s.fr o0.dst u) o1.dst (.p (.sl sz xs))) o2.dst (.p (.sl sz xs))) s.H (fun fr H => Q .normal ⟨fr, H⟩)) o1.op) o0.op) :
    AW P ro m (.region id ops false) s Q := fun N w I ι a hs hm => by
  refine wpIn_region_list ?_
  rw [hl]
  unfold wpListIn
  rw [if_pos (wanted_none g0 hs.fr)]
  refine aop_sound hT hs.H (fun x _ => evalA_ok hs.fr x) (aopX_ok h) ?_
  rintro v0 w0 r0 H0 I0 ι0 ⟨rfl, h1⟩ hr0 hs0 hx0
  have sim0 : Sim N w0 I0 ι0 ⟨putA s.fr o0.dst r0, s.H⟩ (a.put o0.dst v0) := ⟨(hs.fr.move hs.H hx0).put o0.dst hd0 hr0, hs0, Nat.le_trans hs.hN hx0.ext.size, by rw [put_defers]; exact fun d hd => (hs.d d hd).move hx0.ext, by rw [put_defers]; exact hs.nd⟩
  unfold wpListIn
  rw [if_pos (wanted_none g1 sim0.fr)]
  refine aop_sound hT sim0.H (fun x _ => evalA_ok sim0.fr x) (aopX_ok h1) ?_
  rintro v1 w1 r1 H1 I1 ι1 ⟨t', sz, xs, rfl, rfl, hpos, hk⟩ hr1 hs1 hx1
  have hlast : (s.H ++ [ABlk.row t' sz xs])[s.H.length]? = some (.row t' sz xs) := getElem?_append_len _ _
  have hlive : live (s.H ++ [ABlk.row t' sz xs]) s.H.length := ⟨_, hlast, rfl⟩
  have hx1 : Ex s.H.length w0 I0 ι0 s.H w1 I1 ι1 (s.H ++ [ABlk.row t' sz xs]) := hx1
  have hfrz : frzK s.H.length (s.H ++ [.row t' sz xs]) (.msl s.H.length sz 0 xs.length) (fun u H' => u = .p (.sl sz xs) ∧ H' = s.H) := by
    have e : (s.H ++ [ABlk.row t' sz xs]).getD s.H.length .dead = .row t' sz xs := by rw [List.getD_eq_getElem?_getD, hlast]; rfl
    have e2 : (s.H ++ [ABlk.row t' sz xs]).take s.H.length = s.H := List.take_left
    unfold frzK
    simp only [e, e2]
    refine chkI ?_ ⟨⟨trivial, trivial⟩, trivial, trivial⟩
    simp [hbel]
  obtain ⟨u2, H2, I2, ι2, ⟨rfl, rfl⟩, hr2, hs2, hx2⟩ := frz_ok hs1 hr1 hfrz
  have hx3 := hx1.trans hx2
  generalize hlen : xs.length = len at hr1 hpos
  cases hr1 with
  | msl0 => omega
  | msl _ _ _ _ B c hB hcc hsz =>
    have hfresh : w0.heap.size ≤ B := by
      rcases hx1.ext.own _ B hlive hB with h | ⟨b0, hb0, hb1⟩
      · exact h
      · have hlt := live_lt hb0
        have hk0 := hx1.keep b0 hlt
        rw [hb1] at hk0
        obtain ⟨k, hk1, hk2⟩ := hb0
        have := hs1.inj b0 s.H.length B ⟨k, by rw [List.getElem?_append_left hlt]; exact hk1, hk2⟩ hlive hk0 hB
        omega
    obtain ⟨cs, g2'⟩ : ∃ cs, w1.heap[B]? = some (.cells cs t' (0, 0)) := by
      rcases hs1.blk _ _ hlast with ⟨_, q1⟩ | ⟨B', cs, q1, q2, _⟩
      · rw [q1] at hB; exact absurd hB (by simp)
      · rw [q1] at hB; obtain rfl := Option.some.inj hB; exact ⟨cs, q2⟩
    have hIB : I2 B := by
      generalize hv : (Value.slice (some ⟨B, 0 * sz, none⟩) len c) = v at hr2
      cases hr2 with
      | p hp =>
        cases hp with
        | sl _ _ A c' f _ _ hA _ =>
          rcases hA with hA | ⟨b, o, q1, q2, _⟩
          · rw [hA] at hlen; simp at hlen; omega
          · rw [q1] at hv
            simp only [Value.slice.injEq, Option.some.injEq, Addr.mk.injEq] at hv
            rw [hv.1.1]; exact q2
    have mk := marked_freeze w1 B cs.size
    have hs3 := hs2.marked hIB mk g2'
    have hx4 := hx3.marked hfresh mk
    have hr3 := hr2.marked mk g2'
    have sim1 : Sim N w1 I1 ι1 ⟨putA (putA s.fr o0.dst r0) o1.dst (.msl s.H.length sz 0 xs.length), s.H ++ [.row t' sz xs]⟩ ((a.put o0.dst v0).put o1.dst (.slice (some ⟨B, 0 * sz, none⟩) len c)) := ⟨(sim0.fr.move sim0.H hx1).put o1.dst (by cases o0.dst <;> exact hd1) (by rw [hlen]; exact .msl _ _ _ _ B c hB hcc hsz), hs1, Nat.le_trans sim0.hN hx1.ext.size, by rw [put_defers]; exact fun d hd => (sim0.d d hd).move hx1.ext, by rw [put_defers]; exact sim0.nd⟩
    unfold wpListIn
    rw [if_pos (wanted_none g2 sim1.fr)]
    refine wpIn_of_wp (fun c => by rw [h2]; simp) ?_
    obtain ⟨_, td, _, _, hd, _, q4, _⟩ := tok hT ht
    obtain ⟨_, td', _, _, hd', _, q4', _⟩ := tok hT he
    rw [htd] at q4
    rw [hed] at q4'
    obtain rfl := desc_slice q4
    obtain rfl := desc_int q4'
    have hsh : w1.shape? B = some (t', cs.size) := by unfold World.shape?; rw [g2']
    have hev : ((a.put o0.dst v0).put o1.dst (.slice (some ⟨B, 0 * sz, none⟩) len c)).eval (.tmp d1) = .slice (some ⟨B, 0 * sz, none⟩) len c := by
      have hsz0 : (a.put o0.dst v0).tmps.size = s.fr.n := by
        have := sim0.fr.1
        rw [this]
        cases o0.dst <;> rfl
      rw [e1] at hd1 ⊢
      have hlt : d1 < s.fr.n := by simpa [dstOk, Nat.blt_eq] using hd1
      show ((a.put o0.dst v0).tmps.setIfInBounds d1 _).getD d1 undef = _
      rw [Array.getD_eq_getD_getElem?, Array.getElem?_setIfInBounds_self_of_lt (by rw [hsz0]; exact hlt)]; rfl
    refine wp_val (v := .slice (some ⟨B, 0 * sz, none⟩) len c) (w' := w1.freeze ⟨B, cs.size, none⟩ 1) ?_ ?_
    · simp only [Nat.zero_mul] at hev ⊢
      simp [execOp, h2, hev, convert, run_underlying hd, run_underlying hd', markStringish, hsh]
    · have hfin : Sim N (w1.freeze ⟨B, cs.size, none⟩ 1) I2 ι2 ⟨putA (putA (putA s.fr o0.dst r0) o1.dst (.p (.sl sz xs))) o2.dst (.p (.sl sz xs)), s.H⟩ (((a.put o0.dst v0).put o1.dst (.slice (some ⟨B, 0 * sz, none⟩) len c)).put o2.dst (.slice (some ⟨B, 0 * sz, none⟩) len c)) :=
        ⟨((sim0.fr.move sim0.H hx4).put o1.dst (by cases o0.dst <;> exact hd1) hr3).put o2.dst (by cases o0.dst <;> cases o1.dst <;> exact hd2) hr3, hs3, Nat.le_trans sim0.hN hx4.ext.size, by rw [put_defers, put_defers]; exact fun d hd => (sim0.d d hd).move hx4.ext, by rw [put_defers, put_defers]; exact sim0.nd⟩
      refine aOps_sound (m := m) hT r 3 _ s.H _ _ _ _ hk hfin ((Ex.refl hm).trans ((hx0.trans hx4).less hm)) ?_
      intro fr' H' a' w' I' ι' hK hs' hx'
      exact ⟨⟨fr', H'⟩, I', ι', hK, hs', hx'⟩
end
end Go.Proofs.YtinfbclgkghgaaaGreat.AL

/- The law of layer 11: the chapter's example. -/
namespace Go.Proofs.YtinfbclgkghgaaaGreat.AL
open Go Go.Proofs

set_option maxRecDepth 20000 in
theorem Ring_Next5 (R : Rg) (D : Dev) : AFm Tryz.prog 5 f_ring_Ring_Next [.ref 2 0] (rgH R D) (Pure (i64 R.next) (rgH R D)) := by
  refine af_bodyM 5 hT F_ring_Ring_Next rfl rfl N_ring_Ring_Next rfl rfl ?_
  refine aw_seq (aw_region hT ?_)
  refine aw_seq (aw_seq (aw_region hT ?_))
  refine aw_cond ?_
  refine aw_skip ?_
  refine aw_seq (aw_region hT ?_)
  refine aw_ret ?_
  exact retPick [0, 1, 2, 3, 4] ⟨rfl, rfl⟩ rfl
set_option maxRecDepth 20000 in
theorem Ring_Chain5 (R : Rg) (D : Dev) : AFm Tryz.prog 5 f_ring_Ring_Chain [.ref 2 0] (rgH R D) (Pure (i64 R.chain) (rgH R D)) := by
  refine af_bodyM 5 hT F_ring_Ring_Chain rfl rfl N_ring_Ring_Chain rfl rfl ?_
  refine aw_seq (aw_region hT ?_)
  refine aw_seq (aw_seq (aw_region hT ?_))
  refine aw_cond ?_
  refine aw_skip ?_
  refine aw_seq (aw_region hT ?_)
  refine aw_ret ?_
  exact retPick [0, 1, 2, 3, 4] ⟨rfl, rfl⟩ rfl

set_option maxHeartbeats 4000000 in
set_option maxRecDepth 20000 in
theorem law11_awake : AF Tryz.prog f_law11_awake [] [] (Pure (bl true) []) := by
  obtain ⟨z, hz, D0, D1, D2, D3, R0, R1, R2, l0, l1, D4, e0, eR0, a1, a2, f3, el0, el1, e4, hF, hn, o0, o1, q0, q1, q2, q3, hl0, hl1⟩ := awake11_plain
  have wB := law11_Blank 7 g11 (by decide +kernel)
  rw [← e0] at wB
  have wN := ring_New D0 7 g11 1 0 0 0 (by decide +kernel)
  rw [← eR0] at wN
  have wA := Ring_Append R0 D0 abc11 26 o0 q0 (by omega) (by decide)
  rw [a1] at wA
  have hab : bA abc11 = .p (.sl 1 [[.raw (.int .u8 97)], [.raw (.int .u8 98)], [.raw (.int .u8 99)]]) := rfl
  rw [hab] at wA
  have hzl : z.length = 450 := by rw [hz, List.length_replicate]
  have wZ := Ring_Append R1 D1 z 28 o1 q1 (by omega) (by omega)
  rw [a2] at wZ
  have wf := disk_Fault D2 (loseF 6) 34 q2 (by omega)
  rw [f3] at wf
  have wL := ring_Load D3 g11 35 q3 (by omega) g11_may
  rw [← el0, ← el1, ← e4] at wL
  have wF := ring_Follow l0 l1 7 g11 0 0 (fun s hs => Nat.le_trans (hl0 s hs) (by omega)) (fun s hs => Nat.le_trans (hl1 s hs) (by omega))
  rw [hF] at wF
  have wn := Ring_Next5 R2 D4
  rw [hn] at wn
  have wc := Ring_Chain5 R2 D4
  have hzb : bx z = List.replicate (450 : Int).toNat [.raw (.int .u8 0)] := by rw [hz]; unfold bx; rw [List.map_replicate]; rfl
  have wZ : AFm Tryz.prog 3 f_ring_Ring_Append [.ref 2 0, .p (.sl 1 (bx z))] (rgH R1 D1) (Pure (i64 0) (rgH R2 D2)) := wZ
  rw [hzb] at wZ
  clear a1 a2 f3 e0 eR0 el0 el1 e4 hF hn o0 o1 q0 q1 q2 q3 hl0 hl1 hz
  generalize R2.chain = ch at wF wc
  refine af_body hT F_law11_awake rfl rfl N_law11_awake rfl ?_
  refine aw_seq (aw_region hT ?_)
  refine aw_cut ⟨⟨101, [(1, .p (.box g11.pv))]⟩, []⟩ True (aw_region hT ?_) (fun _ => ?_)
  · exact ⟨Wk.trans (wk_boxL 0 g11.pv rfl rfl) (wk_pick [] [1] rfl), trivial⟩
  refine aw_cut ⟨⟨101, [(1, .p (.box g11.pv)), (2, .ref 0 0)]⟩, devH D0⟩ True (aw_region hT ?_) (fun _ => ?_)
  · refine callP wB ?_
    exact ⟨wk_pick [0, 1, 2] [1, 2] rfl, trivial⟩
  refine aw_cut ⟨⟨101, [(1, .p (.box g11.pv)), (2, .ref 0 0), (3, .ref 2 0), (4, i64 0)]⟩, rgH R0 D0⟩ True (aw_region hT ?_) (fun _ => ?_)
  · refine callP (af_in [0, 1, 2] wN rfl rfl rfl) ?_
    exact ⟨wk_pick [0, 3, 4, 5, 6] [1, 2, 3, 4] rfl, trivial⟩
  refine aw_cut ⟨⟨101, [(1, .p (.box g11.pv)), (2, .ref 0 0), (3, .ref 2 0), (4, i64 0), (5, i64 0)]⟩, rgH R1 D1⟩ True (aw_regionB hT rfl rfl rfl rfl rfl rfl rfl rfl rfl rfl rfl rfl rfl rfl ?_) (fun _ => ?_)
  · refine ⟨rfl, ?_⟩
    refine ⟨_, _, _, rfl, rfl, by decide, ?_⟩
    refine callP (af_in [0, 1, 2, 3, 4] wA rfl rfl rfl) ?_
    exact ⟨wk_pick [0, 1, 2, 5, 6] [1, 2, 3, 4, 5] rfl, trivial⟩
  refine aw_cut ⟨⟨101, [(1, .p (.box g11.pv)), (2, .ref 0 0), (3, .ref 2 0), (4, i64 0), (5, i64 0), (6, i64 0)]⟩, rgH R2 D2⟩ True (aw_regionF (fun k => Nat.beq 1 k) hT ?_) (fun _ => ?_)
  · refine ⟨⟨rfl, by decide, by decide, by decide⟩, ?_⟩
    refine ⟨⟨rfl, by rw [List.length_replicate]⟩, ?_⟩
    refine callP (af_in [0, 1, 2, 3, 4] wZ rfl rfl rfl) ?_
    exact ⟨wk_pick [0, 1, 2, 5, 6] [1, 2, 3, 4, 5, 6] rfl, trivial⟩
  refine aw_cut ⟨⟨101, [(1, .p (.box g11.pv)), (2, .ref 0 0), (3, .ref 2 0), (4, i64 0), (5, i64 0), (6, i64 0)]⟩, rgH R2 D3⟩ True (aw_region hT ?_) (fun _ => ?_)
  · refine callP (af_in [0, 3, 4] wf rfl rfl rfl) ?_
    exact ⟨wk_pick [0, 1, 2, 3, 4] [1, 2, 3, 4, 5, 6] rfl, trivial⟩
  refine aw_cut ⟨⟨101, [(1, .p (.box g11.pv)), (3, .ref 2 0), (4, i64 0), (5, i64 0), (6, i64 0), (7, .p (.sl 1 (catX l0))), (8, .p (.sl 1 (catX l1)))]⟩, rgH R2 D4⟩ True (aw_region hT ?_) (fun _ => ?_)
  · refine callP (af_in [0, 3, 4] wL rfl rfl rfl) ?_
    exact ⟨wk_pick [0, 1, 2, 3, 4] [1, 3, 4, 5, 6, 7, 8] rfl, trivial⟩
  have wF : AF Tryz.prog f_ring_Follow [.p (.sl 1 (catX l0)), .p (.sl 1 (catX l1)), i64 7, g11.av, i64 0, i64 0] [] (Pure (.tup [.agg [.p (.sl 1 (catX [abc11, z])), i64 4, i64 ch, i64 1], i64 0]) []) := wF
  refine aw_cut ⟨⟨101, [(3, .ref 2 0), (4, i64 0), (5, i64 0), (6, i64 0), (9, .ref 5 0), (10, i64 0)]⟩, rgH R2 D4 ++ [.cells t_api_Tail [.p (.sl 1 (catX [abc11, z])), i64 4, i64 ch, i64 1]]⟩ True (aw_region hT ?_) (fun _ => ?_)
  · refine callP (af_at wF _ rfl rfl) ?_
    exact ⟨wk_pick [0, 1, 2, 3, 4, 5] [3, 4, 5, 6, 9, 10] rfl, trivial⟩
  refine aw_seq ?_
  refine aw_draw [] [] hT follows_mixed (by rfl) ?_
  refine ⟨_, af_in [0, 1, 2, 3, 4] wn rfl rfl rfl, ?_⟩
  refine ⟨Int.le_refl _, ?_⟩
  obtain ⟨q, hq⟩ : ∃ q, q = abc11 := ⟨_, rfl⟩
  refine ⟨q, by rw [hq]; rfl, ?_⟩
  refine ⟨true, by rw [hq]; decide +kernel, ?_⟩
  refine ⟨by decide, ?_⟩
  refine boolI (fun h => ?_) (fun h => ?_)
  · refine ⟨_, af_in [0, 1, 2, 3, 4] wc rfl rfl rfl, ?_⟩
    refine boolI (fun h1 => ?_) (fun h1 => ?_)
    · refine aw_ret ?_
      exact retPick [] ⟨rfl, rfl⟩ rfl
    · have h1 : (ch == ch) = false := h1
      simp at h1
  · have h : (((bx z).length : Int) == 450) = false := h
    have := bx_len z
    rw [this, hzl] at h
    exact absurd h (by decide)
end Go.Proofs.YtinfbclgkghgaaaGreat.AL

/- The law RingLeft: what was appended is told, as long as of each slot one of both sectors is left. -/
namespace Go.Proofs.YtinfbclgkghgaaaGreat.AL
open Go Go.Proofs

theorem small_all {n m : Nat} {l : List Bytes} (h : fewB n m l = true) : l.length ≤ n ∧ ∀ s ∈ l, s.length ≤ m := by
  unfold fewB at h
  rw [Bool.and_eq_true, decide_eq_true_eq, List.all_eq_true] at h
  exact ⟨h.1, fun s hs => of_decide_eq_true (h.2 s hs)⟩
theorem blankOk_may {vol : Int} {g : GeoV} (h : blankOk vol g = true) : g.may = true ∧ g.w ≤ 16 := by
  unfold blankOk at h
  rw [Bool.and_eq_true, Bool.and_eq_true, Bool.not_eq_true', decide_eq_false_iff_not] at h
  exact ⟨h.1, by omega⟩
theorem ix_at {l : List Int} {i : Nat} {c : Int} (h : l[i]? = some c) : (ix l)[i]? = some [.raw (.int .i64 c)] := by rw [ix, List.getElem?_map, h]; rfl
theorem flat_le {Q : List (List Pc)} (hQ : ∀ s ∈ Q, SegP s) : Q.length ≤ Q.flatten.length := by
  induction Q with
  | nil => exact Nat.le_refl _
  | cons s r ih =>
    have := ih fun x hx => hQ x (by simp [hx])
    have h1 := (hQ s (by simp)).1
    rw [List.flatten_cons, List.length_append, List.length_cons]
    have : 0 < s.length := List.length_pos_iff.mpr h1
    omega
theorem catB_le {s : List Pc} (h : ∀ p ∈ s, p.b.length ≤ 200) : (catB s).length ≤ 200 * s.length := by
  unfold catB
  induction s with
  | nil => exact Nat.le_refl _
  | cons p r ih =>
    have h1 := ih fun q hq => h q (by simp [hq])
    have h2 := h p (by simp)
    rw [List.map_cons, List.flatten_cons, List.length_append, List.length_cons]
    omega
theorem mem_flat_le {Q : List (List Pc)} {s : List Pc} (h : s ∈ Q) : s.length ≤ Q.flatten.length := by
  induction Q with
  | nil => simp at h
  | cons x r ih =>
    rw [List.flatten_cons, List.length_append]
    rw [List.mem_cons] at h
    rcases h with rfl | h
    · omega
    · have := ih h; omega

set_option maxHeartbeats 8000000 in
set_option maxRecDepth 20000 in
theorem ring_left (g : GeoV) (start : Int) (l : List Bytes) (hh : List Int) (f : Flt) : AF Tryz.prog f_law11_RingLeft [g.av, i64 start, .p (.sl 1 (catX l)), .p (.sl 1 (ix hh)), f.av] [] (Pure (bl true) []) := by
  refine AF.mono (R := fun r H' => ∃ z, z = true ∧ r = bl z ∧ H' = []) ?_ (by rintro r H' ⟨b, rfl, rfl, rfl⟩; exact ⟨rfl, rfl⟩)
  have wsm := law11_small l
  generalize hsm : fewB 12 1500 l = sm at wsm
  refine af_body hT F_law11_RingLeft rfl rfl N_law11_RingLeft rfl ?_
  refine aw_cut ⟨⟨197, [(1, i64 start), (2, .p (.sl 1 (catX l))), (3, .p (.sl 1 (ix hh))), (5, .p (.box g.pv)), (9, .p (.box f.pv))]⟩, []⟩ True (aw_region hT ?_) (fun _ => ?_)
  · exact ⟨Wk.trans (wk_boxL 0 g.pv rfl rfl) (Wk.trans (wk_boxL 1 f.pv rfl rfl) (wk_pick [] [1, 2, 3, 5, 9] rfl)), trivial⟩
  refine aw_seq (aw_region hT ?_)
  refine callP (af_at law11_awake _ rfl rfl) ?_
  refine aw_seq (aw_region hT ?_)
  refine callP (af_at wsm _ rfl rfl) ?_
  cases hb : blankOk 7 g with
  | false =>
    refine aw_seq (aw_region hT ?_)
    refine callP (af_at (law11_Blank_no 7 g hb) _ rfl rfl) ?_
    cases sm with
    | false =>
      refine aw_seq (aw_seq (aw_region hT ?_))
      refine aw_cond ?_
      refine aw_seq (aw_region hT ?_)
      refine aw_ret ?_
      exact retPick [] ⟨true, rfl, rfl, rfl⟩ rfl
    | true =>
      refine aw_seq (aw_seq (aw_region hT ?_))
      refine aw_cond ?_
      refine aw_seq (aw_region hT ?_)
      refine aw_ret ?_
      exact retPick [] ⟨true, rfl, rfl, rfl⟩ rfl
  | true =>
  cases sm with
  | false =>
    refine aw_seq (aw_region hT ?_)
    refine callP (law11_Blank 7 g hb) ?_
    refine aw_seq (aw_seq (aw_region hT ?_))
    refine aw_cond ?_
    refine aw_seq (aw_region hT ?_)
    refine aw_ret ?_
    exact retPick [] ⟨true, rfl, rfl, rfl⟩ rfl
  | true =>
  have ok0 : (0 ≤ start ∧ start ≤ 1000000) → (1 ≤ f.kind ∧ f.kind ≤ 3) → (0 ≤ f.off ∧ f.off ≤ 252) → True := fun _ _ _ => trivial
  refine aw_seq (aw_region hT ?_)
  refine callP (law11_Blank 7 g hb) ?_
  generalize hD0 : blankD 7 g = D0
  refine aw_cut ⟨⟨197, [(1, i64 start), (2, .p (.sl 1 (catX l))), (3, .p (.sl 1 (ix hh))), (5, .p (.box g.pv)), (9, .p (.box f.pv)), (13, .ref 0 0)]⟩, devH D0⟩ ((0 ≤ start ∧ start ≤ 1000000) ∧ (1 ≤ f.kind ∧ f.kind ≤ 3) ∧ (0 ≤ f.off ∧ f.off ≤ 252) ∧ chd f.m 4 = true) (aw_seq (aw_region hT ?_)) ?_
  ·
    refine boolI (fun h => ?_) (fun h => ?_)
    · refine aw_cond ?_
      refine aw_seq (aw_region hT ?_)
      refine aw_ret ?_
      exact retPick [] ⟨true, rfl, rfl, rfl⟩ rfl
    have h1 := of_decide_eq_false (show decide (start < 0) = false from h)
    refine boolI (fun h => ?_) (fun h => ?_)
    · refine aw_cond ?_
      refine aw_seq (aw_region hT ?_)
      refine aw_ret ?_
      exact retPick [] ⟨true, rfl, rfl, rfl⟩ rfl
    have h2 := of_decide_eq_false (show decide (start > 1000000) = false from h)
    refine boolI (fun h => ?_) (fun h => ?_)
    · refine aw_cond ?_
      refine aw_seq (aw_region hT ?_)
      refine aw_ret ?_
      exact retPick [] ⟨true, rfl, rfl, rfl⟩ rfl
    have h3 := of_decide_eq_false (show decide (f.kind < 1) = false from h)
    refine boolI (fun h => ?_) (fun h => ?_)
    · refine aw_cond ?_
      refine aw_seq (aw_region hT ?_)
      refine aw_ret ?_
      exact retPick [] ⟨true, rfl, rfl, rfl⟩ rfl
    have h4 := of_decide_eq_false (show decide (f.kind > 3) = false from h)
    refine boolI (fun h => ?_) (fun h => ?_)
    · refine aw_cond ?_
      refine aw_seq (aw_region hT ?_)
      refine aw_ret ?_
      exact retPick [] ⟨true, rfl, rfl, rfl⟩ rfl
    have h5 := of_decide_eq_false (show decide (f.off < 0) = false from h)
    refine boolI (fun h => ?_) (fun h => ?_)
    · refine aw_cond ?_
      refine aw_seq (aw_region hT ?_)
      refine aw_ret ?_
      exact retPick [] ⟨true, rfl, rfl, rfl⟩ rfl
    have h6 := of_decide_eq_false (show decide (f.off > 252) = false from h)
    refine ⟨_, fun w => eq_m4 _ _ f.m0 f.m1 f.m2 f.m3 0 0 0 0 w, rfl, ?_⟩
    refine aw_cond (boolI (fun h => ?_) (fun h => ?_))
    · refine aw_seq (aw_region hT ?_)
      refine aw_ret ?_
      exact retPick [] ⟨true, rfl, rfl, rfl⟩ rfl
    · have h := of_decide_eq_false (show decide (f.m0 = 0 ∧ f.m1 = 0 ∧ f.m2 = 0 ∧ f.m3 = 0) = false from h)
      refine aw_skip ⟨wk_pick [0, 1, 2] [1, 2, 3, 5, 9, 13] rfl, ⟨by omega, by omega⟩, ⟨by omega, by omega⟩, ⟨by omega, by omega⟩, ?_⟩
      cases hc : chd f.m 4 with
      | true => rfl
      | false => exact absurd (chd_none hc) h
  clear ok0
  rintro ⟨⟨s0, s1⟩, ⟨k1, k3⟩, ⟨o0, o1⟩, hmask⟩
  obtain ⟨hg, hw16⟩ := blankOk_may hb
  obtain ⟨g1, g2, _⟩ := g.of_may hg
  obtain ⟨hl12, hlb⟩ := small_all hsm
  obtain ⟨_, hq2, _⟩ := secs_le hg
  have hok : newOk 7 g 3 start start 9 = true := by
    unfold newOk
    simp only [List.all_cons, List.all_nil, Bool.and_true]
    rw [hg, decide_eq_false (show ¬ start < start by omega), decide_eq_false (show ¬ start - start > g.w by omega)]
    unfold wordB
    rw [decide_eq_true s0, decide_eq_true (show start ≤ 4294967295 by omega)]
    rfl
  have L0 := logP_new hok
  rw [hD0] at L0
  have wN := ring_New D0 7 g 3 start start 9 hok
  obtain ⟨R1, D1, b1, Q, e1, L1, hQ, i1, i2, i3, i4, i5⟩ := aps_P l [] _ D0 g.secs [] L0 (fun s hs => by simp at hs) rfl rfl
  have wA := law11_appended _ D0 l g.secs L0.ok L0.clean.ok (by omega) (fun s hs => by have := hlb s hs; omega) (by omega)
  rw [e1] at wA
  have i1 : R1.g = g := i1
  have i2 : R1.vol = 7 := i2
  have hbl := L1.len
  rw [i1] at hbl
  have i5 : b1 + 2 * 0 = g.secs + 2 * Q.flatten.length := i5
  have hP : ∀ k : Nat, (k : Int) ≤ g.w → followB 7 g (load0 (hurtK f g hh D1 k) g).1 (load1 (hurtK f g hh D1 k) g).1 start 9 = (⟨Q.map catB, R1.next, R1.chain, epQ Q R1.epoch⟩, 0) ∧ CleanP (hurtK f g hh D1 k) g.secs (b1 + k) := fun k hk => by
    have := left_P L1 hQ (by decide) k1 k3 o0 o1 (fun _ => hmask) hh (n := k) (by rw [i1]; exact hk)
    rw [i1, i2] at this
    exact this
  have hTl : (Q.map catB).length ≤ 16 := by
    rw [List.length_map]
    have := flat_le hQ
    omega
  have hTb : ∀ s ∈ Q.map catB, s.length ≤ 1000000 := fun s hs => by
    rw [List.mem_map] at hs
    obtain ⟨q, hq, rfl⟩ := hs
    have h1 := catB_le (s := q) fun p hp => by
      obtain ⟨i, hi⟩ := List.getElem?_of_mem (List.mem_flatten.mpr ⟨q, hq, hp⟩)
      exact (p.of_may (L1.chain.may i p hi).1).2.2.2.2.2.2.2.2.2
    have h2 := mem_flat_le hq
    omega
  generalize Q.map catB = T at wA hP hTl hTb
  generalize epQ Q R1.epoch = ep at hP
  clear L0 e1 L1 hQ
  generalize newR 7 g 3 start start 9 = R0 at wN wA
  have hTc := catX_len T
  have hhl : (ix hh).length = hh.length := by unfold ix; rw [List.length_map]
  refine aw_cut ⟨⟨197, [(1, i64 start), (2, .p (.sl 1 (catX l))), (3, .p (.sl 1 (ix hh))), (5, .p (.box g.pv)), (9, .p (.box f.pv)), (13, .ref 0 0), (14, .ref 2 0), (15, i64 0)]⟩, rgH R0 D0⟩ True (aw_region hT ?_) (fun _ => ?_)
  · refine callP (af_in [0, 1, 2] wN rfl rfl rfl) ?_
    exact ⟨wk_pick [0, 3, 4, 5, 6] [1, 2, 3, 5, 9, 13, 14, 15] rfl, trivial⟩
  refine aw_cut ⟨⟨197, [(1, i64 start), (3, .p (.sl 1 (ix hh))), (5, .p (.box g.pv)), (9, .p (.box f.pv)), (13, .ref 0 0), (14, .ref 2 0), (15, i64 0), (16, .p (.sl 1 (catX T))), (17, bl true)]⟩, rgH R1 D1⟩ True (aw_region hT ?_) (fun _ => ?_)
  · refine callP (af_in [0, 1, 2, 3, 4] wA rfl rfl rfl) ?_
    exact ⟨wk_pick [0, 1, 2, 5, 6] [1, 3, 5, 9, 13, 14, 15, 16, 17] rfl, trivial⟩
  refine aw_cut2 (fun st => ∃ (k : Nat) (E : Dev), (k : Int) ≤ g.w ∧ E = hurtK f g hh D1 k ∧ st = ⟨⟨197, [(1, i64 start), (5, .p (.box g.pv)), (13, .ref 0 0), (14, .ref 2 0), (15, i64 0), (16, .p (.sl 1 (catX T))), (17, bl true)]⟩, rgH R1 E⟩) (aw_seq (aw_region hT ?_)) ?_
  · refine aw_block ?_
    refine aw_loopW (fun n st => ∃ (k : Nat) (j : Int) (E : Dev), (n : Int) + k = g.w ∧ j = k ∧ E = hurtK f g hh D1 k ∧ st = ⟨⟨197, [(1, i64 start), (3, .p (.sl 1 (ix hh))), (5, .p (.box g.pv)), (9, .p (.box f.pv)), (13, .ref 0 0), (14, .ref 2 0), (15, i64 0), (16, .p (.sl 1 (catX T))), (17, bl true), (18, i64 j)]⟩, rgH R1 E⟩) g.w.toNat ⟨⟨197, _⟩, _⟩ (wk_pick [0, 1, 2, 3, 4] [1, 3, 5, 9, 13, 14, 15, 16, 17, 18] rfl) ⟨0, 0, D1, by omega, rfl, rfl, rfl⟩ ?_
    rintro n st ⟨k, j, E, hnk, hj, hE, rfl⟩
    have cE := (hP k (by omega)).2
    rw [← hE] at cE
    refine aw_seq (aw_seq (aw_region hT ?_))
    refine boolI (fun h => ?_) (fun h => ?_)
    · have h := of_decide_eq_true (show decide (j < (((ix hh).length : Nat) : Int)) = true from h)
      refine aw_cond (boolI (fun h1 => ?_) (fun h1 => ?_))
      · have h1 := of_decide_eq_true (show decide (j < g.w) = true from h1)
        refine aw_skip ?_
        have hx := List.getElem?_eq_getElem (show k < hh.length by omega)
        generalize hh[k] = x at hx
        have hxp : (ix hh)[j.toNat]? = some [.raw (.int .i64 x)] := by rw [hj, Int.toNat_natCast]; exact ix_at hx
        have hst : hurtK f g hh D1 (k + 1) = match (x == 1) || (x == 2) with | true => (E.fault (hurtF f g x k)).2 | false => E := by rw [hE, hurtK, hx] <;> rfl
        refine aw_cut2 (fun st => ∃ E', E' = hurtK f g hh D1 (k + 1) ∧ st = ⟨⟨197, [(1, i64 start), (3, .p (.sl 1 (ix hh))), (5, .p (.box g.pv)), (9, .p (.box f.pv)), (13, .ref 0 0), (14, .ref 2 0), (15, i64 0), (16, .p (.sl 1 (catX T))), (17, bl true), (18, i64 j)]⟩, rgH R1 E'⟩) (aw_block ?_) ?_
        · refine aw_cut2 (fun st => ∃ c, c = ((x == 1) || (x == 2)) ∧ st = ⟨⟨197, [(1, i64 start), (3, .p (.sl 1 (ix hh))), (5, .p (.box g.pv)), (9, .p (.box f.pv)), (13, .ref 0 0), (14, .ref 2 0), (15, i64 0), (16, .p (.sl 1 (catX T))), (17, bl true), (18, i64 j), (112, bl c)]⟩, rgH R1 E⟩) (aw_region hT ?_) ?_
          · refine ⟨by omega, optI hxp ?_⟩
            refine boolI (fun h2 => ?_) (fun h2 => ?_)
            · have h2 : (x == 1) = true := h2
              exact ⟨_, wk_pick [0, 1, 2, 3, 4] [1, 3, 5, 9, 13, 14, 15, 16, 17, 18, 112] rfl, true, by rw [h2]; rfl, rfl⟩
            · refine ⟨by omega, optI hxp ?_⟩
              have h2 : (x == 1) = false := h2
              exact ⟨_, wk_pick [0, 1, 2, 3, 4] [1, 3, 5, 9, 13, 14, 15, 16, 17, 18, 112] rfl, (x == 2), by rw [h2]; rfl, rfl⟩
          rintro _ ⟨c, hc, rfl⟩
          rw [← hc] at hst
          refine aw_cond (boolI (fun h2 => ?_) (fun h2 => ?_))
          · have h2 : c = true := h2
            rw [h2] at hst hc
            have hx12 : x = 1 ∨ x = 2 := by
              have := hc.symm
              rw [Bool.or_eq_true, beq_iff_eq, beq_iff_eq] at this; exact this
            have hxw : (x - 1) * g.w = 0 ∨ (x - 1) * g.w = g.w := by
              rcases hx12 with rfl | rfl
              · exact .inl (by omega)
              · exact .inr (by omega)
            have hat : IntKind.i64.wrap (IntKind.i64.wrap (4 + IntKind.i64.wrap (IntKind.i64.wrap (x - 1) * g.w)) + j) = 4 + (x - 1) * g.w + k := by
              rw [wrap64 (x - 1) (by omega) (by omega), wrap64 ((x - 1) * g.w) (by omega) (by omega), wrap64 (4 + (x - 1) * g.w) (by omega) (by omega), wrap64 _ (by omega) (by omega), hj]
            have w := disk_Fault E ⟨f.kind, IntKind.i64.wrap (IntKind.i64.wrap (4 + IntKind.i64.wrap (IntKind.i64.wrap (x - 1) * g.w)) + j), f.off, 0, 0, f.m0, f.m1, f.m2, f.m3⟩ _ cE.ok (by omega)
            have hst : hurtK f g hh D1 (k + 1) = (E.fault ⟨f.kind, IntKind.i64.wrap (IntKind.i64.wrap (4 + IntKind.i64.wrap (IntKind.i64.wrap (x - 1) * g.w)) + j), f.off, 0, 0, f.m0, f.m1, f.m2, f.m3⟩).2 := by rw [hat]; exact hst
            generalize E.fault ⟨f.kind, IntKind.i64.wrap (IntKind.i64.wrap (4 + IntKind.i64.wrap (IntKind.i64.wrap (x - 1) * g.w)) + j), f.off, 0, 0, f.m0, f.m1, f.m2, f.m3⟩ = Y at w hst
            obtain ⟨e2, E2⟩ := Y
            have w : AFm Tryz.prog 3 f_disk_Disk_Fault [.ref 0 0, .agg [i64 f.kind, i64 (IntKind.i64.wrap (IntKind.i64.wrap (4 + IntKind.i64.wrap (IntKind.i64.wrap (x - 1) * g.w)) + j)), i64 f.off, i64 0, i64 0, .p (u8 f.m0), .p (u8 f.m1), .p (u8 f.m2), .p (u8 f.m3)]] (devH E) (Pure (i64 e2) (devH E2)) := w
            refine aw_draw [19] [] hT follows_mixed (by rfl) ?_
            refine ⟨by omega, optI hxp ?_⟩
            refine ⟨_, _, af_in [0, 3, 4] w rfl rfl rfl, ?_⟩
            repeat first | refine ⟨rfl, ?_⟩ | refine ⟨⟨by omega, optI hxp rfl⟩, ?_⟩
            exact ⟨_, wk_pick [0, 1, 2, 3, 4] [1, 3, 5, 9, 13, 14, 15, 16, 17, 18] rfl, E2, hst.symm, rfl⟩
          · have h2 : c = false := h2
            rw [h2] at hst
            exact aw_skip ⟨_, wk_pick [0, 1, 2, 3, 4] [1, 3, 5, 9, 13, 14, 15, 16, 17, 18] rfl, E, hst.symm, rfl⟩
        · rintro _ ⟨E', hE', rfl⟩
          refine aw_region hT ?_
          exact ⟨n - 1, by omega, _, wk_pick [0, 1, 2, 3, 4] [1, 3, 5, 9, 13, 14, 15, 16, 17, 18] rfl, k + 1, IntKind.i64.wrap (j + 1), E', by omega, by rw [wrap64 _ (by omega) (by omega)]; omega, hE', rfl⟩
      · refine aw_exit ?_
        exact ⟨_, wk_pick [0, 1, 2, 3, 4] [1, 5, 13, 14, 15, 16, 17] rfl, k, E, by omega, hE, rfl⟩
    · refine aw_cond ?_
      refine aw_exit ?_
      exact ⟨_, wk_pick [0, 1, 2, 3, 4] [1, 5, 13, 14, 15, 16, 17] rfl, k, E, by omega, hE, rfl⟩
  rintro _ ⟨k, E, hk, hE, rfl⟩
  obtain ⟨hF, cE⟩ := hP k hk
  rw [← hE] at hF cE
  clear hP hE
  have wL := ring_Load E g (b1 + k) cE.ok (by omega) hg
  have hl0 := rdK_bytes cE.ok (atM g 0) g.w.toNat
  have hl1 := rdK_bytes (rdK_ok cE.ok (atM g 0) g.w.toNat) (atM g 1) g.w.toNat
  have hl0 : ∀ s ∈ (load0 E g).1, s.length ≤ 256 := hl0
  have hl1 : ∀ s ∈ (load1 E g).1, s.length ≤ 256 := hl1
  generalize (load0 E g).1 = a at wL hF hl0
  generalize (load1 E g).2 = E4 at wL
  generalize (load1 E g).1 = b at wL hF hl1
  have wF := ring_Follow a b 7 g start 9 (fun s hs => Nat.le_trans (hl0 s hs) (by omega)) (fun s hs => Nat.le_trans (hl1 s hs) (by omega))
  rw [hF] at wF
  have wn := Ring_Next5 R1 E4
  have wc := Ring_Chain5 R1 E4
  generalize R1.next = nx at wF wn
  generalize R1.chain = ch at wF wc
  refine aw_cut ⟨⟨197, [(1, i64 start), (5, .p (.box g.pv)), (14, .ref 2 0), (15, i64 0), (16, .p (.sl 1 (catX T))), (17, bl true), (19, .p (.sl 1 (catX a))), (20, .p (.sl 1 (catX b)))]⟩, rgH R1 E4⟩ True (aw_region hT ?_) (fun _ => ?_)
  · refine callP (af_in [0, 3, 4] wL rfl rfl rfl) ?_
    exact ⟨wk_pick [0, 1, 2, 3, 4] [1, 5, 14, 15, 16, 17, 19, 20] rfl, trivial⟩
  have wF : AF Tryz.prog f_ring_Follow [.p (.sl 1 (catX a)), .p (.sl 1 (catX b)), i64 7, g.av, i64 start, i64 9] [] (Pure (.tup [.agg [.p (.sl 1 (catX T)), i64 nx, i64 ch, i64 ep], i64 0]) []) := wF
  refine aw_cut ⟨⟨197, [(14, .ref 2 0), (15, i64 0), (16, .p (.sl 1 (catX T))), (17, bl true), (21, .ref 5 0), (22, i64 0)]⟩, rgH R1 E4 ++ [.cells t_api_Tail [.p (.sl 1 (catX T)), i64 nx, i64 ch, i64 ep]]⟩ True (aw_region hT ?_) (fun _ => ?_)
  · refine callP (af_at wF _ rfl rfl) ?_
    exact ⟨wk_pick [0, 1, 2, 3, 4, 5] [14, 15, 16, 17, 21, 22] rfl, trivial⟩
  refine aw_cut ⟨⟨197, [(16, .p (.sl 1 (catX T))), (21, .ref 0 0)]⟩, [.cells t_api_Tail [.p (.sl 1 (catX T)), i64 nx, i64 ch, i64 ep]]⟩ True (aw_seq ?_) (fun _ => ?_)
  · refine aw_draw [] [] hT follows_mixed (by rfl) ?_
    refine boolI (fun h => ?_) (fun h => ?_)
    · have h : ((((catX T).length : Nat) : Int) != (((catX T).length : Nat) : Int)) = true := h
      simp at h
    refine ⟨_, af_in [0, 1, 2, 3, 4] wn rfl rfl rfl, ?_⟩
    refine boolI (fun h => ?_) (fun h => ?_)
    · have h : (nx != nx) = true := h
      simp at h
    refine ⟨_, af_in [0, 1, 2, 3, 4] wc rfl rfl rfl, ?_⟩
    refine aw_cond (boolI (fun h => ?_) (fun h => ?_))
    · have h : (ch != ch) = true := h
      simp at h
    exact aw_skip ⟨wk_pick [5] [16, 21] rfl, trivial⟩
  refine aw_cut ⟨⟨197, []⟩, []⟩ True (aw_seq (aw_region hT ?_)) (fun _ => ?_)
  · refine aw_block ?_
    refine aw_loopW (fun n st => ∃ (k : Nat) (j : Int), n + k = T.length ∧ j = k ∧ st = ⟨⟨197, [(16, .p (.sl 1 (catX T))), (21, .ref 0 0), (23, i64 j)]⟩, [.cells t_api_Tail [.p (.sl 1 (catX T)), i64 nx, i64 ch, i64 ep]]⟩) T.length ⟨⟨197, _⟩, _⟩ (wk_pick [0] [16, 21, 23] rfl) ⟨0, 0, rfl, rfl, rfl⟩ ?_
    rintro n st ⟨k, j, hnk, hj, rfl⟩
    refine aw_seq (aw_seq (aw_region hT ?_))
    refine aw_cond (boolI (fun h => ?_) (fun h => ?_))
    · have h := of_decide_eq_true (show decide (j < (((catX T).length : Nat) : Int)) = true from h)
      refine aw_skip ?_
      have hx := List.getElem?_eq_getElem (show k < T.length by omega)
      have hxb := hTb _ (List.getElem_mem (show k < T.length by omega))
      generalize T[k] = x at hx hxb
      have hxp : (catX T)[j.toNat]? = some [bP x] := by rw [hj, Int.toNat_natCast]; exact catX_get hx
      have ws := ref04_Same x x hxb
      rw [beq_self_eq_true] at ws
      refine aw_cut ⟨⟨197, [(16, .p (.sl 1 (catX T))), (21, .ref 0 0), (23, i64 j)]⟩, [.cells t_api_Tail [.p (.sl 1 (catX T)), i64 nx, i64 ch, i64 ep]]⟩ True (aw_block ?_) (fun _ => ?_)
      · refine aw_seq ?_
        refine aw_draw [] [] hT follows_mixed (by rfl) ?_
        refine ⟨by omega, optI hxp ?_⟩
        refine ⟨by omega, optI hxp ?_⟩
        refine ⟨_, af_at ws _ rfl rfl, ?_⟩
        refine aw_seq (aw_region hT ?_)
        refine aw_cond ?_
        exact aw_skip ⟨wk_pick [0] [16, 21, 23] rfl, trivial⟩
      · refine aw_region hT ?_
        exact ⟨n - 1, by omega, _, wk_pick [0] [16, 21, 23] rfl, k + 1, IntKind.i64.wrap (j + 1), by omega, by rw [wrap64 _ (by omega) (by omega)]; omega, rfl⟩
    · refine aw_exit ?_
      exact ⟨wk_pick [] [] rfl, trivial⟩
  refine aw_seq (aw_region hT ?_)
  refine aw_ret ?_
  exact retPick [] ⟨true, rfl, rfl, rfl⟩ rfl
end Go.Proofs.YtinfbclgkghgaaaGreat.AL
