/- A part of the proof. -/
import Derived.ProofKit
import Derived.OpenShut
import Derived.ChangeOld
import Derived.Below
import Derived.SizedLaws
import Derived.Deep.Slices
import Derived.Lib.SmallJoins
import Derived.Laws.IdiomArrays
import Derived.Test.YtinfbclgkghgaaaGreatRows
import Derived.JoinedOf
import Derived.Test.YtinfbclgkghgaaaGreatHalfL
/- The layer 11 (ring), plain: a log whose pieces stand in both mirrors. -/
namespace Go.Proofs.YtinfbclgkghgaaaGreat.AL
open Go Go.Proofs Go.Proofs.YtinfbclgkghgaaaGreat.AL.Crc

theorem cleanP_one2 {D : Dev} {N b : Nat} (h : CleanP D N b) {ps : List Put9} (hp : ∀ p ∈ ps, PutP N p) : ∃ E, D.all9 ps = (0, E) ∧ CleanP E N (b + ps.length) ∧ E.cells = putsC ps D.cells := by
  have key : ∀ (ps : List Put9) {D : Dev} {b : Nat} (m : Int), (∀ p ∈ ps, PutP N p) → CleanP D N b → ∃ E m', eachK oneG ps D m = (0, (E, m')) ∧ CleanP E N (b + ps.length) ∧ E.cells = putsC ps D.cells := by
    intro ps
    induction ps with
    | nil => intro D b m _ h; exact ⟨D, m, rfl, h, rfl⟩
    | cons p r ih =>
      intro D b m hp h
      obtain ⟨h0, h1, h2⟩ := hp p (by simp)
      have hk : ((p.at_.toNat : Nat) : Int) = p.at_ := by omega
      obtain ⟨E, g1, g2, g3⟩ := cleanP_one h (k := p.at_.toNat) (by omega) h2
      rw [hk] at g1
      obtain ⟨F, m', k1, k2, k3⟩ := ih (more 0 m) (fun q hq => hp q (by simp [hq])) g2
      refine ⟨F, m', ?_, by rw [List.length_cons, show b + (r.length + 1) = b + 1 + r.length by omega]; exact k2, by rw [k3, g3]; rfl⟩
      rw [eachK_cons]
      have eg : oneG D m p.at_ p.s = (0, (E, more 0 m)) := by unfold oneG; rw [g1]
      rw [eg]; exact k1
  obtain ⟨E, m', h1, h2, h3⟩ := key ps 0 hp h
  exact ⟨E, by unfold Dev.all9; rw [h1], h2, h3⟩

/-- The sum ahead of a piece. -/
def sumAt (vol : Int) (g : GeoV) (c0 : Int) (P : List Pc) : Nat → Int
  | 0 => c0
  | i + 1 => match P[i]? with | some p => sumP vol g p | none => c0
/-- Pieces of one epoch behind each other, from a number on. -/
structure Chain (vol : Int) (g : GeoV) (epoch frm s0 c0 : Int) (P : List Pc) : Prop where
  may : ∀ (i : Nat) (p : Pc), P[i]? = some p → p.may = true ∧ p.seq = s0 + i ∧ p.epoch = epoch ∧ p.frm = frm ∧ p.chain = sumAt vol g c0 P i
def slotOf (g : GeoV) (s0 : Int) (i : Nat) : Int := (s0 + i).tmod g.w
theorem slot_ne {g : GeoV} (hg : g.may = true) {s0 : Int} (h0 : 0 ≤ s0) {i j : Nat} (hij : i < j) (hj : (j : Int) < i + g.w) : slotOf g s0 i ≠ slotOf g s0 j := by
  obtain ⟨g1, g2, _⟩ := g.of_may hg
  unfold slotOf
  rw [Int.tmod_eq_emod_of_nonneg (by omega), Int.tmod_eq_emod_of_nonneg (by omega)]
  intro e
  have h1 := Int.emod_emod_of_dvd (s0 + (j : Int) - (s0 + (i : Int))) (Int.dvd_refl g.w)
  have h2 : (s0 + (j : Int) - (s0 + (i : Int))) % g.w = 0 := by rw [Int.sub_emod, e, Int.sub_self, Int.zero_emod]
  rw [show s0 + (j : Int) - (s0 + (i : Int)) = ((j - i : Nat) : Int) by omega] at h2
  rw [Int.emod_eq_of_lt (by omega) (by omega)] at h2
  omega

/-- What two mirrors tell: of each piece at least one, of what is behind nothing; there one is clean. -/
structure Tells (vol : Int) (g : GeoV) (s0 : Int) (P : List Pc) (a b : List Bytes) : Prop where
  one : ∀ (i : Nat) (p : Pc), P[i]? = some p → (cand1 vol g 0 a (s0 + i) = [p] ∨ cand1 vol g 0 a (s0 + i) = []) ∧ (cand1 vol g 1 b (s0 + i) = [p] ∨ cand1 vol g 1 b (s0 + i) = []) ∧ ¬ (cand1 vol g 0 a (s0 + i) = [] ∧ cand1 vol g 1 b (s0 + i) = [])
  stop : (P.length : Int) < g.w → cand1 vol g 0 a (s0 + P.length) = [] ∧ cand1 vol g 1 b (s0 + P.length) = [] ∧ cleanB vol g a b (slotOf g s0 P.length) = true

theorem pick_same (S : RdS) (p : Pc) (hf : fitsS S p = true) {C0 C1 : List Pc} (h0 : C0 = [p] ∨ C0 = []) (h1 : C1 = [p] ∨ C1 = []) (hn : ¬ (C0 = [] ∧ C1 = [])) : pickS S (sort2 (C0 ++ C1)) = some p := by
  have e2 : sort2 [p, p] = [p, p] := by rw [sort2_eq]; split <;> rfl
  rcases h0 with rfl | rfl <;> rcases h1 with rfl | rfl
  · show pickS S (sort2 [p, p]) = _
    rw [e2, find2, hf]
  · show pickS S [p] = _
    rw [find1, hf]
  · show pickS S [p] = _
    rw [find1, hf]
  · exact absurd ⟨rfl, rfl⟩ hn

def withSums (vol : Int) (g : GeoV) (P : List Pc) : List (Pc × Int) := P.map fun p => (p, sumP vol g p)
theorem goL_chain {vol : Int} {g : GeoV} {epoch frm s0 c0 : Int} {P : List Pc} {a b : List Bytes} (hg : g.may = true) (hch : Chain vol g epoch frm s0 c0 P) (ht : Tells vol g s0 P a b) (he : 0 ≤ epoch) :
    ∀ (n i : Nat) (S : RdS), i ≤ P.length → (n : Int) = g.w - i → (P.length : Int) ≤ g.w → S.sum = sumAt vol g c0 P i → (i = 0 → S.some_ = false ∧ S.last.epoch = 0) → (0 < i → S.some_ = true ∧ S.last.epoch = epoch ∧ S.last.frm = frm) →
      goL vol g a b n (s0 + i) S = (withSums vol g (P.drop i), false)
  | 0, i, S, hi, hn, hP, _, _, _ => by
    rw [List.drop_eq_nil_of_le (by omega)]; rfl
  | n + 1, i, S, hi, hn, hP, hs, h0, h1 => by
    by_cases hlt : i < P.length
    · have hx := List.getElem?_eq_getElem hlt
      have hd := List.drop_eq_getElem_cons hlt
      generalize P[i] = p at hx hd
      obtain ⟨m1, m2, m3, m4, m5⟩ := hch.may i p hx
      obtain ⟨t1, t2, t3⟩ := ht.one i p hx
      have hf : fitsS S p = true := by
        unfold fitsS
        rw [m5, hs, show ((sumAt vol g c0 P i) != (sumAt vol g c0 P i)) = false by simp, Bool.false_or, m3]
        rcases Nat.eq_zero_or_pos i with hi0 | hi0
        · obtain ⟨q1, q2⟩ := h0 hi0
          rw [q1, q2, decide_eq_false (show ¬ epoch < 0 by omega)]; rfl
        · obtain ⟨q1, q2, q3⟩ := h1 hi0
          rw [q1, q2, q3, m4, decide_eq_false (show ¬ epoch < epoch by omega)]
          simp
      have hpk : pickS S (cands vol g a b (s0 + i)) = some p := pick_same S p hf t1 t2 t3
      unfold goL
      rw [hpk]
      have ih := goL_chain hg hch ht he n (i + 1) ⟨p, true, sumP vol g p, false⟩ (by omega) (by omega) hP (by have e : sumAt vol g c0 P (i + 1) = sumP vol g p := (by show (match P[i]? with | some p => sumP vol g p | none => c0) = _; rw [hx]); exact e.symm) (fun h => absurd h (by omega)) (fun _ => ⟨rfl, m3, m4⟩)
      rw [show s0 + ((i + 1 : Nat) : Int) = s0 + (i : Int) + 1 by omega] at ih
      simp only
      rw [ih, hd]; rfl
    · have hi2 : i = P.length := by omega
      obtain ⟨t1, t2, t3⟩ := ht.stop (by omega)
      have hc : cands vol g a b (s0 + i) = [] := by unfold cands; rw [hi2, t1, t2]; rfl
      unfold goL
      rw [hc, hi2]
      rw [List.drop_length]
      show ([], [].isEmpty && !cleanB vol g a b (slotOf g s0 P.length)) = _
      rw [t3]; rfl

theorem follow_chain {vol : Int} {g : GeoV} {epoch frm s0 c0 : Int} {P : List Pc} {a b : List Bytes} (hg : g.may = true) (hch : Chain vol g epoch frm s0 c0 P) (ht : Tells vol g s0 P a b) (he : 0 ≤ epoch) (hP : (P.length : Int) ≤ g.w) (hok : logOk vol g a b s0 c0 = true) :
    followB vol g a b s0 c0 = (groupB (withSums vol g P) s0 c0, 0) := by
  rw [follow_ref]
  unfold refB
  obtain ⟨g1, g2, _⟩ := g.of_may hg
  have := goL_chain hg hch ht he g.w.toNat 0 (rd0 c0) (Nat.zero_le _) (by omega) hP rfl (fun _ => ⟨rfl, rfl⟩) (fun h => absurd h (by omega))
  rw [show s0 + ((0 : Nat) : Int) = s0 by omega, List.drop_zero] at this
  rw [hok, this]
end Go.Proofs.YtinfbclgkghgaaaGreat.AL

/- The layer 11 (ring), plain: what an append leaves on a clean device. -/
namespace Go.Proofs.YtinfbclgkghgaaaGreat.AL
open Go Go.Proofs Go.Proofs.YtinfbclgkghgaaaGreat.AL.Crc

/-- The sectors of both mirrors. -/
structure CellsP (vol : Int) (g : GeoV) (s0 : Int) (P : List Pc) (cs : List Cell) : Prop where
  used : ∀ (i : Nat) (p : Pc), P[i]? = some p → ∀ m : Int, (m = 0 ∨ m = 1) → cs[(addrB g m (slotOf g s0 i)).toNat]? = some (fine (p.sector vol g m).1)
  free : ∀ k m : Int, 0 ≤ k → k < g.w → (m = 0 ∨ m = 1) → (∀ i : Nat, i < P.length → slotOf g s0 i ≠ k) → cs[(addrB g m k).toNat]? = some (fine (freeS vol (addrB g m k).toNat))
theorem addr0 (g : GeoV) (k : Int) : addrB g 0 k = 4 + k := by unfold addrB; omega
theorem addr1 (g : GeoV) (k : Int) : addrB g 1 k = 4 + g.w + k := by unfold addrB; omega
theorem slot_in {g : GeoV} (hg : g.may = true) {s0 : Int} (h0 : 0 ≤ s0) (i : Nat) : 0 ≤ slotOf g s0 i ∧ slotOf g s0 i < g.w := slot_ok hg (by omega)

theorem puts_get {R : Rg} (hg : R.g.may = true) {p : Pc} (hp : 0 ≤ p.seq) {cs : List Cell} (hl : cs.length = R.g.secs) {k m : Int} (k0 : 0 ≤ k) (k1 : k < R.g.w) (hm : m = 0 ∨ m = 1) :
    (putsC (putsR R p) cs)[(addrB R.g m k).toNat]? = if k = p.seq.tmod R.g.w then some (fine (p.sector R.vol R.g m).1) else cs[(addrB R.g m k).toNat]? := by
  obtain ⟨s0, s1⟩ := slot_ok hg hp
  obtain ⟨_, _, q⟩ := secs_le hg
  obtain ⟨g1, _⟩ := R.g.of_may hg
  show ((cs.set (addrB R.g 0 (p.seq.tmod R.g.w)).toNat (fine (p.sector R.vol R.g 0).1)).set (addrB R.g 1 (p.seq.tmod R.g.w)).toNat (fine (p.sector R.vol R.g 1).1))[(addrB R.g m k).toNat]? = _
  generalize p.seq.tmod R.g.w = j at s0 s1
  rw [addr0, addr1, List.getElem?_set, List.getElem?_set, List.length_set]
  rcases hm with rfl | rfl
  · rw [addr0, if_neg (by omega)]
    by_cases e : k = j
    · rw [if_pos (by omega), if_pos (by omega), if_pos e]
    · rw [if_neg (by omega), if_neg e]
  · rw [addr1]
    by_cases e : k = j
    · rw [if_pos (by omega), if_pos (by omega), if_pos e]
    · rw [if_neg (by omega), if_neg (by omega), if_neg e]

theorem CellsP.snoc {R : Rg} (hg : R.g.may = true) {s0 : Int} {P : List Pc} {cs : List Cell} (h : CellsP R.vol R.g s0 P cs) (h0 : 0 ≤ s0) (hl : cs.length = R.g.secs) {p : Pc} (hs : p.seq = s0 + P.length) (hP : (P.length : Int) < R.g.w) : CellsP R.vol R.g s0 (P ++ [p]) (putsC (putsR R p) cs) := by
  have hk : p.seq.tmod R.g.w = slotOf R.g s0 P.length := by rw [hs]; rfl
  refine ⟨fun i q hq m hm => ?_, fun k m k0 k1 hm hn => ?_⟩
  · obtain ⟨i0, i1⟩ := slot_in hg h0 i
    rw [puts_get hg (by omega) hl i0 i1 hm, hk]
    rw [List.getElem?_append] at hq
    by_cases e : i < P.length
    · rw [if_pos e] at hq
      rw [if_neg (slot_ne hg h0 e (by omega))]
      exact h.used i q hq m hm
    · rw [if_neg e] at hq
      have hi : i = P.length := by
        have := (List.getElem?_eq_some_iff.1 hq).1
        rw [List.length_singleton] at this
        omega
      rw [hi, Nat.sub_self] at hq
      have hq : p = q := Option.some.inj hq
      rw [hi, if_pos rfl, hq]
  · rw [puts_get hg (by omega) hl k0 k1 hm, hk]
    rw [if_neg (fun e => hn P.length (by rw [List.length_append, List.length_singleton]; omega) e.symm)]
    exact h.free k m k0 k1 hm fun i hi => hn i (by rw [List.length_append]; omega)

theorem sumAt_app (vol : Int) (g : GeoV) (c0 : Int) (P r : List Pc) {i : Nat} (hi : i ≤ P.length) : sumAt vol g c0 (P ++ r) i = sumAt vol g c0 P i := by
  cases i with
  | zero => rfl
  | succ i =>
    show (match (P ++ r)[i]? with | some p => sumP vol g p | none => c0) = match P[i]? with | some p => sumP vol g p | none => c0
    rw [List.getElem?_append_left (by omega)]
theorem sumAt_snoc (vol : Int) (g : GeoV) (c0 : Int) (P : List Pc) (p : Pc) : sumAt vol g c0 (P ++ [p]) (P ++ [p]).length = sumP vol g p := by
  rw [List.length_append, List.length_singleton]
  show (match (P ++ [p])[P.length]? with | some p => sumP vol g p | none => c0) = _
  rw [List.getElem?_append_right (Nat.le_refl _), Nat.sub_self]; rfl

/-- A log on a clean device. -/
structure LogP (R : Rg) (D : Dev) (b : Nat) (s0 c0 : Int) (P : List Pc) : Prop where
  ok : R.Ok
  clean : CleanP D R.g.secs b
  cells : CellsP R.vol R.g s0 P D.cells
  chain : Chain R.vol R.g R.epoch R.frm s0 c0 P
  next : R.next = s0 + P.length
  sum : R.chain = sumAt R.vol R.g c0 P P.length
  zero : 0 ≤ s0
  len : (P.length : Int) ≤ R.g.w
def nxR (R : Rg) (p : Pc) : Rg := { R with next := R.next + 1, chain := sumP R.vol R.g p }

theorem sector_len {p : Pc} {vol : Int} {g : GeoV} {m : Int} (hp : p.may = true) (hg : g.may = true) (hv : wordB vol = true) (m0 : 0 ≤ m) (m2 : m < 2) : (p.sector vol g m).1.length = 256 := by
  rw [(sectorP_ok hp hg hv m0 m2).1]
  have := pcB_len hp
  show (sealB _).length = 256
  rw [sealB_len, all_len _ (by show (pcB p).length ≤ 228; omega)]

theorem putR_clean {R : Rg} (hR : R.Ok) {D : Dev} {b : Nat} (h : CleanP D R.g.secs b) {p : Pc} (hp : p.may = true) : ∃ E, putR R D p = (0, (nxR R p, E)) ∧ CleanP E R.g.secs (b + 2) ∧ E.cells = putsC (putsR R p) D.cells := by
  obtain ⟨s0, s1⟩ := slot_ok hR.g (p.of_may hp).1.1
  obtain ⟨_, _, q⟩ := secs_le hR.g
  have l0 := sector_len hp hR.g hR.vol (Int.le_refl 0) (by omega)
  have l1 := sector_len hp hR.g hR.vol (m := 1) (by omega) (by omega)
  obtain ⟨E, h1, h2, h3⟩ := cleanP_one2 h (ps := putsR R p) (by
    intro q hq
    unfold putsR at hq
    simp only [List.mem_cons, List.not_mem_nil, or_false] at hq
    rcases hq with rfl | rfl
    · exact ⟨by rw [addr0]; show (0 : Int) ≤ 4 + _; omega, by rw [addr0]; show 4 + _ < _; omega, l0⟩
    · exact ⟨by rw [addr1]; show (0 : Int) ≤ 4 + R.g.w + _; omega, by rw [addr1]; show 4 + R.g.w + _ < _; omega, l1⟩)
  refine ⟨E, ?_, h2, h3⟩
  unfold putR
  rw [h1]; rfl

theorem LogP.snoc {R : Rg} {D : Dev} {b : Nat} {s0 c0 : Int} {P : List Pc} (h : LogP R D b s0 c0 P) (hP : (P.length : Int) < R.g.w) {i n : Int} {x : Bytes} (hp : (pcR R i n x).may = true) (hn : R.next < 4294967295) :
    ∃ E, putR R D (pcR R i n x) = (0, (nxR R (pcR R i n x), E)) ∧ LogP (nxR R (pcR R i n x)) E (b + 2) s0 c0 (P ++ [pcR R i n x]) := by
  obtain ⟨E, h1, h2, h3⟩ := putR_clean h.ok h.clean hp
  refine ⟨E, h1, ?_⟩
  have hw := sumP_word R.vol R.g (pcR R i n x)
  have hq : (pcR R i n x).seq = R.next ∧ (pcR R i n x).epoch = R.epoch ∧ (pcR R i n x).frm = R.frm ∧ (pcR R i n x).chain = R.chain := ⟨rfl, rfl, rfl, rfl⟩
  generalize pcR R i n x = p at hp h1 h3 hw hq
  obtain ⟨q1, q2, q3, q4⟩ := hq
  obtain ⟨o1, o2, o3, o4, o5, o6, o7⟩ := h.ok
  have c := CellsP.snoc o1 h.cells h.zero h.clean.len (p := p) (by rw [q1, h.next]) hP
  refine ⟨⟨o1, o2, o3, ⟨o4.1, ?_⟩, ⟨o5.1, ?_⟩, ?_, hw⟩, h2, by rw [h3]; exact c, ⟨fun j q hj => ?_⟩, ?_, (sumAt_snoc R.vol R.g c0 P p).symm, h.zero, ?_⟩
  · show R.frm ≤ R.next + 1; omega
  · show R.start ≤ R.next + 1; omega
  · show R.next + 1 ≤ _; omega
  · rw [List.getElem?_append] at hj
    by_cases e : j < P.length
    · rw [if_pos e] at hj
      rw [sumAt_app _ _ _ _ _ (by omega)]
      exact h.chain.may j q hj
    · rw [if_neg e] at hj
      have hi : j = P.length := by
        have := (List.getElem?_eq_some_iff.1 hj).1
        rw [List.length_singleton] at this
        omega
      rw [hi, Nat.sub_self] at hj
      have hj : p = q := Option.some.inj hj
      rw [sumAt_app _ _ _ _ _ (by omega), hi, ← hj]
      exact ⟨hp, by rw [q1, h.next], q2, q3, by rw [q4]; exact h.sum⟩
  · show R.next + 1 = _
    rw [List.length_append, List.length_singleton, h.next]; omega
  · rw [List.length_append, List.length_singleton]; show ((P.length + 1 : Nat) : Int) ≤ R.g.w; omega

/-- The pieces of a transaction, and the log behind it. -/
def mkP (n : Int) : List Bytes → Int → Rg → List Pc
  | [], _, _ => []
  | b :: r, i, R => pcR R i n b :: mkP n r (i + 1) (nxR R (pcR R i n b))
def advR (n : Int) : List Bytes → Int → Rg → Rg
  | [], _, R => R
  | b :: r, i, R => advR n r (i + 1) (nxR R (pcR R i n b))
theorem mkP_len (n : Int) : ∀ (l : List Bytes) (i : Int) (R : Rg), (mkP n l i R).length = l.length
  | [], _, _ => rfl
  | b :: r, i, R => by show (mkP n r (i + 1) _).length + 1 = _; rw [mkP_len n r]; rfl
theorem advR_id (n : Int) : ∀ (l : List Bytes) (i : Int) (R : Rg), (advR n l i R).g = R.g ∧ (advR n l i R).vol = R.vol ∧ (advR n l i R).epoch = R.epoch ∧ (advR n l i R).frm = R.frm ∧ (advR n l i R).start = R.start ∧ (advR n l i R).next = R.next + l.length
  | [], _, R => ⟨rfl, rfl, rfl, rfl, rfl, by show R.next = R.next + 0; omega⟩
  | b :: r, i, R => by
    obtain ⟨h1, h2, h3, h4, h5, h6⟩ := advR_id n r (i + 1) (nxR R (pcR R i n b))
    refine ⟨h1, h2, h3, h4, h5, ?_⟩
    show (advR n r (i + 1) (nxR R (pcR R i n b))).next = _
    rw [h6, List.length_cons]
    show R.next + 1 + _ = _
    omega
theorem appK_P (n : Int) (hn : n ≤ 64) {s0 c0 : Int} : ∀ (l : List Bytes) (i : Int) (R : Rg) (D : Dev) (b : Nat) (P : List Pc), LogP R D b s0 c0 P → 0 ≤ i → i + l.length ≤ n → (∀ s ∈ l, s.length ≤ 200) → ((P.length + l.length : Nat) : Int) ≤ R.g.w → R.next + l.length ≤ 4294967295 →
    ∃ E, appK n l i R D = (0, (advR n l i R, E)) ∧ LogP (advR n l i R) E (b + 2 * l.length) s0 c0 (P ++ mkP n l i R)
  | [], i, R, D, b, P, h, _, _, _, _, _ => ⟨D, rfl, by rw [show mkP n [] i R = [] from rfl, List.append_nil]; exact h⟩
  | x :: r, i, R, D, b, P, h, h0, hi, hl, hP, hx => by
    rw [List.length_cons] at hi hP hx
    have hp := pcR_may h.ok (i := i) (n := n) (b := x) h0 (by omega) hn (hl x (by simp))
    obtain ⟨E, e1, e2⟩ := h.snoc (by omega) hp (by omega)
    obtain ⟨F, f1, f2⟩ := appK_P n hn r (i + 1) (nxR R (pcR R i n x)) E (b + 2) (P ++ [pcR R i n x]) e2 (by omega) (by omega) (fun s hs => hl s (by simp [hs])) (by rw [List.length_append, List.length_singleton]; show _ ≤ R.g.w; omega) (by show R.next + 1 + _ ≤ _; omega)
    refine ⟨F, ?_, ?_⟩
    · show (match (putR R D (pcR R i n x)).1 != 0 with
        | true => putR R D (pcR R i n x)
        | false => appK n r (i + 1) (putR R D (pcR R i n x)).2.1 (putR R D (pcR R i n x)).2.2) = _
      rw [e1]
      exact f1
    · rw [List.append_assoc] at f2
      rw [List.length_cons, show b + 2 * (r.length + 1) = b + 2 + 2 * r.length by omega]
      exact f2
/-- AN APPEND: what it answers where nothing is wrong. -/
theorem append_P {R : Rg} {D : Dev} {b : Nat} {s0 c0 : Int} {P : List Pc} (h : LogP R D b s0 c0 P) (hs : R.start = s0) (tx : Bytes) (h64 : (splitB tx).length ≤ 64) (hP : ((P.length + (splitB tx).length : Nat) : Int) ≤ R.g.w) (hx : R.next + (splitB tx).length ≤ 4294967295) :
    ∃ E, R.append D tx = (0, (advR (splitB tx).length (splitB tx) 0 R, E)) ∧ LogP (advR (splitB tx).length (splitB tx) 0 R) E (b + 2 * (splitB tx).length) s0 c0 (P ++ mkP (splitB tx).length (splitB tx) 0 R) := by
  obtain ⟨E, e1, e2⟩ := appK_P (splitB tx).length (by omega) (splitB tx) 0 R D b P h (Int.le_refl _) (by omega) (splitB_all tx) hP hx
  refine ⟨E, ?_, e2⟩
  have hn := h.next
  unfold Rg.append
  rw [decide_eq_false (show ¬ (splitB tx).length > 64 by omega)]
  simp only
  rw [decide_eq_false (show ¬ R.next + (splitB tx).length - R.start > R.g.w by omega), decide_eq_false (show ¬ R.next + ((splitB tx).length : Int) > 4294967295 by omega)]
  exact e1
end Go.Proofs.YtinfbclgkghgaaaGreat.AL

/- The layer 11 (ring), plain: what is read of a log, and told of it. -/
namespace Go.Proofs.YtinfbclgkghgaaaGreat.AL
open Go Go.Proofs Go.Proofs.YtinfbclgkghgaaaGreat.AL.Crc

theorem rdK_P {D : Dev} {N b : Nat} (h : CleanP D N b) (at_ : Nat → Int) (n : Nat) (hat : ∀ i, i < n → 0 ≤ at_ i ∧ at_ i < N) : ∀ k, k ≤ n → (rdK D at_ k).1 = (List.range k).map (fun i => cellB D (at_ i).toNat) ∧ CleanP (rdK D at_ k).2 N b ∧ (rdK D at_ k).2.cells = D.cells
  | 0, _ => ⟨rfl, h, rfl⟩
  | k + 1, hk => by
    obtain ⟨h1, h2, h3⟩ := rdK_P h at_ n hat k (by omega)
    obtain ⟨a0, a1⟩ := hat k (by omega)
    have hc : (((at_ k).toNat : Nat) : Int) = at_ k := by omega
    obtain ⟨r1, r2, r3⟩ := readP h2 (k := (at_ k).toNat) (by omega)
    rw [hc] at r1 r2
    refine ⟨?_, ?_, ?_⟩
    · show (rdK D at_ k).1 ++ [((rdK D at_ k).2.read (at_ k)).1.1] = _
      rw [h1, r1, List.range_succ, List.map_append]
      congr 1
      show [cellB _ _] = [cellB _ _]
      unfold cellB
      rw [h3]
    · show CleanP ((rdK D at_ k).2.read (at_ k)).2 N b
      rw [r2]; exact r3
    · show ((rdK D at_ k).2.read (at_ k)).2.cells = _
      rw [r2]; exact h3
theorem load_P {D : Dev} {g : GeoV} {b : Nat} (hg : g.may = true) (h : CleanP D g.secs b) : (load0 D g).1 = (List.range g.w.toNat).map (fun (i : Nat) => cellB D (addrB g 0 i).toNat) ∧ (load1 D g).1 = (List.range g.w.toNat).map (fun (i : Nat) => cellB D (addrB g 1 i).toNat) ∧ CleanP (load1 D g).2 g.secs b ∧ (load1 D g).2.cells = D.cells := by
  obtain ⟨_, _, q⟩ := secs_le hg
  obtain ⟨g1, _⟩ := g.of_may hg
  obtain ⟨h1, h2, h3⟩ := rdK_P h (atM g 0) g.w.toNat (fun i hi => by unfold atM; rw [addr0]; omega) g.w.toNat (Nat.le_refl _)
  obtain ⟨k1, k2, k3⟩ := rdK_P h2 (atM g 1) g.w.toNat (fun i hi => by unfold atM; rw [addr1]; omega) g.w.toNat (Nat.le_refl _)
  refine ⟨h1, ?_, k2, k3.trans h3⟩
  have e : ∀ k, cellB (rdK D (atM g 0) g.w.toNat).2 k = cellB D k := fun k => by unfold cellB; rw [h3]
  refine k1.trans ?_
  refine List.map_congr_left fun i _ => ?_
  exact e _
theorem atS_map (f : Nat → Bytes) (n : Nat) {k : Int} (h0 : 0 ≤ k) (h1 : k < n) : atS ((List.range n).map f) k = f k.toNat := by
  unfold atS
  rw [List.getD_eq_getElem?_getD, List.getElem?_map, List.getElem?_range (by omega)]; rfl

theorem cand1_one {p : Pc} {vol : Int} {g : GeoV} {m : Int} (hp : p.may = true) (hg : g.may = true) (hv : wordB vol = true) (hm : m = 0 ∨ m = 1) {a : List Bytes} (h : atS a (p.seq.tmod g.w) = (p.sector vol g m).1) : cand1 vol g m a p.seq = [p] := by
  have ht := toldP_sector hp hg hv (m := m) (by omega) (by omega)
  rw [← h] at ht
  unfold cand1
  rw [ht, show (((p, true) : Pc × Bool).2 && ((p, true) : Pc × Bool).1.seq == p.seq) = true by simp]
theorem cand1_none {vol : Int} {g : GeoV} {m seq : Int} {a : List Bytes} (h : (toldP (atS a (seq.tmod g.w)) vol g m (seq.tmod g.w)).2 = false) : cand1 vol g m a seq = [] := by
  unfold cand1
  rw [h]; rfl
theorem toldP_nil (vol : Int) (g : GeoV) (m slot : Int) : (toldP [] vol g m slot).2 = false := by
  rfl
theorem pcOf_free (B : Blk) (h : B.body = []) : (pcOf B).may = false := by
  obtain ⟨k, v, a, e, q, b⟩ := B
  have h : b = [] := h
  subst h
  unfold Pc.may
  have : (pcOf ⟨k, v, a, e, q, []⟩).of_ = 0 := rfl
  rw [this]
  simp
theorem toldP_free {v : Int} (hv : wordB v = true) {k : Nat} (hk : k ≤ 4294967295) (vol : Int) (g : GeoV) (m slot : Int) : (toldP (freeS v k) vol g m slot).2 = false := by
  obtain ⟨e1, e2, _⟩ := freeS_len v hv k hk
  unfold toldP
  rw [e1, e2]
  cases ((0 : Int) != 0 || (!g.may || (freeB v k).seq.tmod g.w != slot)) with
  | true => rfl
  | false =>
    have : ((pcOf (freeB v k)).sector vol g m).2 = 1 := by
      unfold Pc.sector
      rw [pcOf_free _ rfl]; rfl
    show (match ((pcOf (freeB v k)).sector vol g m).2 != 0 || !(sealB (freeB v k).all == ((pcOf (freeB v k)).sector vol g m).1) with | true => (Pc.zero, false) | false => (pcOf (freeB v k), true) : Pc × Bool).2 = false
    rw [this]; rfl
theorem clean_free {vol : Int} (hv : wordB vol = true) {g : GeoV} {m slot : Int} (h0 : 0 ≤ addrB g m slot) (h1 : addrB g m slot ≤ 4294967295) : cleanM vol g m slot (freeS vol (addrB g m slot).toNat) = true := by
  obtain ⟨e1, e2, _⟩ := freeS_len vol hv (addrB g m slot).toNat (by omega)
  unfold cleanM
  rw [e1, e2]
  show ((0 : Int) == 0 && (vol == vol && (((addrB g m slot).toNat : Nat) : Int) == addrB g m slot)) = true
  rw [show (((addrB g m slot).toNat : Nat) : Int) = addrB g m slot by omega]
  simp

def cB (cs : List Cell) (k : Nat) : Bytes := match cs[k]? with | some c => c.s | none => []
theorem cB_fine {cs : List Cell} {k : Nat} {s : Bytes} (h : cs[k]? = some (fine s)) : cB cs k = s := by unfold cB; rw [h]; rfl

/-- Where of each slot one sector is as it was, and the other one is, or tells nothing. -/
theorem tells_P {vol : Int} {g : GeoV} {s0 : Int} {P : List Pc} {cs : List Cell} (hg : g.may = true) (hv : wordB vol = true) (h0 : 0 ≤ s0) (h : CellsP vol g s0 P cs) (hp : ∀ (i : Nat) (p : Pc), P[i]? = some p → p.may = true ∧ p.seq = s0 + i) (a b : List Bytes)
    (hab : ∀ k : Int, 0 ≤ k → k < g.w → (atS a k = cB cs (addrB g 0 k).toNat ∨ (toldP (atS a k) vol g 0 k).2 = false) ∧ (atS b k = cB cs (addrB g 1 k).toNat ∨ (toldP (atS b k) vol g 1 k).2 = false) ∧ (atS a k = cB cs (addrB g 0 k).toNat ∨ atS b k = cB cs (addrB g 1 k).toNat)) : Tells vol g s0 P a b := by
  obtain ⟨g1, g2, _⟩ := g.of_may hg
  refine ⟨fun i p hi => ?_, fun hlt => ?_⟩
  · obtain ⟨m1, m2⟩ := hp i p hi
    obtain ⟨k0, k1⟩ := slot_in hg h0 i
    obtain ⟨A, B, C⟩ := hab _ k0 k1
    have ea := cB_fine (h.used i p hi 0 (.inl rfl))
    have eb := cB_fine (h.used i p hi 1 (.inr rfl))
    rw [ea, eb] at C
    rw [ea] at A
    rw [eb] at B
    have hk : slotOf g s0 i = p.seq.tmod g.w := by rw [m2]; rfl
    rw [hk] at A B C
    rw [← m2]
    have oa : atS a (p.seq.tmod g.w) = (p.sector vol g 0).1 → cand1 vol g 0 a p.seq = [p] := cand1_one m1 hg hv (.inl rfl)
    have ob : atS b (p.seq.tmod g.w) = (p.sector vol g 1).1 → cand1 vol g 1 b p.seq = [p] := cand1_one m1 hg hv (.inr rfl)
    refine ⟨?_, ?_, ?_⟩
    · rcases A with A | A
      · exact .inl (oa A)
      · exact .inr (cand1_none A)
    · rcases B with B | B
      · exact .inl (ob B)
      · exact .inr (cand1_none B)
    · rintro ⟨x, y⟩
      rcases C with C | C
      · rw [oa C] at x; exact absurd x (by simp)
      · rw [ob C] at y; exact absurd y (by simp)
  · obtain ⟨k0, k1⟩ := slot_in hg h0 P.length
    obtain ⟨A, B, C⟩ := hab _ k0 k1
    have fr := fun m hm => h.free (slotOf g s0 P.length) m k0 k1 hm fun i hi => slot_ne hg h0 hi (by omega)
    have ea := cB_fine (fr 0 (.inl rfl))
    have eb := cB_fine (fr 1 (.inr rfl))
    rw [ea, eb] at C
    rw [ea] at A
    rw [eb] at B
    have hk : slotOf g s0 P.length = (s0 + P.length).tmod g.w := rfl
    have b0 : 0 ≤ addrB g 0 (slotOf g s0 P.length) ∧ addrB g 0 (slotOf g s0 P.length) ≤ 4294967295 := by rw [addr0]; omega
    have b1 : 0 ≤ addrB g 1 (slotOf g s0 P.length) ∧ addrB g 1 (slotOf g s0 P.length) ≤ 4294967295 := by rw [addr1]; omega
    refine ⟨cand1_none ?_, cand1_none ?_, ?_⟩
    · rw [← hk]
      rcases A with A | A
      · rw [A]; exact toldP_free hv (by omega) _ _ _ _
      · exact A
    · rw [← hk]
      rcases B with B | B
      · rw [B]; exact toldP_free hv (by omega) _ _ _ _
      · exact B
    · unfold cleanB
      rcases C with C | C
      · rw [C, clean_free hv b0.1 b0.2]; rfl
      · rw [C, clean_free hv b1.1 b1.2, Bool.or_true]
end Go.Proofs.YtinfbclgkghgaaaGreat.AL

/- The layer 11 (ring), plain: the transactions of what was appended. -/
namespace Go.Proofs.YtinfbclgkghgaaaGreat.AL
open Go Go.Proofs Go.Proofs.YtinfbclgkghgaaaGreat.AL.Crc

/-- The pieces of one transaction. -/
def SegP (s : List Pc) : Prop := s ≠ [] ∧ segOk s.length s 0 = true ∧ ∀ p ∈ s, p.of_ = s.length
def nxtP (P : List Pc) (n : Int) : Int := match P.getLast? with | some p => p.seq + 1 | none => n
def sumL (vol : Int) (g : GeoV) (P : List Pc) (c : Int) : Int := match P.getLast? with | some p => sumP vol g p | none => c
theorem lst_with (vol : Int) (g : GeoV) (P : List Pc) : lst (withSums vol g P) = P := by
  unfold lst withSums
  rw [List.map_map]
  exact (List.map_congr_left fun p _ => rfl).trans (List.map_id P)
theorem with_take (vol : Int) (g : GeoV) (P : List Pc) (n : Nat) : (withSums vol g P).take n = withSums vol g (P.take n) := by unfold withSums; rw [List.map_take]
theorem with_drop (vol : Int) (g : GeoV) (P : List Pc) (n : Nat) : (withSums vol g P).drop n = withSums vol g (P.drop n) := by unfold withSums; rw [List.map_drop]
theorem nxtP_app (a b : List Pc) (n : Int) : nxtP (a ++ b) n = nxtP b (nxtP a n) := by
  unfold nxtP
  rcases List.eq_nil_or_concat b with rfl | ⟨l, x, rfl⟩
  · simp
  · rw [List.concat_eq_append, ← List.append_assoc]; simp
theorem sumL_app (vol : Int) (g : GeoV) (a b : List Pc) (n : Int) : sumL vol g (a ++ b) n = sumL vol g b (sumL vol g a n) := by
  unfold sumL
  rcases List.eq_nil_or_concat b with rfl | ⟨l, x, rfl⟩
  · simp
  · rw [List.concat_eq_append, ← List.append_assoc]; simp
theorem sms_last (vol : Int) (g : GeoV) (s : List Pc) (hs : s ≠ []) (c : Int) : (sms (withSums vol g s)).getLastD 0 = sumL vol g s c := by
  unfold sms withSums sumL
  rw [List.map_map]
  rcases List.eq_nil_or_concat s with rfl | ⟨l, x, rfl⟩
  · exact absurd rfl hs
  · rw [List.concat_eq_append, List.map_append]; simp
theorem lastR_seq (s : List Pc) (hs : s ≠ []) (n : Int) : (lastR s).seq + 1 = nxtP s n := by
  unfold nxtP
  rcases List.eq_nil_or_concat s with rfl | ⟨l, x, rfl⟩
  · exact absurd rfl hs
  · rw [List.concat_eq_append, lastR_snoc]; simp

theorem grpL_segs (vol : Int) (g : GeoV) : ∀ (Q : List (List Pc)) (f : Nat) (t : TailV), (∀ s ∈ Q, SegP s) → Q.flatten.length ≤ f →
    grpL f (withSums vol g Q.flatten) t = { t with txs := t.txs ++ Q.map catB, next := nxtP Q.flatten t.next, chain := sumL vol g Q.flatten t.chain }
  | [], f, t, _, _ => by
    show grpL f [] t = _
    rw [grpL_nil]
    obtain ⟨a, b, c, d⟩ := t
    simp [nxtP, sumL]
  | s :: Q, f, t, hQ, hf => by
    obtain ⟨h1, h2, h3⟩ := hQ s (by simp)
    rw [List.flatten_cons] at hf ⊢
    rw [List.length_append] at hf
    obtain ⟨p, r, rfl⟩ : ∃ p r, s = p :: r := by
      cases s with
      | nil => exact absurd rfl h1
      | cons p r => exact ⟨p, r, rfl⟩
    have hof := h3 p (by simp)
    rw [List.length_cons] at hf hof
    obtain ⟨f, rfl⟩ : ∃ k, f = k + 1 := ⟨f - 1, by omega⟩
    have hw : withSums vol g (p :: r ++ Q.flatten) = (p, sumP vol g p) :: withSums vol g (r ++ Q.flatten) := rfl
    have ht : ((p, sumP vol g p) :: withSums vol g (r ++ Q.flatten)).take p.of_.toNat = withSums vol g (p :: r) := by
      rw [← hw, with_take, hof, Int.toNat_natCast, show r.length + 1 = (p :: r).length from rfl, List.take_left]
    have hd : ((p, sumP vol g p) :: withSums vol g (r ++ Q.flatten)).drop p.of_.toNat = withSums vol g Q.flatten := by
      rw [← hw, with_drop, hof, Int.toNat_natCast, show r.length + 1 = (p :: r).length from rfl, List.drop_left]
    have hl : (withSums vol g (r ++ Q.flatten)).length = r.length + Q.flatten.length := by unfold withSums; rw [List.length_map, List.length_append]
    rw [hw, grpL_cons, ht, hd, lst_with, hl, decide_eq_false (show ¬ p.of_ > ((r.length + Q.flatten.length + 1 : Nat) : Int) by omega)]
    have h2 : segOk p.of_ (p :: r) 0 = true := by rw [hof]; exact h2
    rw [h2]
    simp only [Bool.not_true, Bool.or_false]
    rw [grpL_segs vol g Q f _ (fun s hs => hQ s (by simp [hs])) (by omega)]
    rw [nxtP_app, sumL_app, sms_last vol g (p :: r) (by simp) t.chain, lastR_seq (p :: r) (by simp) t.next]
    simp

theorem splitF_cat : ∀ (f : Nat) (b : Bytes), (splitF f b).flatten = b
  | 0, b => by simp [splitF]
  | f + 1, b => by
    unfold splitF
    split
    · rw [List.flatten_cons, splitF_cat f, List.take_append_drop]
    · simp
theorem splitB_cat (b : Bytes) : (splitB b).flatten = b := splitF_cat _ b
theorem mkP_cat (n : Int) : ∀ (l : List Bytes) (i : Int) (R : Rg), catB (mkP n l i R) = l.flatten
  | [], _, _ => rfl
  | b :: r, i, R => by
    show catB (pcR R i n b :: mkP n r (i + 1) (nxR R (pcR R i n b))) = _
    have := mkP_cat n r (i + 1) (nxR R (pcR R i n b))
    unfold catB at this ⊢
    rw [List.map_cons, List.flatten_cons, this, List.flatten_cons]; rfl
theorem mkP_seg (n : Int) : ∀ (l : List Bytes) (i : Int) (R : Rg), segOk n (mkP n l i R) i = true ∧ ∀ p ∈ mkP n l i R, p.of_ = n
  | [], _, _ => ⟨rfl, fun _ h => by simp [mkP] at h⟩
  | b :: r, i, R => by
    obtain ⟨h1, h2⟩ := mkP_seg n r (i + 1) (nxR R (pcR R i n b))
    refine ⟨?_, fun p hp => ?_⟩
    · show (match (pcR R i n b).index != i || (pcR R i n b).of_ != n with | true => false | false => segOk n (mkP n r (i + 1) (nxR R (pcR R i n b))) (i + 1)) = true
      rw [show ((pcR R i n b).index != i || (pcR R i n b).of_ != n) = false by show (i != i || n != n) = false; simp]
      exact h1
    · have hp : p ∈ pcR R i n b :: mkP n r (i + 1) (nxR R (pcR R i n b)) := hp
      rw [List.mem_cons] at hp
      rcases hp with rfl | hp
      · rfl
      · exact h2 p hp
theorem tx_seg (tx : Bytes) (R : Rg) : SegP (mkP (splitB tx).length (splitB tx) 0 R) ∧ catB (mkP (splitB tx).length (splitB tx) 0 R) = tx := by
  have hl := mkP_len (splitB tx).length (splitB tx) 0 R
  have hp := splitB_pos tx
  obtain ⟨h1, h2⟩ := mkP_seg (splitB tx).length (splitB tx) 0 R
  refine ⟨⟨fun h => ?_, by rw [hl]; exact h1, by rw [hl]; exact h2⟩, by rw [mkP_cat, splitB_cat]⟩
  rw [h] at hl
  rw [List.length_nil] at hl
  omega

theorem nxtP_chain {vol : Int} {g : GeoV} {e f s0 c0 : Int} {P : List Pc} (h : Chain vol g e f s0 c0 P) : nxtP P s0 = s0 + P.length ∧ sumL vol g P c0 = sumAt vol g c0 P P.length := by
  unfold nxtP sumL
  rw [List.getLast?_eq_getElem?]
  cases hl : P.length with
  | zero =>
    have : P = [] := List.length_eq_zero_iff.mp hl
    subst this
    exact ⟨by simp, rfl⟩
  | succ n =>
    have hx := List.getElem?_eq_getElem (show n < P.length by omega)
    generalize P[n] = p at hx
    have := (h.may n p hx).2.1
    rw [show n + 1 - 1 = n by omega, hx]
    refine ⟨by simp only; omega, ?_⟩
    show _ = (match P[n]? with | some p => sumP vol g p | none => c0)
    rw [hx]
def epQ (Q : List (List Pc)) (e : Int) : Int := match Q with | [] => 0 | _ :: _ => e
/-- WHAT A LOG TELLS. -/
theorem told_log {R : Rg} {D : Dev} {b : Nat} {s0 c0 : Int} {Q : List (List Pc)} (h : LogP R D b s0 c0 Q.flatten) (hQ : ∀ s ∈ Q, SegP s) {x y : List Bytes} (hc : wordB c0 = true) (hx : (x.length : Int) = R.g.w) (hy : (y.length : Int) = R.g.w) (ht : Tells R.vol R.g s0 Q.flatten x y) :
    followB R.vol R.g x y s0 c0 = (⟨Q.map catB, R.next, R.chain, epQ Q R.epoch⟩, 0) := by
  have hn := h.next
  have hz := h.zero
  have hs : wordB s0 = true := by
    have := h.ok.n
    unfold wordB; simp only [Bool.and_eq_true, decide_eq_true_eq]; omega
  have hok : logOk R.vol R.g x y s0 c0 = true := by
    unfold logOk
    rw [h.ok.g, h.ok.vol, hs, hc, hx, hy]
    simp
  rw [follow_chain h.ok.g h.chain ht h.ok.e.1 h.len hok]
  unfold groupB
  have hl : (withSums R.vol R.g Q.flatten).length = Q.flatten.length := by unfold withSums; rw [List.length_map]
  rw [hl, grpL_segs R.vol R.g Q _ _ hQ (Nat.le_refl _)]
  obtain ⟨e1, e2⟩ := nxtP_chain h.chain
  simp only [List.nil_append]
  rw [e1, e2, ← hn, ← h.sum]
  congr 2
  unfold lastE withSums
  rw [List.getLast?_map]
  cases Q with
  | nil => rfl
  | cons s r =>
    have hne : (s :: r).flatten ≠ [] := fun e => (hQ s (by simp)).1 (by rw [List.flatten_cons] at e; exact (List.append_eq_nil_iff.mp e).1)
    obtain ⟨p, hp⟩ : ∃ p, (s :: r).flatten.getLast? = some p := by
      cases hg : (s :: r).flatten.getLast? with
      | none => rw [List.getLast?_eq_none_iff] at hg; exact absurd hg hne
      | some p => exact ⟨p, rfl⟩
    rw [hp]
    rw [List.getLast?_eq_getElem?] at hp
    exact (h.chain.may _ _ hp).2.2.1
end Go.Proofs.YtinfbclgkghgaaaGreat.AL

/- The layer 11 (ring), plain: a log on a new device, and what is read of it behind damage. -/
namespace Go.Proofs.YtinfbclgkghgaaaGreat.AL
open Go Go.Proofs Go.Proofs.YtinfbclgkghgaaaGreat.AL.Crc

theorem CellsP.all {vol : Int} {g : GeoV} {s0 : Int} {P : List Pc} {cs : List Cell} (h : CellsP vol g s0 P cs) {k m : Int} (k0 : 0 ≤ k) (k1 : k < g.w) (hm : m = 0 ∨ m = 1) : ∃ s, cs[(addrB g m k).toNat]? = some (fine s) := by
  by_cases e : ∃ i : Nat, i < P.length ∧ slotOf g s0 i = k
  · obtain ⟨i, hi, rfl⟩ := e
    exact ⟨_, h.used i _ (List.getElem?_eq_getElem hi) m hm⟩
  · exact ⟨_, h.free k m k0 k1 hm fun i hi he => e ⟨i, hi, he⟩⟩
theorem newOk_ok {vol : Int} {g : GeoV} {epoch start next chain : Int} (h : newOk vol g epoch start next chain = true) : (newR vol g epoch start next chain).Ok := by
  unfold newOk at h
  rw [Bool.and_eq_true, Bool.and_eq_true, Bool.and_eq_true] at h
  obtain ⟨hg, hw, h1, h2⟩ := h
  have hv : wordB vol = true := by simp only [List.all_cons, Bool.and_eq_true] at hw; exact hw.1
  unfold wordB at hw
  simp only [List.all_cons, List.all_nil, Bool.and_true, Bool.and_eq_true, decide_eq_true_eq] at hw
  obtain ⟨q1, q2, q3, q4, q5⟩ := hw
  have h1 := of_decide_eq_false ((Bool.not_eq_true' _).mp h1)
  exact ⟨hg, hv, q2, ⟨q4.1, Int.le_refl _⟩, ⟨q3.1, by show start ≤ next; omega⟩, q4.2, q5⟩
theorem logP_new {vol : Int} {g : GeoV} {epoch start chain : Int} (h : newOk vol g epoch start start chain = true) : LogP (newR vol g epoch start start chain) (blankD vol g) g.secs start chain [] := by
  have ok := newOk_ok h
  obtain ⟨c, hc⟩ := blankP vol ok.vol g ok.g
  obtain ⟨_, _, q⟩ := secs_le ok.g
  obtain ⟨g1, _⟩ := g.of_may ok.g
  have q : 4 + 2 * g.w ≤ (g.secs : Int) := q
  refine ⟨ok, c, ⟨fun i p hi => by simp at hi, fun k m k0 k1 hm _ => ?_⟩, ⟨fun i p hi => by simp at hi⟩, (Int.add_zero _).symm, rfl, ok.s.1, by show (0 : Int) ≤ g.w; omega⟩
  have k1 : k < g.w := k1
  refine hc _ ?_
  rcases hm with rfl | rfl
  · show (addrB g 0 k).toNat < _
    rw [addr0]; omega
  · show (addrB g 1 k).toNat < _
    rw [addr1]; omega

/-- Behind damage that leaves one of both sectors of each slot. -/
theorem load_told {R : Rg} {D : Dev} {b : Nat} {s0 c0 : Int} {Q : List (List Pc)} (h : LogP R D b s0 c0 Q.flatten) (hQ : ∀ s ∈ Q, SegP s) (hc : wordB c0 = true) {E : Dev} {b2 : Nat} (hE : CleanP E R.g.secs b2)
    (hab : ∀ k : Int, 0 ≤ k → k < R.g.w → (cellB E (addrB R.g 0 k).toNat = cB D.cells (addrB R.g 0 k).toNat ∨ (toldP (cellB E (addrB R.g 0 k).toNat) R.vol R.g 0 k).2 = false) ∧ (cellB E (addrB R.g 1 k).toNat = cB D.cells (addrB R.g 1 k).toNat ∨ (toldP (cellB E (addrB R.g 1 k).toNat) R.vol R.g 1 k).2 = false) ∧ (cellB E (addrB R.g 0 k).toNat = cB D.cells (addrB R.g 0 k).toNat ∨ cellB E (addrB R.g 1 k).toNat = cB D.cells (addrB R.g 1 k).toNat)) :
    followB R.vol R.g (load0 E R.g).1 (load1 E R.g).1 s0 c0 = (⟨Q.map catB, R.next, R.chain, epQ Q R.epoch⟩, 0) := by
  obtain ⟨l0, l1, _, _⟩ := load_P h.ok.g hE
  obtain ⟨g1, _⟩ := R.g.of_may h.ok.g
  have hx : ∀ f : Nat → Bytes, ((((List.range R.g.w.toNat).map f).length : Nat) : Int) = R.g.w := fun f => by rw [List.length_map, List.length_range]; omega
  rw [l0, l1]
  refine told_log h hQ hc (hx _) (hx _) ?_
  refine tells_P h.ok.g h.ok.vol h.zero h.cells (fun i p hi => ⟨(h.chain.may i p hi).1, (h.chain.may i p hi).2.1⟩) _ _ fun k k0 k1 => ?_
  have := hab k k0 k1
  rw [atS_map _ _ k0 (by omega), atS_map _ _ k0 (by omega), show ((k.toNat : Nat) : Int) = k by omega]
  exact this
theorem cell_same {D E : Dev} {k : Nat} {s : Bytes} (h : D.cells[k]? = some (fine s)) (hE : E.cells[k]? = D.cells[k]?) : cellB E k = cB D.cells k := by
  unfold cellB cB
  rw [hE, h]; rfl

/-! The example. -/
abbrev g11 : GeoV := ⟨8, 1, 2, 1⟩
abbrev abc11 : Bytes := [97, 98, 99]
theorem g11_may : g11.may = true := by decide +kernel
theorem awake11_plain : ∃ (z : Bytes), z = List.replicate 450 0 ∧ ∃ (D0 D1 D2 D3 : Dev) (R0 R1 R2 : Rg) (l0 l1 : List Bytes) (D4 : Dev),
    D0 = blankD 7 g11 ∧ R0 = newR 7 g11 1 0 0 0 ∧ R0.append D0 abc11 = (0, (R1, D1)) ∧ R1.append D1 z = (0, (R2, D2)) ∧ D2.fault (loseF 6) = (0, D3) ∧ l0 = (load0 D3 g11).1 ∧ l1 = (load1 D3 g11).1 ∧ D4 = (load1 D3 g11).2 ∧
    followB 7 g11 l0 l1 0 0 = (⟨[abc11, z], 4, R2.chain, 1⟩, 0) ∧ R2.next = 4 ∧ R0.Ok ∧ R1.Ok ∧ D0.Ok 26 ∧ D1.Ok 28 ∧ D2.Ok 34 ∧ D3.Ok 35 ∧ (∀ s ∈ l0, s.length ≤ 256) ∧ (∀ s ∈ l1, s.length ≤ 256) := by
  refine ⟨_, rfl, ?_⟩
  generalize hz : List.replicate 450 (0 : UInt8) = z
  have hs1 : (splitB abc11).length = 1 := by decide +kernel
  have hs2 : (splitB z).length = 3 := by rw [← hz]; decide +kernel
  have hsec : g11.secs = 26 := by decide +kernel
  have L0 := logP_new (vol := 7) (g := g11) (epoch := 1) (start := 0) (chain := 0) (by decide +kernel)
  obtain ⟨D1, a1, L1⟩ := append_P L0 rfl abc11 (by omega) (by rw [hs1]; decide) (by rw [hs1]; decide)
  obtain ⟨s1, c1⟩ := tx_seg abc11 (newR 7 g11 1 0 0 0)
  obtain ⟨i1, i2, i3, i4, i5, i6⟩ := advR_id (splitB abc11).length (splitB abc11) 0 (newR 7 g11 1 0 0 0)
  have m1 := mkP_len (splitB abc11).length (splitB abc11) 0 (newR 7 g11 1 0 0 0)
  rw [List.nil_append] at L1
  generalize advR (splitB abc11).length (splitB abc11) 0 (newR 7 g11 1 0 0 0) = R1 at a1 L1 i1 i2 i3 i4 i5 i6
  generalize mkP (splitB abc11).length (splitB abc11) 0 (newR 7 g11 1 0 0 0) = P1 at L1 s1 c1 m1
  rw [hs1] at L1 m1 i6
  have i1 : R1.g = g11 := i1
  have i2 : R1.vol = 7 := i2
  have i3 : R1.epoch = 1 := i3
  have i5 : R1.start = 0 := i5
  have i6 : R1.next = 1 := i6
  obtain ⟨D2, a2, L2⟩ := append_P L1 i5 z (by omega) (by rw [hs2, m1, i1]; decide) (by rw [hs2, i6]; decide)
  obtain ⟨s2, c2⟩ := tx_seg z R1
  obtain ⟨j1, j2, j3, j4, j5, j6⟩ := advR_id (splitB z).length (splitB z) 0 R1
  have m2 := mkP_len (splitB z).length (splitB z) 0 R1
  generalize advR (splitB z).length (splitB z) 0 R1 = R2 at a2 L2 j1 j2 j3 j4 j5 j6
  generalize mkP (splitB z).length (splitB z) 0 R1 = P2 at L2 s2 c2 m2
  rw [hs2] at L2 m2 j6
  rw [i1] at j1
  rw [i2] at j2
  rw [i3] at j3
  rw [i6] at j6
  have hn : R2.next = 4 := j6
  have c2' := L2.clean
  rw [j1, hsec] at c2'
  obtain ⟨D3, f3, c3, e3⟩ := loseP c2' (k := 6) (by omega)
  have hF := load_told (Q := [P1, P2]) (c0 := 0) (by rw [show [P1, P2].flatten = P1 ++ P2 by simp]; exact L2) (fun s hs => by
    simp only [List.mem_cons, List.not_mem_nil, or_false] at hs
    rcases hs with rfl | rfl
    · exact s1
    · exact s2) (by decide) (E := D3) (by rw [j1, hsec]; exact c3) (by
    intro k k0 k1
    rw [j1] at k1 ⊢
    have k1 : k < 8 := k1
    have hc := L2.cells
    rw [j1] at hc
    obtain ⟨x0, hx0⟩ := hc.all k0 (show k < g11.w from k1) (.inl rfl)
    obtain ⟨x1, hx1⟩ := hc.all k0 (show k < g11.w from k1) (.inr rfl)
    rw [addr0] at hx0 ⊢
    rw [addr1] at hx1 ⊢
    have same : ∀ n : Nat, n ≠ 6 → D3.cells[n]? = D2.cells[n]? := fun n hn => by
      rw [e3, List.getElem?_modify]
      cases D2.cells[n]? with
      | none => rfl
      | some c =>
        show some (if 6 = n then { c with lost := true } else c) = some c
        rw [if_neg (fun h => hn h.symm)]
    have w8 : g11.w = 8 := rfl
    have B := cell_same hx1 (same _ (by omega))
    refine ⟨?_, .inl B, .inr B⟩
    by_cases hk : (4 + k).toNat = 6
    · right
      have : cellB D3 (4 + k).toNat = [] := by
        unfold cellB
        rw [e3, List.getElem?_modify, hk]
        rw [hk] at hx0
        rw [hx0]; rfl
      rw [this]; exact toldP_nil _ _ _ _
    · left
      exact cell_same hx0 (same _ hk))
  rw [j1, j2, hn, j3] at hF
  have o0 := L0.clean.ok
  rw [hsec] at o0
  have o1 := L1.clean.ok
  rw [hsec] at o1
  have o2 := L2.clean.ok
  rw [hsec] at o2
  have hF : followB 7 g11 (load0 D3 g11).1 (load1 D3 g11).1 0 0 = (⟨[catB P1, catB P2], 4, R2.chain, 1⟩, 0) := hF
  rw [c1, c2] at hF
  exact ⟨blankD 7 g11, D1, D2, D3, newR 7 g11 1 0 0 0, R1, R2, _, _, _, rfl, rfl, a1, a2, f3, rfl, rfl, rfl, hF, hn, L0.ok, L1.ok, o0, o1, o2, c3.ok, rdK_bytes c3.ok _ _, rdK_bytes (rdK_ok c3.ok _ _) _ _⟩
end Go.Proofs.YtinfbclgkghgaaaGreat.AL

/- The layer: a literal's row that goes through a conversion to its own type (as in a conversion of a constant string to bytes). -/
namespace Go.Proofs.YtinfbclgkghgaaaGreat.AL
open Go Go.RowKit

/-- One block has got a mark: its cells are as they were. -/
structure Marked (w w' : World) (B : Nat) : Prop where
  os : w'.os = w.os
  tape : w'.tape = w.tape
  output : w'.output = w.output
  size : w'.heap.size = w.heap.size
  old : ∀ k, k ≠ B → w'.heap[k]? = w.heap[k]?
  new : ∀ cs t fr, w.heap[B]? = some (.cells cs t fr) → ∃ fr', w'.heap[B]? = some (.cells cs t fr')
theorem marked_freeze (w : World) (B n : Nat) : Marked w (w.freeze ⟨B, n, none⟩ 1) B := by
  unfold World.freeze
  rw [if_neg (by decide)]
  refine ⟨rfl, rfl, rfl, Array.size_modify, fun k hk => ?_, fun cs t fr h => ?_⟩
  · show (w.heap.modify B _)[k]? = _
    rw [Array.getElem?_modify, if_neg (fun e => hk e.symm)]
  · show ∃ fr', (w.heap.modify B _)[B]? = _
    rw [Array.getElem?_modify, if_pos rfl, h]
    exact ⟨_, rfl⟩
theorem Marked.cell {w w' : World} {B : Nat} (m : Marked w w' B) {cs : Array Value} {t : TypeId} {fr : Nat × Nat} (hB : w.heap[B]? = some (.cells cs t fr)) (C o : Nat) : w'.cell? ⟨C, o, none⟩ = w.cell? ⟨C, o, none⟩ := by
  unfold World.cell?
  by_cases e : C = B
  · subst e
    obtain ⟨fr', h⟩ := m.new cs t fr hB
    simp only [hB, h]
  · simp only [m.old C e]
theorem PRep.marked {w w' : World} {I : Nat → Prop} (hc : ∀ B o, w'.cell? ⟨B, o, none⟩ = w.cell? ⟨B, o, none⟩) {x : PV} {v : Value} (h : PRep w I x v) : PRep w' I x v := by
  induction h with
  | raw v h1 => exact .raw v h1
  | sl sz xs A c f hc' hl hA _ ih =>
    refine .sl sz xs A c f hc' hl ?_ (fun j e i u h1 h2 => ih j e i u h1 h2)
    rcases hA with hA | ⟨b, o, h1, h2, h3⟩
    · exact .inl hA
    · exact .inr ⟨b, o, h1, h2, fun j e hj => ⟨(h3 j e hj).1, fun i hi => by rw [hc]; exact (h3 j e hj).2 i hi⟩⟩
  | box cs b o f hb hcell _ ih => exact .box cs b o f hb (fun i hi => by rw [hc]; exact hcell i hi) (fun i u hu => ih i u hu)
theorem ARep.marked {w w' : World} {I : Nat → Prop} {ι : Nat → Option Nat} {B : Nat} (m : Marked w w' B) {cs : Array Value} {t : TypeId} {fr : Nat × Nat} (hB : w.heap[B]? = some (.cells cs t fr)) {x : AV} {v : Value} (h : ARep w I ι x v) : ARep w' I ι x v := by
  induction h with
  | p h => exact .p (h.marked (m.cell hB))
  | top v => exact .top v
  | agg l vs hn _ ih => exact .agg l vs hn ih
  | tup l vs hn _ ih => exact .tup l vs hn ih
  | ref b off B h => exact .ref b off B h
  | msl b sz off len C c h hc hs' =>
    refine .msl b sz off len C c h hc ?_
    obtain ⟨cs', t', fr', h1, h2⟩ := hs'
    by_cases e : C = B
    · subst e
      obtain ⟨fr2, h3⟩ := m.new cs' t' fr' h1
      exact ⟨cs', t', fr2, h3, h2⟩
    · exact ⟨cs', t', fr', by rw [m.old C e]; exact h1, h2⟩
  | msl0 b sz off A => exact .msl0 b sz off A
  | elr b sz i off B h => exact .elr b sz i off B h
  | clo fn caps vs hn _ ih => exact .clo fn caps vs hn ih
  | mth fn first vs hn _ ih => exact .mth fn first vs hn ih
  | yld b B h => exact .yld b B h
  | mp b B h => exact .mp b B h
theorem SimH.marked {w w' : World} {I : Nat → Prop} {ι : Nat → Option Nat} {H : List ABlk} {B : Nat} (hs : SimH w I ι H) (hI : I B) (m : Marked w w' B) {cs : Array Value} {t : TypeId} {fr : Nat × Nat} (hB : w.heap[B]? = some (.cells cs t fr)) : SimH w' I ι H := by
  refine ⟨fun b k hb => ?_, hs.inj, fun C hC => by rw [m.size]; exact hs.Ilt C hC, hs.dom, fun b C hb => by rw [m.size]; exact hs.rng b C hb⟩
  have h0 := hs.blk b k hb
  have ne : ∀ C, ¬ I C → C ≠ B := fun C hC e => hC (e ▸ hI)
  cases k with
  | dead => trivial
  | cells t l =>
    obtain ⟨C, cs, h1, h2, h3, h4, h5⟩ := h0
    exact ⟨C, cs, h1, by rw [m.old C (ne C h3)]; exact h2, h3, h4, fun i u hu => (h5 i u hu).marked m hB⟩
  | lp q st pe l =>
    obtain ⟨C, cs, h1, h2, h3, h4, h5⟩ := h0
    exact ⟨C, cs, h1, by rw [m.old C (ne C h3)]; exact h2, h3, h4, fun i u hu => (h5 i u hu).marked m hB⟩
  | row t sz xs =>
    rcases h0 with h0 | ⟨C, cs, h1, h2, h3, h4, h5, h6⟩
    · exact .inl h0
    · exact .inr ⟨C, cs, h1, by rw [m.old C (ne C h3)]; exact h2, h3, h4, h5, fun j e hj => ⟨(h6 j e hj).1, fun i u hu => ((h6 j e hj).2 i u hu).marked (m.cell hB)⟩⟩
  | obj o =>
    obtain ⟨h0', C, h1, h2, h3⟩ := h0
    exact ⟨h0', C, h1, by rw [m.old C (ne C h3)]; exact h2, h3⟩
theorem Ex.marked {n : Nat} {w0 w w' : World} {I0 I : Nat → Prop} {ι0 ι : Nat → Option Nat} {H0 H : List ABlk} {B : Nat} (x : Ex n w0 I0 ι0 H0 w I ι H) (hB : w0.heap.size ≤ B) (m : Marked w w' B) : Ex n w0 I0 ι0 H0 w' I ι H :=
  ⟨⟨m.os.trans x.ext.os, m.tape.trans x.ext.tape, m.output.trans x.ext.output, by rw [m.size]; exact x.ext.size, fun C cs t fr h => by
    have hlt : C < w0.heap.size := (Array.getElem?_eq_some_iff.1 h).1
    obtain ⟨cs', h1, h2⟩ := x.ext.shape C cs t fr h
    exact ⟨cs', by rw [m.old C (by omega)]; exact h1, h2⟩, x.ext.Isub, fun C hC hn => by rw [m.old C (by omega)]; exact x.ext.frame C hC hn, x.ext.Inew, x.ext.own⟩, x.keep, x.len⟩

section
variable {P : Program} {T : TTab} {m : Nat}
theorem wanted_none {o : Oper} (h : o.guard = none) {w : World} {I : Nat → Prop} {ι : Nat → Option Nat} {fr : Fr} {ops : Array Oper} {a : Act} (hf : FrOk w I ι fr a.tmps) : Region.wanted o (yielded ops a.tmps) = true := by
  obtain ⟨c, _, h1, h2, _⟩ := guard_ok (ops := ops) (o := o) (K := fun c _ => c = true) hf (by unfold guardA; rw [h])
  rw [h2, h1]

set_option maxHeartbeats 1000000 in
/-- A region whose second operation makes a row of bytes that the third one converts to its own type: the bytes are immutable behind. -/
theorem aw_regionB {ro : Option Nat} (hT : TOk P T) {id : Nat} {ops : Array Oper} {s : St} {Q : Exit → St → Prop} {o0 o1 o2 : Oper} {r : List Oper} {t e : TypeId} {d1 : Tmp} {ti ei : TI}
    (hl : ops.toList = o0 :: o1 :: o2 :: r) (g0 : o0.guard = none) (g1 : o1.guard = none) (g2 : o2.guard = none)
    (e1 : o1.dst = some d1) (h2 : o2.op = .convert t t (.tmp d1)) (ht : T t = some ti) (htd : ti.d = .slice e) (he : T e = some ei) (hed : ei.d = .int .u8)
    (hd0 : dstOk s.fr.n o0.dst = true) (hd1 : dstOk s.fr.n o1.dst = true) (hd2 : dstOk s.fr.n o2.dst = true) (hbel : belowH s.H.length s.H = true)
    (h : aopX P T (callA P) (evX s.fr) s.H (fun u H' => H' = s.H ∧ aopX P T (callA P) (evX (putA s.fr o0.dst u)) s.H (fun u1 H1 => ∃ t' sz xs, u1 = .msl s.H.length sz 0 xs.length ∧ H1 = s.H ++ [.row t' sz xs] ∧ 0 < xs.length ∧ aOps P T ops (fun _ => false) r 3 (putA (putA (putA s.fr o0.dst u) o1.dst (.p (.sl sz xs))) o2.dst (.p (.sl sz xs))) s.H (fun fr H => Q .normal ⟨fr, H⟩)) o1.op) o0.op) :
    AW P ro m (.region id ops false) s Q := fun N w I ι a hs hm => by
  refine wpIn_region_list ?_
  rw [hl]
  unfold wpListIn
  rw [if_pos (wanted_none g0 hs.fr)]
  refine aop_sound hT hs.H (fun x _ => evalA_ok hs.fr x) (aopX_ok h) ?_
  rintro v0 w0 r0 H0 I0 ι0 ⟨rfl, h1⟩ hr0 hs0 hx0
  have sim0 : Sim N w0 I0 ι0 ⟨putA s.fr o0.dst r0, s.H⟩ (a.put o0.dst v0) := ⟨(hs.fr.move hs.H hx0).put o0.dst hd0 hr0, hs0, Nat.le_trans hs.hN hx0.ext.size, by rw [put_defers]; exact fun d hd => (hs.d d hd).move hx0.ext, by rw [put_defers]; exact hs.nd⟩
  unfold wpListIn
  rw [if_pos (wanted_none g1 sim0.fr)]
  refine aop_sound hT sim0.H (fun x _ => evalA_ok sim0.fr x) (aopX_ok h1) ?_
  rintro v1 w1 r1 H1 I1 ι1 ⟨t', sz, xs, rfl, rfl, hpos, hk⟩ hr1 hs1 hx1
  have hlast : (s.H ++ [ABlk.row t' sz xs])[s.H.length]? = some (.row t' sz xs) := getElem?_append_len _ _
  have hlive : live (s.H ++ [ABlk.row t' sz xs]) s.H.length := ⟨_, hlast, rfl⟩
  have hx1 : Ex s.H.length w0 I0 ι0 s.H w1 I1 ι1 (s.H ++ [ABlk.row t' sz xs]) := hx1
  have hfrz : frzK s.H.length (s.H ++ [.row t' sz xs]) (.msl s.H.length sz 0 xs.length) (fun u H' => u = .p (.sl sz xs) ∧ H' = s.H) := by
    have e : (s.H ++ [ABlk.row t' sz xs]).getD s.H.length .dead = .row t' sz xs := by rw [List.getD_eq_getElem?_getD, hlast]; rfl
    have e2 : (s.H ++ [ABlk.row t' sz xs]).take s.H.length = s.H := List.take_left
    unfold frzK
    simp only [e, e2]
    refine chkI ?_ ⟨⟨trivial, trivial⟩, trivial, trivial⟩
    simp [hbel]
  obtain ⟨u2, H2, I2, ι2, ⟨rfl, rfl⟩, hr2, hs2, hx2⟩ := frz_ok hs1 hr1 hfrz
  have hx3 := hx1.trans hx2
  generalize hlen : xs.length = len at hr1 hpos
  cases hr1 with
  | msl0 => omega
  | msl _ _ _ _ B c hB hcc hsz =>
    have hfresh : w0.heap.size ≤ B := by
      rcases hx1.ext.own _ B hlive hB with h | ⟨b0, hb0, hb1⟩
      · exact h
      · have hlt := live_lt hb0
        have hk0 := hx1.keep b0 hlt
        rw [hb1] at hk0
        obtain ⟨k, hk1, hk2⟩ := hb0
        have := hs1.inj b0 s.H.length B ⟨k, by rw [List.getElem?_append_left hlt]; exact hk1, hk2⟩ hlive hk0 hB
        omega
    obtain ⟨cs, g2'⟩ : ∃ cs, w1.heap[B]? = some (.cells cs t' (0, 0)) := by
      rcases hs1.blk _ _ hlast with ⟨_, q1⟩ | ⟨B', cs, q1, q2, _⟩
      · rw [q1] at hB; exact absurd hB (by simp)
      · rw [q1] at hB; obtain rfl := Option.some.inj hB; exact ⟨cs, q2⟩
    have hIB : I2 B := by
      generalize hv : (Value.slice (some ⟨B, 0 * sz, none⟩) len c) = v at hr2
      cases hr2 with
      | p hp =>
        cases hp with
        | sl _ _ A c' f _ _ hA _ =>
          rcases hA with hA | ⟨b, o, q1, q2, _⟩
          · rw [hA] at hlen; simp at hlen; omega
          · rw [q1] at hv
            simp only [Value.slice.injEq, Option.some.injEq, Addr.mk.injEq] at hv
            rw [hv.1.1]; exact q2
    have mk := marked_freeze w1 B cs.size
    have hs3 := hs2.marked hIB mk g2'
    have hx4 := hx3.marked hfresh mk
    have hr3 := hr2.marked mk g2'
    have sim1 : Sim N w1 I1 ι1 ⟨putA (putA s.fr o0.dst r0) o1.dst (.msl s.H.length sz 0 xs.length), s.H ++ [.row t' sz xs]⟩ ((a.put o0.dst v0).put o1.dst (.slice (some ⟨B, 0 * sz, none⟩) len c)) := ⟨(sim0.fr.move sim0.H hx1).put o1.dst (by cases o0.dst <;> exact hd1) (by rw [hlen]; exact .msl _ _ _ _ B c hB hcc hsz), hs1, Nat.le_trans sim0.hN hx1.ext.size, by rw [put_defers]; exact fun d hd => (sim0.d d hd).move hx1.ext, by rw [put_defers]; exact sim0.nd⟩
    unfold wpListIn
    rw [if_pos (wanted_none g2 sim1.fr)]
    refine wpIn_of_wp (fun c => by rw [h2]; simp) ?_
    obtain ⟨_, td, _, _, hd, _, q4, _⟩ := tok hT ht
    obtain ⟨_, td', _, _, hd', _, q4', _⟩ := tok hT he
    rw [htd] at q4
    rw [hed] at q4'
    obtain rfl := desc_slice q4
    obtain rfl := desc_int q4'
    have hsh : w1.shape? B = some (t', cs.size) := by unfold World.shape?; rw [g2']
    have hev : ((a.put o0.dst v0).put o1.dst (.slice (some ⟨B, 0 * sz, none⟩) len c)).eval (.tmp d1) = .slice (some ⟨B, 0 * sz, none⟩) len c := by
      have hsz0 : (a.put o0.dst v0).tmps.size = s.fr.n := by
        have := sim0.fr.1
        rw [this]
        cases o0.dst <;> rfl
      rw [e1] at hd1 ⊢
      have hlt : d1 < s.fr.n := by simpa [dstOk, Nat.blt_eq] using hd1
      show ((a.put o0.dst v0).tmps.setIfInBounds d1 _).getD d1 undef = _
      rw [Array.getD_eq_getD_getElem?, Array.getElem?_setIfInBounds_self_of_lt (by rw [hsz0]; exact hlt)]; rfl
    refine wp_val (v := .slice (some ⟨B, 0 * sz, none⟩) len c) (w' := w1.freeze ⟨B, cs.size, none⟩ 1) ?_ ?_
    · simp only [Nat.zero_mul] at hev ⊢
      simp [execOp, h2, hev, convert, run_underlying hd, run_underlying hd', markStringish, hsh]
    · have hfin : Sim N (w1.freeze ⟨B, cs.size, none⟩ 1) I2 ι2 ⟨putA (putA (putA s.fr o0.dst r0) o1.dst (.p (.sl sz xs))) o2.dst (.p (.sl sz xs)), s.H⟩ (((a.put o0.dst v0).put o1.dst (.slice (some ⟨B, 0 * sz, none⟩) len c)).put o2.dst (.slice (some ⟨B, 0 * sz, none⟩) len c)) :=
        ⟨((sim0.fr.move sim0.H hx4).put o1.dst (by cases o0.dst <;> exact hd1) hr3).put o2.dst (by cases o0.dst <;> cases o1.dst <;> exact hd2) hr3, hs3, Nat.le_trans sim0.hN hx4.ext.size, by rw [put_defers, put_defers]; exact fun d hd => (sim0.d d hd).move hx4.ext, by rw [put_defers, put_defers]; exact sim0.nd⟩
      refine aOps_sound (m := m) hT r 3 _ s.H _ _ _ _ hk hfin ((Ex.refl hm).trans ((hx0.trans hx4).less hm)) ?_
      intro fr' H' a' w' I' ι' hK hs' hx'
      exact ⟨⟨fr', H'⟩, I', ι', hK, hs', hx'⟩
end
end Go.Proofs.YtinfbclgkghgaaaGreat.AL

/- The law of layer 11: the chapter's example. -/
namespace Go.Proofs.YtinfbclgkghgaaaGreat.AL
open Go Go.Proofs

set_option maxRecDepth 20000 in
theorem Ring_Next5 (R : Rg) (D : Dev) : AFm Tryz.prog 5 f_ring_Ring_Next [.ref 2 0] (rgH R D) (Pure (i64 R.next) (rgH R D)) := by
  refine af_bodyM 5 hT F_ring_Ring_Next rfl rfl N_ring_Ring_Next rfl rfl ?_
  refine aw_seq (aw_region hT ?_)
  refine aw_seq (aw_seq (aw_region hT ?_))
  refine aw_cond ?_
  refine aw_skip ?_
  refine aw_seq (aw_region hT ?_)
  refine aw_ret ?_
  exact retPick [0, 1, 2, 3, 4] ⟨rfl, rfl⟩ rfl
set_option maxRecDepth 20000 in
theorem Ring_Chain5 (R : Rg) (D : Dev) : AFm Tryz.prog 5 f_ring_Ring_Chain [.ref 2 0] (rgH R D) (Pure (i64 R.chain) (rgH R D)) := by
  refine af_bodyM 5 hT F_ring_Ring_Chain rfl rfl N_ring_Ring_Chain rfl rfl ?_
  refine aw_seq (aw_region hT ?_)
  refine aw_seq (aw_seq (aw_region hT ?_))
  refine aw_cond ?_
  refine aw_skip ?_
  refine aw_seq (aw_region hT ?_)
  refine aw_ret ?_
  exact retPick [0, 1, 2, 3, 4] ⟨rfl, rfl⟩ rfl

set_option maxHeartbeats 4000000 in
set_option maxRecDepth 20000 in
theorem law11_awake : AF Tryz.prog f_law11_awake [] [] (Pure (bl true) []) := by
  obtain ⟨z, hz, D0, D1, D2, D3, R0, R1, R2, l0, l1, D4, e0, eR0, a1, a2, f3, el0, el1, e4, hF, hn, o0, o1, q0, q1, q2, q3, hl0, hl1⟩ := awake11_plain
  have wB := law11_Blank 7 g11 (by decide +kernel)
  rw [← e0] at wB
  have wN := ring_New D0 7 g11 1 0 0 0 (by decide +kernel)
  rw [← eR0] at wN
  have wA := Ring_Append R0 D0 abc11 26 o0 q0 (by omega) (by decide)
  rw [a1] at wA
  have hab : bA abc11 = .p (.sl 1 [[.raw (.int .u8 97)], [.raw (.int .u8 98)], [.raw (.int .u8 99)]]) := rfl
  rw [hab] at wA
  have hzl : z.length = 450 := by rw [hz, List.length_replicate]
  have wZ := Ring_Append R1 D1 z 28 o1 q1 (by omega) (by omega)
  rw [a2] at wZ
  have wf := disk_Fault D2 (loseF 6) 34 q2 (by omega)
  rw [f3] at wf
  have wL := ring_Load D3 g11 35 q3 (by omega) g11_may
  rw [← el0, ← el1, ← e4] at wL
  have wF := ring_Follow l0 l1 7 g11 0 0 (fun s hs => Nat.le_trans (hl0 s hs) (by omega)) (fun s hs => Nat.le_trans (hl1 s hs) (by omega))
  rw [hF] at wF
  have wn := Ring_Next5 R2 D4
  rw [hn] at wn
  have wc := Ring_Chain5 R2 D4
  have hzb : bx z = List.replicate (450 : Int).toNat [.raw (.int .u8 0)] := by rw [hz]; unfold bx; rw [List.map_replicate]; rfl
  have wZ : AFm Tryz.prog 3 f_ring_Ring_Append [.ref 2 0, .p (.sl 1 (bx z))] (rgH R1 D1) (Pure (i64 0) (rgH R2 D2)) := wZ
  rw [hzb] at wZ
  clear a1 a2 f3 e0 eR0 el0 el1 e4 hF hn o0 o1 q0 q1 q2 q3 hl0 hl1 hz
  generalize R2.chain = ch at wF wc
  refine af_body hT F_law11_awake rfl rfl N_law11_awake rfl ?_
  refine aw_seq (aw_region hT ?_)
  refine aw_cut ⟨⟨101, [(1, .p (.box g11.pv))]⟩, []⟩ True (aw_region hT ?_) (fun _ => ?_)
  · exact ⟨Wk.trans (wk_boxL 0 g11.pv rfl rfl) (wk_pick [] [1] rfl), trivial⟩
  refine aw_cut ⟨⟨101, [(1, .p (.box g11.pv)), (2, .ref 0 0)]⟩, devH D0⟩ True (aw_region hT ?_) (fun _ => ?_)
  · refine callP wB ?_
    exact ⟨wk_pick [0, 1, 2] [1, 2] rfl, trivial⟩
  refine aw_cut ⟨⟨101, [(1, .p (.box g11.pv)), (2, .ref 0 0), (3, .ref 2 0), (4, i64 0)]⟩, rgH R0 D0⟩ True (aw_region hT ?_) (fun _ => ?_)
  · refine callP (af_in [0, 1, 2] wN rfl rfl rfl) ?_
    exact ⟨wk_pick [0, 3, 4, 5, 6] [1, 2, 3, 4] rfl, trivial⟩
  refine aw_cut ⟨⟨101, [(1, .p (.box g11.pv)), (2, .ref 0 0), (3, .ref 2 0), (4, i64 0), (5, i64 0)]⟩, rgH R1 D1⟩ True (aw_regionB hT rfl rfl rfl rfl rfl rfl rfl rfl rfl rfl rfl rfl rfl rfl ?_) (fun _ => ?_)
  · refine ⟨rfl, ?_⟩
    refine ⟨_, _, _, rfl, rfl, by decide, ?_⟩
    refine callP (af_in [0, 1, 2, 3, 4] wA rfl rfl rfl) ?_
    exact ⟨wk_pick [0, 1, 2, 5, 6] [1, 2, 3, 4, 5] rfl, trivial⟩
  refine aw_cut ⟨⟨101, [(1, .p (.box g11.pv)), (2, .ref 0 0), (3, .ref 2 0), (4, i64 0), (5, i64 0), (6, i64 0)]⟩, rgH R2 D2⟩ True (aw_regionF (fun k => Nat.beq 1 k) hT ?_) (fun _ => ?_)
  · refine ⟨⟨rfl, by decide, by decide, by decide⟩, ?_⟩
    refine ⟨⟨rfl, by rw [List.length_replicate]⟩, ?_⟩
    refine callP (af_in [0, 1, 2, 3, 4] wZ rfl rfl rfl) ?_
    exact ⟨wk_pick [0, 1, 2, 5, 6] [1, 2, 3, 4, 5, 6] rfl, trivial⟩
  refine aw_cut ⟨⟨101, [(1, .p (.box g11.pv)), (2, .ref 0 0), (3, .ref 2 0), (4, i64 0), (5, i64 0), (6, i64 0)]⟩, rgH R2 D3⟩ True (aw_region hT ?_) (fun _ => ?_)
  · refine callP (af_in [0, 3, 4] wf rfl rfl rfl) ?_
    exact ⟨wk_pick [0, 1, 2, 3, 4] [1, 2, 3, 4, 5, 6] rfl, trivial⟩
  refine aw_cut ⟨⟨101, [(1, .p (.box g11.pv)), (3, .ref 2 0), (4, i64 0), (5, i64 0), (6, i64 0), (7, .p (.sl 1 (catX l0))), (8, .p (.sl 1 (catX l1)))]⟩, rgH R2 D4⟩ True (aw_region hT ?_) (fun _ => ?_)
  · refine callP (af_in [0, 3, 4] wL rfl rfl rfl) ?_
    exact ⟨wk_pick [0, 1, 2, 3, 4] [1, 3, 4, 5, 6, 7, 8] rfl, trivial⟩
  have wF : AF Tryz.prog f_ring_Follow [.p (.sl 1 (catX l0)), .p (.sl 1 (catX l1)), i64 7, g11.av, i64 0, i64 0] [] (Pure (.tup [.agg [.p (.sl 1 (catX [abc11, z])), i64 4, i64 ch, i64 1], i64 0]) []) := wF
  refine aw_cut ⟨⟨101, [(3, .ref 2 0), (4, i64 0), (5, i64 0), (6, i64 0), (9, .ref 5 0), (10, i64 0)]⟩, rgH R2 D4 ++ [.cells t_api_Tail [.p (.sl 1 (catX [abc11, z])), i64 4, i64 ch, i64 1]]⟩ True (aw_region hT ?_) (fun _ => ?_)
  · refine callP (af_at wF _ rfl rfl) ?_
    exact ⟨wk_pick [0, 1, 2, 3, 4, 5] [3, 4, 5, 6, 9, 10] rfl, trivial⟩
  refine aw_seq ?_
  refine aw_draw [] [] hT follows_mixed (by rfl) ?_
  refine ⟨_, af_in [0, 1, 2, 3, 4] wn rfl rfl rfl, ?_⟩
  refine ⟨Int.le_refl _, ?_⟩
  obtain ⟨q, hq⟩ : ∃ q, q = abc11 := ⟨_, rfl⟩
  refine ⟨q, by rw [hq]; rfl, ?_⟩
  refine ⟨true, by rw [hq]; decide +kernel, ?_⟩
  refine ⟨by decide, ?_⟩
  refine boolI (fun h => ?_) (fun h => ?_)
  · refine ⟨_, af_in [0, 1, 2, 3, 4] wc rfl rfl rfl, ?_⟩
    refine boolI (fun h1 => ?_) (fun h1 => ?_)
    · refine aw_ret ?_
      exact retPick [] ⟨rfl, rfl⟩ rfl
    · have h1 : (ch == ch) = false := h1
      simp at h1
  · have h : (((bx z).length : Int) == 450) = false := h
    have := bx_len z
    rw [this, hzl] at h
    exact absurd h (by decide)
end Go.Proofs.YtinfbclgkghgaaaGreat.AL

/- The law RingTells: the program's and the document's answers are the same. -/
namespace Go.Proofs.YtinfbclgkghgaaaGreat.AL
open Go Go.Proofs

theorem sector_le (p : Pc) (vol : Int) (g : GeoV) (m : Int) : (p.sector vol g m).1.length ≤ 1000000 := by
  cases hc : p.may && (g.may && (wordB vol && (!decide (m < 0) && !decide (m ≥ 2)))) with
  | false => unfold Pc.sector; rw [hc]; exact Nat.zero_le _
  | true =>
    simp only [Bool.and_eq_true, Bool.not_eq_true', decide_eq_false_iff_not] at hc
    rw [sector_len hc.1 hc.2.1 hc.2.2.1 (by omega) (by omega)]; omega
theorem told_le (s : Bytes) (vol : Int) (g : GeoV) (m slot : Int) : (toldP s vol g m slot).1.b.length ≤ 1000000 := by
  cases h : (toldP s vol g m slot).2 with
  | false => rw [toldP_false h]; exact Nat.zero_le _
  | true =>
    have := (toldP_true (p := (toldP s vol g m slot).1) (show toldP s vol g m slot = _ by rw [← h])).1.1
    have := (Pc.of_may this).2.2.2.2.2.2.2.2.2
    omega

set_option maxHeartbeats 1000000 in
set_option maxRecDepth 20000 in
theorem ring_tells (vol : Int) (g : GeoV) (m : Int) (p : Pc) (s : Bytes) (slot : Int) : AF Tryz.prog f_law11_RingTells [i64 vol, g.av, i64 m, p.av, bA s, i64 slot] [] (Pure (bl true) []) := by
  refine AF.mono (R := fun r H' => ∃ z, z = true ∧ r = bl z ∧ H' = []) ?_ (by rintro r H' ⟨b, rfl, rfl, rfl⟩; exact ⟨rfl, rfl⟩)
  have hbl := bx_len s
  refine af_body hT F_law11_RingTells rfl rfl N_law11_RingTells rfl ?_
  refine aw_cut ⟨⟨100, [(0, i64 vol), (2, i64 m), (4, bA s), (5, i64 slot), (7, .p (.box g.pv)), (9, .p (.box p.pv))]⟩, []⟩ True (aw_region hT ?_) (fun _ => ?_)
  · exact ⟨Wk.trans (wk_boxL 0 g.pv rfl rfl) (Wk.trans (wk_boxL 1 p.pv rfl rfl) (wk_pick [] [0, 2, 4, 5, 7, 9] rfl)), trivial⟩
  refine aw_seq (aw_region hT ?_)
  refine callP (af_at law11_awake _ rfl rfl) ?_
  refine aw_cut ⟨⟨100, [(0, i64 vol), (2, i64 m), (4, bA s), (5, i64 slot), (7, .p (.box g.pv)), (9, .p (.box p.pv))]⟩, []⟩ (s.length ≤ 600) (aw_seq (aw_region hT ?_)) ?_
  · refine boolI (fun h => ?_) (fun h => ?_)
    · refine aw_cond ?_
      refine aw_seq (aw_region hT ?_)
      refine aw_ret ?_
      exact retPick [] ⟨true, rfl, rfl, rfl⟩ rfl
    have h := of_decide_eq_false (show decide (((bx s).length : Int) > 600) = false from h)
    refine aw_cond (boolI (fun h1 => ?_) (fun h1 => ?_))
    · refine aw_seq (aw_region hT ?_)
      refine aw_ret ?_
      exact retPick [] ⟨true, rfl, rfl, rfl⟩ rfl
    · exact aw_skip ⟨wk_pick [] [0, 2, 4, 5, 7, 9] rfl, by omega⟩
  intro hs
  have w1 := ring_Sector vol g m p
  have w2 := ref11_Sector vol g m p
  have hlen := sector_le p vol g m
  generalize p.sector vol g m = Y at w1 w2 hlen
  obtain ⟨t, e⟩ := Y
  have w1 : AF Tryz.prog f_ring_Sector [i64 vol, g.av, i64 m, p.av] [] (Pure (.tup [bA t, i64 e]) []) := w1
  have w2 : AF Tryz.prog f_ref11_Sector [i64 vol, g.av, i64 m, p.av] [] (Pure (.tup [bA t, i64 e]) []) := w2
  have hlen : t.length ≤ 1000000 := hlen
  have w3 := ref04_Same t t hlen
  rw [beq_self_eq_true] at w3
  have w4 := ring_Told s vol g m slot (by omega)
  have w5 := ref11_Told s vol g m slot (by omega)
  have hxl := told_le s vol g m slot
  generalize toldP s vol g m slot = Z at w4 w5 hxl
  obtain ⟨x, c⟩ := Z
  have w4 : AF Tryz.prog f_ring_Told [bA s, i64 vol, g.av, i64 m, i64 slot] [] (Pure (.tup [x.av, bl c]) []) := w4
  have w5 : AF Tryz.prog f_ref11_Told [bA s, i64 vol, g.av, i64 m, i64 slot] [] (Pure (.tup [x.av, bl c]) []) := w5
  have wp := ref11_Pair x x hxl
  rw [decide_eq_true rfl] at wp
  have w6 := ring_May p
  have w7 := ref11_May p
  generalize p.may = mm at w6 w7
  refine aw_cut ⟨⟨100, [(0, i64 vol), (2, i64 m), (4, bA s), (5, i64 slot), (7, .p (.box g.pv)), (9, .p (.box p.pv)), (14, bA t), (15, i64 e)]⟩, []⟩ True (aw_region hT ?_) (fun _ => ?_)
  · refine callP (af_at w1 _ rfl rfl) ?_
    exact ⟨wk_pick [] [0, 2, 4, 5, 7, 9, 14, 15] rfl, trivial⟩
  refine aw_cut ⟨⟨100, [(0, i64 vol), (2, i64 m), (4, bA s), (5, i64 slot), (7, .p (.box g.pv)), (9, .p (.box p.pv)), (14, bA t), (15, i64 e), (16, bA t), (17, i64 e)]⟩, []⟩ True (aw_region hT ?_) (fun _ => ?_)
  · refine callP (af_at w2 _ rfl rfl) ?_
    exact ⟨wk_pick [] [0, 2, 4, 5, 7, 9, 14, 15, 16, 17] rfl, trivial⟩
  refine aw_cut ⟨⟨100, [(0, i64 vol), (2, i64 m), (4, bA s), (5, i64 slot), (7, .p (.box g.pv)), (9, .p (.box p.pv)), (15, i64 e), (17, i64 e), (18, bl true)]⟩, []⟩ True (aw_region hT ?_) (fun _ => ?_)
  · refine callP (af_at w3 _ rfl rfl) ?_
    exact ⟨wk_pick [] [0, 2, 4, 5, 7, 9, 15, 17, 18] rfl, trivial⟩
  refine aw_cut ⟨⟨100, [(0, i64 vol), (2, i64 m), (4, bA s), (5, i64 slot), (7, .p (.box g.pv)), (9, .p (.box p.pv)), (15, i64 e), (17, i64 e), (18, bl true), (19, .ref 0 0), (20, bl c)]⟩, [.cells t_api_Piece x.cv]⟩ True (aw_region hT ?_) (fun _ => ?_)
  · refine callP (af_at w4 _ rfl rfl) ?_
    exact ⟨wk_pick [0] [0, 2, 4, 5, 7, 9, 15, 17, 18, 19, 20] rfl, trivial⟩
  refine aw_cut ⟨⟨100, [(9, .p (.box p.pv)), (15, i64 e), (17, i64 e), (18, bl true), (19, .ref 0 0), (20, bl c), (21, .ref 1 0), (22, bl c)]⟩, [.cells t_api_Piece x.cv, .cells t_api_Piece x.cv]⟩ True (aw_region hT ?_) (fun _ => ?_)
  · refine callP (af_at w5 _ rfl rfl) ?_
    exact ⟨wk_pick [0, 1] [9, 15, 17, 18, 19, 20, 21, 22] rfl, trivial⟩
  refine aw_cut ⟨⟨100, [(9, .p (.box p.pv)), (15, i64 e), (17, i64 e), (18, bl true), (20, bl c), (22, bl c), (23, bl true)]⟩, []⟩ True (aw_region hT ?_) (fun _ => ?_)
  · refine callP (af_at wp _ rfl rfl) ?_
    exact ⟨wk_pick [] [9, 15, 17, 18, 20, 22, 23] rfl, trivial⟩
  refine aw_seq ?_
  refine aw_draw [] [] hT follows_mixed (by rfl) ?_
  refine boolI (fun h => ?_) (fun h => ?_)
  · refine boolI (fun h2 => ?_) (fun h2 => ?_)
    · refine ⟨_, af_at w6 _ rfl rfl, ?_⟩
      refine ⟨_, af_at w7 _ rfl rfl, ?_⟩
      refine aw_ret ?_
      exact retPick [] ⟨_, beq_self_eq_true mm, rfl, rfl⟩ rfl
    · exact absurd ((show (c == c) = false from h2).symm.trans (beq_self_eq_true c)) (by decide)
  · exact absurd ((show (e == e) = false from h).symm.trans (beq_self_eq_true e)) (by decide)
end Go.Proofs.YtinfbclgkghgaaaGreat.AL

/- The abstract layer, part u: what a law's arguments read as; the call's end as the row asks. -/
namespace Go.Proofs.YtinfbclgkghgaaaGreat.AL
open Go Go.RowKit Go.ChangeShapes Go.WideShapes Go.ChangeAt Go.Deep

/-- A contract at closed arguments, as the rows ask it: what was there stays. -/
theorem af_calls {P : Program} {f : FuncId} {args : List AV} {r : Value} {W : World} {vals : Array Value} (h : AF P f args [] (Pure (.p (.raw r)) [])) (hn : vals.size = args.length)
    (ha : ∀ i u, args[i]? = some u → ARep W (· < W.heap.size) (fun _ => none) u (vals.getD i undef)) : Calls P f vals W fun e W' => e = .returned r ∧ Below W.heap.size W W' := by
  have hs : SimH W (· < W.heap.size) (fun _ => none) [] := ⟨fun b k hb => by simp at hb, fun b b' B hb => by obtain ⟨k, hk, _⟩ := hb; simp at hk, fun B hB => hB, fun _ _ => rfl, fun b B hb => by simp at hb⟩
  refine (h.2 W _ _ vals hn ha hs).mono ?_
  rintro e W' ⟨v, r', H', I', ι', rfl, ⟨rfl, rfl⟩, hr, hs', hx⟩
  rw [rep_raw hr]
  refine ⟨rfl, ⟨hx.ext.os, hx.ext.tape, hx.ext.output, hx.ext.size, fun k hk => hx.ext.frame k hk ?_⟩⟩
  rintro ⟨b, hb, _⟩
  obtain ⟨k', hk', _⟩ := hb
  simp at hk'

section
variable {H : Type} {enc : TypeId × Value → H} {P : Program} {W : World} {spare : Nat → Bool} {held : Bool}

theorem len_le_maxLen {n : Nat} (h : n ≤ maxLen) : n ≤ 9223372036854775807 := by
  have : maxLen = 9223372036854775807 := by decide
  omega

/-- A slice whose elements' cells read as they should. -/
theorem rep_slice {t e : TypeId} {v : Value} {d : DataW H} {ps : List MemPlace} {r : Reach} {b0 : Nat} {ι : Nat → Option Nat} (ht : P.underlying t = some (.slice e)) (hval : Value.okWide P W r b0 t v) (h : DataW.Trod enc P W 0 spare held t v d ps)
    {α : Type} [Inhabited α] (pv : α → List PV) (sz : Nat) (hsz : P.cellsOf e = sz) (h0 : 0 < sz)
    (hel : ∀ (n : Nat) (cs : List Value) (x : DataW H × List MemPlace), DataW.trod enc P W 0 spare held n e cs = some x → ∃ a : α, (pv a).length = sz ∧ ∀ (i : Nat) (u : PV), (pv a)[i]? = some u → ∀ v : Value, cs[i]? = some v → PRep W (· < W.heap.size) u v) :
    ∃ l : List α, ARep W (· < W.heap.size) ι (.p (.sl sz (l.map pv))) v := by
  classical
  obtain ⟨a0, len, cap, rfl⟩ := okWide_slice ht hval
  obtain ⟨fuel, hf⟩ := h
  rcases open_slice ht hf with ⟨hcs, _⟩ | ⟨a, len', cap', m, n, D, Pl, hcs, _, hl, hm, hmm, _, hx⟩
  · simp [Value.cells] at hcs
    obtain ⟨rfl, rfl, rfl⟩ := hcs
    exact ⟨[], .p (PRep.sl sz [] none 0 (fun _ _ => undef) (by simp) (by simp) (.inl rfl) (fun j e i u h => by simp at h))⟩
  · simp [Value.cells] at hcs
    obtain ⟨rfl, rfl, rfl⟩ := hcs
    have hlm : len ≤ m := by rw [hmm]; split <;> omega
    have hone : ∀ i, ∃ x : α, i < len → (pv x).length = sz ∧ (∀ k, k < sz → ∃ v, W.cell? ((a.add (i * sz)).add k) = some v) ∧ ∀ (k : Nat) (u : PV) (v : Value), (pv x)[k]? = some u → W.cell? ((a.add (i * sz)).add k) = some v → PRep W (· < W.heap.size) u v := by
      intro i
      by_cases hi : i < len
      · obtain ⟨cs', h1, h2⟩ := hx i (by omega)
        rw [hsz] at h1
        obtain ⟨x, h3, h4⟩ := hel n cs' _ h2
        obtain ⟨_, hlen, hc⟩ := World.cells?_some h1
        refine ⟨x, fun _ => ⟨h3, fun k hk => ?_, fun k u v hu hv => ?_⟩⟩
        · exact ⟨cs'[k]'(by omega), by rw [hc k hk, List.getElem?_eq_getElem]⟩
        · have hk : k < sz := by rw [← h3]; exact (List.getElem?_eq_some_iff.1 hu).1
          exact h4 k u hu v (by rw [← hc k hk]; exact hv)
      · exact ⟨default, fun h => absurd h hi⟩
    let g : Nat → α := fun i => (hone i).choose
    have hg : ∀ i, i < len → (pv (g i)).length = sz ∧ (∀ k, k < sz → ∃ v, W.cell? ((a.add (i * sz)).add k) = some v) ∧ ∀ (k : Nat) (u : PV) (v : Value), (pv (g i))[k]? = some u → W.cell? ((a.add (i * sz)).add k) = some v → PRep W (· < W.heap.size) u v := fun i hi => (hone i).choose_spec hi
    clear_value g
    have hlen : (((List.range len).map g).map pv).length = len := by simp
    have hget : ∀ (j : Nat) (e : List PV), (((List.range len).map g).map pv)[j]? = some e → j < len ∧ e = pv (g j) := by
      intro j e hj
      have hjl : j < len := by rw [← hlen]; exact (List.getElem?_eq_some_iff.1 hj).1
      simp [hjl] at hj
      exact ⟨hjl, hj.symm⟩
    refine ⟨(List.range len).map g, .p ?_⟩
    have := PRep.sl (w := W) (I := (· < W.heap.size)) sz (((List.range len).map g).map pv) (some a) cap (fun j i => (W.cell? ((a.add (j * sz)).add i)).getD undef) (by omega) (by have := len_le_maxLen hm; omega) ?_ ?_
    · rw [hlen] at this; exact this
    · · rcases Nat.eq_zero_or_pos len with hz | hz
        · subst hz; exact .inl rfl
        · obtain ⟨v, hv⟩ := (hg 0 hz).2.1 0 h0
          obtain ⟨ab, ao, asp⟩ := a
          have hspot : asp = none := by simpa [Addr.add] using World.cell?_spot hv
          subst hspot
          refine .inr ⟨ab, ao, rfl, ?_, fun j e hj => ?_⟩
          · unfold World.cell? at hv
            split at hv
            · rename_i hb
              have := (Array.getElem?_eq_some_iff.1 hb).1
              simpa [Addr.add] using this
            · simp at hv
          · obtain ⟨hjl, rfl⟩ := hget j e hj
            refine ⟨(hg j hjl).1, fun i hi => ?_⟩
            obtain ⟨v, hv⟩ := (hg j hjl).2.1 i hi
            have e1 : (Addr.add ⟨ab, ao, none⟩ (j * sz)).add i = ⟨ab, ao + j * sz + i, none⟩ := by rw [add_plain, add_plain]
            rw [e1] at hv
            rw [hv]
            show some v = some ((W.cell? _).getD undef)
            rw [e1, hv]; rfl
    · intro j e i u hj hu
      obtain ⟨hjl, rfl⟩ := hget j e hj
      have hi : i < sz := by rw [← (hg j hjl).1]; exact (List.getElem?_eq_some_iff.1 hu).1
      obtain ⟨v, hv⟩ := (hg j hjl).2.1 i hi
      rw [hv]
      exact (hg j hjl).2.2 i u v hu hv
/-- The same, of a slice that stands in a cell. -/
theorem rep_sliceT {t e : TypeId} {fuel : Nat} {vs : List Value} {y : DataW H × List MemPlace} (ht : P.underlying t = some (.slice e)) (hf : DataW.trod enc P W 0 spare held fuel t vs = some y)
    {α : Type} [Inhabited α] (pv : α → List PV) (sz : Nat) (hsz : P.cellsOf e = sz) (h0 : 0 < sz)
    (hel : ∀ (n : Nat) (cs : List Value) (x : DataW H × List MemPlace), DataW.trod enc P W 0 spare held n e cs = some x → ∃ a : α, (pv a).length = sz ∧ ∀ (i : Nat) (u : PV), (pv a)[i]? = some u → ∀ v : Value, cs[i]? = some v → PRep W (· < W.heap.size) u v) :
    ∃ (l : List α) (v : Value), vs = [v] ∧ PRep W (· < W.heap.size) (.sl sz (l.map pv)) v := by
  classical
  rcases open_slice ht hf with ⟨hcs, _⟩ | ⟨a, len, cap, m, n, D, Pl, hcs, _, hl, hm, hmm, _, hx⟩
  · exact ⟨[], _, hcs, (PRep.sl sz [] none 0 (fun _ _ => undef) (by simp) (by simp) (.inl rfl) (fun j e i u h => by simp at h))⟩
  · have hlm : len ≤ m := by rw [hmm]; split <;> omega
    have hone : ∀ i, ∃ x : α, i < len → (pv x).length = sz ∧ (∀ k, k < sz → ∃ v, W.cell? ((a.add (i * sz)).add k) = some v) ∧ ∀ (k : Nat) (u : PV) (v : Value), (pv x)[k]? = some u → W.cell? ((a.add (i * sz)).add k) = some v → PRep W (· < W.heap.size) u v := by
      intro i
      by_cases hi : i < len
      · obtain ⟨cs', h1, h2⟩ := hx i (by omega)
        rw [hsz] at h1
        obtain ⟨x, h3, h4⟩ := hel n cs' _ h2
        obtain ⟨_, hlen, hc⟩ := World.cells?_some h1
        refine ⟨x, fun _ => ⟨h3, fun k hk => ?_, fun k u v hu hv => ?_⟩⟩
        · exact ⟨cs'[k]'(by omega), by rw [hc k hk, List.getElem?_eq_getElem]⟩
        · have hk : k < sz := by rw [← h3]; exact (List.getElem?_eq_some_iff.1 hu).1
          exact h4 k u hu v (by rw [← hc k hk]; exact hv)
      · exact ⟨default, fun h => absurd h hi⟩
    let g : Nat → α := fun i => (hone i).choose
    have hg : ∀ i, i < len → (pv (g i)).length = sz ∧ (∀ k, k < sz → ∃ v, W.cell? ((a.add (i * sz)).add k) = some v) ∧ ∀ (k : Nat) (u : PV) (v : Value), (pv (g i))[k]? = some u → W.cell? ((a.add (i * sz)).add k) = some v → PRep W (· < W.heap.size) u v := fun i hi => (hone i).choose_spec hi
    clear_value g
    have hlen : (((List.range len).map g).map pv).length = len := by simp
    have hget : ∀ (j : Nat) (e : List PV), (((List.range len).map g).map pv)[j]? = some e → j < len ∧ e = pv (g j) := by
      intro j e hj
      have hjl : j < len := by rw [← hlen]; exact (List.getElem?_eq_some_iff.1 hj).1
      simp [hjl] at hj
      exact ⟨hjl, hj.symm⟩
    refine ⟨(List.range len).map g, _, hcs, ?_⟩
    have := PRep.sl (w := W) (I := (· < W.heap.size)) sz (((List.range len).map g).map pv) (some a) cap (fun j i => (W.cell? ((a.add (j * sz)).add i)).getD undef) (by omega) (by have := len_le_maxLen hm; omega) ?_ ?_
    · rw [hlen] at this; exact this
    · · rcases Nat.eq_zero_or_pos len with hz | hz
        · subst hz; exact .inl rfl
        · obtain ⟨v, hv⟩ := (hg 0 hz).2.1 0 h0
          obtain ⟨ab, ao, asp⟩ := a
          have hspot : asp = none := by simpa [Addr.add] using World.cell?_spot hv
          subst hspot
          refine .inr ⟨ab, ao, rfl, ?_, fun j e hj => ?_⟩
          · unfold World.cell? at hv
            split at hv
            · rename_i hb
              have := (Array.getElem?_eq_some_iff.1 hb).1
              simpa [Addr.add] using this
            · simp at hv
          · obtain ⟨hjl, rfl⟩ := hget j e hj
            refine ⟨(hg j hjl).1, fun i hi => ?_⟩
            obtain ⟨v, hv⟩ := (hg j hjl).2.1 i hi
            have e1 : (Addr.add ⟨ab, ao, none⟩ (j * sz)).add i = ⟨ab, ao + j * sz + i, none⟩ := by rw [add_plain, add_plain]
            rw [e1] at hv
            rw [hv]
            show some v = some ((W.cell? _).getD undef)
            rw [e1, hv]; rfl
    · intro j e i u hj hu
      obtain ⟨hjl, rfl⟩ := hget j e hj
      have hi : i < sz := by rw [← (hg j hjl).1]; exact (List.getElem?_eq_some_iff.1 hu).1
      obtain ⟨v, hv⟩ := (hg j hjl).2.1 i hi
      rw [hv]
      exact (hg j hjl).2.2 i u v hu hv
end
end Go.Proofs.YtinfbclgkghgaaaGreat.AL

/- What a geometry, a piece and bytes read as (seat rd). -/
namespace Go.Proofs.YtinfbclgkghgaaaGreat.AL
open Go Go.RowKit Go.ChangeShapes Go.WideShapes Go.ChangeAt Go.Deep Go.Proofs

theorem raw_int {W : World} {I : Nat → Prop} (k : IntKind) (n : Int) : PRep W I (.raw (.int k n)) (.int k n) := .raw _ rfl
theorem rep_int {W : World} {I : Nat → Prop} {ι : Nat → Option Nat} (n : Int) : ARep W I ι (i64 n) (.int .i64 n) := .p (.raw _ rfl)
theorem rep_bool {W : World} {I : Nat → Prop} {ι : Nat → Option Nat} (b : Bool) : ARep W I ι (bl b) (.bool b) := .p (.raw _ rfl)

section
variable {H : Type} {enc : TypeId × Value → H} {W : World} {spare : Nat → Bool} {held : Bool}

theorem u8_of {n : Int} (h : (Lit.int .u8 n).wf = true) : ∃ b : UInt8, n = (b.toNat : Int) := by
  have h2 : 0 ≤ n ∧ n < 256 := by
    simp [Lit.wf] at h
    have h3 : IntKind.u8.min = 0 := rfl
    have h4 : IntKind.u8.max = 255 := rfl
    omega
  refine ⟨UInt8.ofNat n.toNat, ?_⟩
  rw [UInt8.toNat_ofNat']
  omega

theorem c3 : Tryz.prog.cellsOf 3 = 1 := by kernel_rfl
theorem c5 : Tryz.prog.cellsOf 5 = 1 := by kernel_rfl
theorem c23 : Tryz.prog.cellsOf 23 = 4 := by kernel_rfl
theorem c24 : Tryz.prog.cellsOf 24 = 1 := by kernel_rfl
theorem c61 : Tryz.prog.cellsOf 61 = 7 := by kernel_rfl

set_option maxRecDepth 20000 in
theorem geo_cells (n : Nat) (cs : List Value) (x : DataW H × List MemPlace) (h : DataW.trod enc Tryz.prog W 0 spare held n 23 cs = some x) : ∃ g : GeoV, cs = [.int .i64 g.w, .int .i64 g.s, .int .i64 g.k, .int .i64 g.m] := by
  obtain ⟨xs, m, _, rfl, hl, hlen, hf⟩ := DataW.trod_struct Tryz.underlying23 h
  rw [c23] at hl
  have h0 := hf 0 _ rfl
  have h1 := hf 1 _ rfl
  have h2 := hf 2 _ rfl
  have h3 := hf 3 _ rfl
  match xs, hlen with
  | [y0, y1, y2, y3], _ =>
    match cs, hl with
    | [v0, v1, v2, v3], _ =>
      simp [c3] at h0 h1 h2 h3
      obtain ⟨a0, e0, _⟩ := DataW.trod_int Tryz.underlying3 h0
      obtain ⟨a1, e1, _⟩ := DataW.trod_int Tryz.underlying3 h1
      obtain ⟨a2, e2, _⟩ := DataW.trod_int Tryz.underlying3 h2
      obtain ⟨a3, e3, _⟩ := DataW.trod_int Tryz.underlying3 h3
      simp at e0 e1 e2 e3
      exact ⟨⟨a0, a1, a2, a3⟩, by rw [e0, e1, e2, e3]⟩

set_option maxRecDepth 20000 in
theorem geo_rep {v : Value} {d : DataW H} {ps : List MemPlace} {r : Reach} {b0 : Nat} {ι : Nat → Option Nat}
    (hval : Value.okWide Tryz.prog W r b0 23 v) (h : DataW.Trod enc Tryz.prog W 0 spare held 23 v d ps) : ∃ g : GeoV, ARep W (· < W.heap.size) ι g.av v := by
  obtain ⟨cs, rfl, hsz⟩ := okWide_struct Tryz.underlying23 hval
  obtain ⟨n, hn⟩ := h
  obtain ⟨g, hcs⟩ := geo_cells n _ _ hn
  have : cs = [Value.int .i64 g.w, .int .i64 g.s, .int .i64 g.k, .int .i64 g.m].toArray := by
    cases cs; simpa [Value.cells] using hcs
  subst this
  refine ⟨g, .agg _ _ rfl fun i u hu => ?_⟩
  match i, hu with
  | 0, hu => cases hu; exact rep_int _
  | 1, hu => cases hu; exact rep_int _
  | 2, hu => cases hu; exact rep_int _
  | 3, hu => cases hu; exact rep_int _
  | i + 4, hu => cases hu

theorem byte_el (n : Nat) (cs : List Value) (x : DataW H × List MemPlace) (hx : DataW.trod enc Tryz.prog W 0 spare held n 5 cs = some x) : ∃ b : UInt8, ([u8 b] : List PV).length = 1 ∧ ∀ (i : Nat) (u : PV), ([u8 b] : List PV)[i]? = some u → ∀ v : Value, cs[i]? = some v → PRep W (· < W.heap.size) u v := by
  obtain ⟨a, e, _, w⟩ := DataW.trod_int Tryz.underlying5 hx
  obtain ⟨b, rfl⟩ := u8_of w
  refine ⟨b, rfl, fun i u hu v hv => ?_⟩
  rw [e] at hv
  match i, hu, hv with
  | 0, hu, hv => simp at hu hv; subst hu; subst hv; exact raw_int _ _
  | i + 1, hu, hv => simp at hu
set_option maxRecDepth 20000 in
theorem bytes_rep {v : Value} {d : DataW H} {ps : List MemPlace} {r : Reach} {b0 : Nat} {ι : Nat → Option Nat}
    (hval : Value.okWide Tryz.prog W r b0 24 v) (h : DataW.Trod enc Tryz.prog W 0 spare held 24 v d ps) : ∃ l : Bytes, ARep W (· < W.heap.size) ι (bA l) v :=
  rep_slice Tryz.underlying24 hval h (fun b : UInt8 => [u8 b]) 1 c5 (by decide) byte_el

set_option maxRecDepth 20000 in
theorem piece_cells (n : Nat) (cs : List Value) (x : DataW H × List MemPlace) (h : DataW.trod enc Tryz.prog W 0 spare held n 61 cs = some x) :
    ∃ p : Pc, ∃ v : Value, cs = [.int .i64 p.seq, .int .i64 p.epoch, .int .i64 p.frm, .int .i64 p.chain, .int .i64 p.index, .int .i64 p.of_, v] ∧ PRep W (· < W.heap.size) (bP p.b) v := by
  obtain ⟨xs, m, _, rfl, hl, hlen, hf⟩ := DataW.trod_struct Tryz.underlying61 h
  rw [c61] at hl
  have h0 := hf 0 _ rfl
  have h1 := hf 1 _ rfl
  have h2 := hf 2 _ rfl
  have h3 := hf 3 _ rfl
  have h4 := hf 4 _ rfl
  have h5 := hf 5 _ rfl
  have h6 := hf 6 _ rfl
  match xs, hlen with
  | [y0, y1, y2, y3, y4, y5, y6], _ =>
    match cs, hl with
    | [v0, v1, v2, v3, v4, v5, v6], _ =>
      simp [c3, c24] at h0 h1 h2 h3 h4 h5 h6
      obtain ⟨a0, e0, _⟩ := DataW.trod_int Tryz.underlying3 h0
      obtain ⟨a1, e1, _⟩ := DataW.trod_int Tryz.underlying3 h1
      obtain ⟨a2, e2, _⟩ := DataW.trod_int Tryz.underlying3 h2
      obtain ⟨a3, e3, _⟩ := DataW.trod_int Tryz.underlying3 h3
      obtain ⟨a4, e4, _⟩ := DataW.trod_int Tryz.underlying3 h4
      obtain ⟨a5, e5, _⟩ := DataW.trod_int Tryz.underlying3 h5
      obtain ⟨b, v, e6, hk⟩ := rep_sliceT Tryz.underlying24 h6 (fun b : UInt8 => [u8 b]) 1 c5 (by decide) byte_el
      simp at e0 e1 e2 e3 e4 e5 e6
      exact ⟨⟨a0, a1, a2, a3, a4, a5, b⟩, v, by rw [e0, e1, e2, e3, e4, e5, e6], hk⟩

set_option maxRecDepth 20000 in
theorem piece_rep {v : Value} {d : DataW H} {ps : List MemPlace} {r : Reach} {b0 : Nat} {ι : Nat → Option Nat}
    (hval : Value.okWide Tryz.prog W r b0 61 v) (h : DataW.Trod enc Tryz.prog W 0 spare held 61 v d ps) : ∃ p : Pc, ARep W (· < W.heap.size) ι p.av v := by
  obtain ⟨cs, rfl, hsz⟩ := okWide_struct Tryz.underlying61 hval
  obtain ⟨n, hn⟩ := h
  obtain ⟨p, v, hcs, hk⟩ := piece_cells n _ _ hn
  have : cs = [Value.int .i64 p.seq, .int .i64 p.epoch, .int .i64 p.frm, .int .i64 p.chain, .int .i64 p.index, .int .i64 p.of_, v].toArray := by
    cases cs; simpa [Value.cells] using hcs
  subst this
  refine ⟨p, .agg _ _ rfl fun i u hu => ?_⟩
  match i, hu with
  | 0, hu => cases hu; exact rep_int _
  | 1, hu => cases hu; exact rep_int _
  | 2, hu => cases hu; exact rep_int _
  | 3, hu => cases hu; exact rep_int _
  | 4, hu => cases hu; exact rep_int _
  | 5, hu => cases hu; exact rep_int _
  | 6, hu => cases hu; exact .p hk
  | i + 7, hu => cases hu
end
end Go.Proofs.YtinfbclgkghgaaaGreat.AL

/- The facts on the whole program (seat rd) that each row of the seat asks for. -/
namespace Go.Proofs.YtinfbclgkghgaaaGreat.AL
open Go Go.Proofs Go.Proofs.YtinfbclgkghgaaaGreat
theorem rdK2 : (mapsRowed Tryz.prog) = true := by kernel_rfl
theorem rdK6 : ((Tryz.prog.stops == [])) = true := by kernel_rfl
theorem rdK8 : ((Tryz.prog.stopKnobs == [])) = true := by kernel_rfl
theorem rdK22 : ((Rows.ringTellsRow.plainKeys == Tryz.prog.plainKeys)) = true := by kernel_rfl
theorem rdK24 : (Tryz.prog.stopsHeard) = true := by kernel_rfl
theorem rdK25 : (Tryz.prog.mayEnter) = true := by kernel_rfl
theorem rdK26 : ((Rows.ringTellsRow.lifted == Tryz.prog.liftsFinal)) = true := by kernel_rfl
theorem rdK27 : ((Tryz.prog.make == some Rows.ringTellsRow.make)) = true := by kernel_rfl
end Go.Proofs.YtinfbclgkghgaaaGreat.AL

/- The law RingFollows: what both mirrors tell is what the document says. -/
namespace Go.Proofs.YtinfbclgkghgaaaGreat.AL
open Go Go.Proofs

theorem catB_le : ∀ l : List Pc, (∀ p ∈ l, p.b.length ≤ 200) → (catB l).length ≤ 200 * l.length
  | [], _ => Nat.zero_le _
  | p :: r, h => by
    have h1 := h p (by simp)
    have h2 := catB_le r fun q hq => h q (by simp [hq])
    unfold catB at h2 ⊢
    rw [List.map_cons, List.flatten_cons, List.length_append, List.length_cons]
    omega
theorem grpL_le : ∀ (f : Nat) (l : List (Pc × Int)) (t : TailV), (∀ x ∈ l, x.1.may = true) → (grpL f l t).txs.length ≤ t.txs.length + f ∧ ∀ s ∈ (grpL f l t).txs, s ∈ t.txs ∨ s.length ≤ 12800
  | 0, _, t, _ => ⟨Nat.le_refl _, fun s h => .inl h⟩
  | f + 1, [], t, _ => by rw [grpL_nil]; exact ⟨by omega, fun s h => .inl h⟩
  | f + 1, (p, s) :: r, t, hm => by
    rw [grpL_cons]
    split
    · exact ⟨by omega, fun s h => .inl h⟩
    · have h64 : p.of_ ≤ 64 := (Pc.of_may (hm (p, s) (by simp))).2.2.2.2.2.2.1
      obtain ⟨h1, h2⟩ := grpL_le f (((p, s) :: r).drop p.of_.toNat) { t with txs := t.txs ++ [catB (lst (((p, s) :: r).take p.of_.toNat))], next := (lastR (lst (((p, s) :: r).take p.of_.toNat))).seq + 1, chain := ((sms (((p, s) :: r).take p.of_.toNat)).getLastD 0) } (fun x hx => hm x (List.mem_of_mem_drop hx))
      refine ⟨?_, fun y hy => ?_⟩
      · have h1 := h1
        simp only [List.length_append, List.length_singleton] at h1
        omega
      · rcases h2 y hy with h | h
        · simp only [List.mem_append, List.mem_singleton] at h
          rcases h with h | rfl
          · exact .inl h
          · right
            have := catB_le (lst (((p, s) :: r).take p.of_.toNat)) (fun q hq => by
              unfold lst at hq
              rw [List.mem_map] at hq
              obtain ⟨x, hx, rfl⟩ := hq
              exact (Pc.of_may (hm x (List.mem_of_mem_take hx))).2.2.2.2.2.2.2.2.2)
            have hl : (lst (((p, s) :: r).take p.of_.toNat)).length ≤ 64 := by
              unfold lst
              rw [List.length_map, List.length_take]; omega
            omega
        · exact .inr h
theorem refB_le (vol : Int) (g : GeoV) (a b : List Bytes) (start chain : Int) : (refB vol g a b start chain).1.txs.length ≤ 1000000 ∧ ∀ s ∈ (refB vol g a b start chain).1.txs, s.length ≤ 1000000 := by
  unfold refB
  cases hok : logOk vol g a b start chain with
  | false => exact ⟨Nat.zero_le _, fun s h => by simp [TailV.zero] at h⟩
  | true =>
    have hg : g.may = true := by unfold logOk at hok; rw [Bool.and_eq_true] at hok; exact hok.1
    have hw := (g.of_may hg).2.1
    obtain ⟨q1, q2⟩ := goL_may vol g a b g.w.toNat start (rd0 chain)
    cases (goL vol g a b g.w.toNat start (rd0 chain)).2 with
    | true => exact ⟨Nat.zero_le _, fun s h => by simp [TailV.zero] at h⟩
    | false =>
      obtain ⟨h1, h2⟩ := grpL_le (goL vol g a b g.w.toNat start (rd0 chain)).1.length (goL vol g a b g.w.toNat start (rd0 chain)).1 ⟨[], start, chain, lastE (goL vol g a b g.w.toNat start (rd0 chain)).1⟩ q2
      refine ⟨?_, fun s hs => ?_⟩
      · show (groupB _ start chain).txs.length ≤ _
        unfold groupB
        simp only [List.length_nil] at h1
        omega
      · rcases h2 s hs with h | h
        · simp at h
        · omega

theorem fewB_all {n k : Nat} {l : List Bytes} (h : fewB n k l = true) : ∀ s ∈ l, s.length ≤ k := by
  unfold fewB at h
  rw [Bool.and_eq_true] at h
  exact fun s hs => of_decide_eq_true (List.all_eq_true.mp h.2 s hs)

set_option maxHeartbeats 1000000 in
set_option maxRecDepth 20000 in
theorem ring_follows (a b : List Bytes) (vol : Int) (g : GeoV) (start chain : Int) : AF Tryz.prog f_law11_RingFollows [.p (.sl 1 (catX a)), .p (.sl 1 (catX b)), i64 vol, g.av, i64 start, i64 chain] [] (Pure (bl true) []) := by
  refine AF.mono (R := fun r H' => ∃ z, z = true ∧ r = bl z ∧ H' = []) ?_ (by rintro r H' ⟨b, rfl, rfl, rfl⟩; exact ⟨rfl, rfl⟩)
  have f1 := law11_few a
  have f2 := law11_few b
  have ha := fewB_all (n := 40) (k := 300) (l := a)
  have hb := fewB_all (n := 40) (k := 300) (l := b)
  generalize fewB 40 300 a = x1 at f1 ha
  generalize fewB 40 300 b = x2 at f2 hb
  refine af_body hT F_law11_RingFollows rfl rfl N_law11_RingFollows rfl ?_
  refine aw_cut ⟨⟨66, [(0, .p (.sl 1 (catX a))), (1, .p (.sl 1 (catX b))), (2, i64 vol), (4, i64 start), (5, i64 chain), (9, .p (.box g.pv))]⟩, []⟩ True (aw_region hT ?_) (fun _ => ?_)
  · exact ⟨Wk.trans (wk_boxL 0 g.pv rfl rfl) (wk_pick [] [0, 1, 2, 4, 5, 9] rfl), trivial⟩
  refine aw_seq (aw_region hT ?_)
  refine callP (af_at law11_awake _ rfl rfl) ?_
  refine aw_seq (aw_region hT ?_)
  refine callP (af_at f1 _ rfl rfl) ?_
  refine aw_cut ⟨⟨66, [(0, .p (.sl 1 (catX a))), (1, .p (.sl 1 (catX b))), (2, i64 vol), (4, i64 start), (5, i64 chain), (9, .p (.box g.pv)), (13, bl true), (14, bl x1), (15, bl x2)]⟩, []⟩ True (aw_region hT ?_) (fun _ => ?_)
  · refine callP (af_at f2 _ rfl rfl) ?_
    exact ⟨wk_pick [] [0, 1, 2, 4, 5, 9, 13, 14, 15] rfl, trivial⟩
  refine aw_cut ⟨⟨66, [(0, .p (.sl 1 (catX a))), (1, .p (.sl 1 (catX b))), (2, i64 vol), (4, i64 start), (5, i64 chain), (9, .p (.box g.pv))]⟩, []⟩ (x1 = true ∧ x2 = true) (aw_seq (aw_region hT ?_)) ?_
  · refine boolI (fun h => ?_) (fun h => ?_)
    · refine aw_cond ?_
      refine aw_seq (aw_region hT ?_)
      refine aw_ret ?_
      exact retPick [] ⟨true, rfl, rfl, rfl⟩ rfl
    have h : (!x1) = false := h
    refine aw_cond (boolI (fun h1 => ?_) (fun h1 => ?_))
    · refine aw_seq (aw_region hT ?_)
      refine aw_ret ?_
      exact retPick [] ⟨true, rfl, rfl, rfl⟩ rfl
    · have h1 : (!x2) = false := h1
      exact aw_skip ⟨wk_pick [] [0, 1, 2, 4, 5, 9] rfl, by simpa using h, by simpa using h1⟩
  rintro ⟨hx1, hx2⟩
  have has : ∀ s ∈ a, s.length ≤ 1000000 := fun s hs => Nat.le_trans (ha hx1 s hs) (by omega)
  have hbs : ∀ s ∈ b, s.length ≤ 1000000 := fun s hs => Nat.le_trans (hb hx2 s hs) (by omega)
  have w1 := ring_Follow a b vol g start chain has hbs
  rw [follow_ref] at w1
  have w2 := ref11_Follow grouped_ok a b vol g start chain has hbs
  obtain ⟨q1, q2⟩ := refB_le vol g a b start chain
  generalize refB vol g a b start chain = Y at w1 w2 q1 q2
  obtain ⟨t, e⟩ := Y
  have w1 : AF Tryz.prog f_ring_Follow [.p (.sl 1 (catX a)), .p (.sl 1 (catX b)), i64 vol, g.av, i64 start, i64 chain] [] (Pure (.tup [t.av, i64 e]) []) := w1
  have w2 : AF Tryz.prog f_ref11_Follow [.p (.sl 1 (catX a)), .p (.sl 1 (catX b)), i64 vol, g.av, i64 start, i64 chain] [] (Pure (.tup [t.av, i64 e]) []) := w2
  have w3 := ref11_Same t q1 q2
  refine aw_cut ⟨⟨66, [(0, .p (.sl 1 (catX a))), (1, .p (.sl 1 (catX b))), (2, i64 vol), (4, i64 start), (5, i64 chain), (9, .p (.box g.pv)), (16, .ref 0 0), (17, i64 e)]⟩, [.cells t_api_Tail t.cv]⟩ True (aw_region hT ?_) (fun _ => ?_)
  · refine callP (af_at w1 _ rfl rfl) ?_
    exact ⟨wk_pick [0] [0, 1, 2, 4, 5, 9, 16, 17] rfl, trivial⟩
  refine aw_cut ⟨⟨66, [(16, .ref 0 0), (17, i64 e), (18, .ref 1 0), (19, i64 e)]⟩, [.cells t_api_Tail t.cv, .cells t_api_Tail t.cv]⟩ True (aw_region hT ?_) (fun _ => ?_)
  · refine callP (af_at w2 _ rfl rfl) ?_
    exact ⟨wk_pick [0, 1] [16, 17, 18, 19] rfl, trivial⟩
  refine aw_cut ⟨⟨66, [(17, i64 e), (19, i64 e), (20, bl true)]⟩, []⟩ True (aw_region hT ?_) (fun _ => ?_)
  · refine callP (af_at w3 _ rfl rfl) ?_
    exact ⟨wk_pick [] [17, 19, 20] rfl, trivial⟩
  refine aw_seq (aw_region hT ?_)
  refine aw_ret ?_
  exact retPick [] ⟨_, beq_self_eq_true e, rfl, rfl⟩ rfl
end Go.Proofs.YtinfbclgkghgaaaGreat.AL

/- What a list of bytes reads as (seat rd). -/
namespace Go.Proofs.YtinfbclgkghgaaaGreat.AL
open Go Go.RowKit Go.ChangeShapes Go.WideShapes Go.ChangeAt Go.Deep Go.Proofs
section
variable {H : Type} {enc : TypeId × Value → H} {W : World} {spare : Nat → Bool} {held : Bool}
theorem list_el (n : Nat) (cs : List Value) (x : DataW H × List MemPlace) (hx : DataW.trod enc Tryz.prog W 0 spare held n 24 cs = some x) : ∃ b : Bytes, ([bP b] : List PV).length = 1 ∧ ∀ (i : Nat) (u : PV), ([bP b] : List PV)[i]? = some u → ∀ v : Value, cs[i]? = some v → PRep W (· < W.heap.size) u v := by
  obtain ⟨l, v, hv, hp⟩ := rep_sliceT Tryz.underlying24 hx (fun b : UInt8 => [u8 b]) 1 c5 (by decide) byte_el
  refine ⟨l, rfl, fun i u hu w hw => ?_⟩
  rw [hv] at hw
  match i, hu, hw with
  | 0, hu, hw => simp at hu hw; subst hu; subst hw; exact hp
  | i + 1, hu, hw => simp at hu
set_option maxRecDepth 20000 in
theorem lists_rep {v : Value} {d : DataW H} {ps : List MemPlace} {r : Reach} {b0 : Nat} {ι : Nat → Option Nat}
    (hval : Value.okWide Tryz.prog W r b0 37 v) (h : DataW.Trod enc Tryz.prog W 0 spare held 37 v d ps) : ∃ l : List Bytes, ARep W (· < W.heap.size) ι (.p (.sl 1 (catX l))) v :=
  rep_slice Tryz.underlying37 hval h (fun b : Bytes => [bP b]) 1 c24 (by decide) list_el
end
end Go.Proofs.YtinfbclgkghgaaaGreat.AL

/- The layer 11 (ring), plain: a sector tells its own piece only; appends on a clean device; how many pieces. -/
namespace Go.Proofs.YtinfbclgkghgaaaGreat.AL
open Go Go.Proofs Go.Proofs.YtinfbclgkghgaaaGreat.AL.Crc

theorem told_own {p : Pc} {vol : Int} {g : GeoV} {m : Int} (hp : p.may = true) (hg : g.may = true) (hv : wordB vol = true) (m0 : 0 ≤ m) (m2 : m < 2) (vol' m' slot : Int) :
    (toldP (p.sector vol g m).1 vol' g m' slot).2 = (decide (vol' = vol) && (decide (m' = m) && decide (slot = p.seq.tmod g.w))) := by
  obtain ⟨g1, _⟩ := g.of_may hg
  obtain ⟨a1, a2⟩ := sectorP_ok hp hg hv m0 m2
  cases h : (toldP (p.sector vol g m).1 vol' g m' slot).2 with
  | true =>
    obtain ⟨⟨q1, _, q3, q4, q5⟩, q6, q7⟩ := toldP_true (p := (toldP (p.sector vol g m).1 vol' g m' slot).1) (show toldP (p.sector vol g m).1 vol' g m' slot = _ by rw [← h])
    generalize (toldP (p.sector vol g m).1 vol' g m' slot).1 = q at q1 q6 q7
    obtain ⟨b1, b2⟩ := sectorP_ok q1 hg q3 q4 q5
    have e : openB (p.sector vol g m).1 = (p.blk vol g m, 0) := by rw [a1]; exact a2
    rw [q6, b1] at e
    have e := b2.symm.trans e
    have e : q.blk vol' g m' = p.blk vol g m := (Prod.mk.injEq ..).mp e |>.1
    unfold Pc.blk at e
    simp only [Blk.mk.injEq] at e
    obtain ⟨_, e2, e3, _, e5, _⟩ := e
    rw [e5] at e3 q7
    unfold addrB at e3
    have hm : m' * g.w = m * g.w := by omega
    have hm : m' = m := Int.eq_of_mul_eq_mul_right (by omega) hm
    rw [decide_eq_true e2, decide_eq_true hm, decide_eq_true q7.symm]; rfl
  | false =>
    symm
    apply Bool.eq_false_iff.mpr
    intro hc
    rw [Bool.and_eq_true, Bool.and_eq_true, decide_eq_true_eq, decide_eq_true_eq, decide_eq_true_eq] at hc
    obtain ⟨rfl, rfl, rfl⟩ := hc
    rw [toldP_sector hp hg hv m0 m2] at h
    simp at h

theorem appK_clean (n : Int) (hn : n ≤ 64) : ∀ (l : List Bytes) (i : Int) (R : Rg) (D : Dev) (b : Nat), R.Ok → CleanP D R.g.secs b → 0 ≤ i → i + l.length ≤ n → (∀ s ∈ l, s.length ≤ 200) → R.next + l.length ≤ 4294967295 →
    ∃ E, appK n l i R D = (0, (advR n l i R, E)) ∧ (advR n l i R).Ok ∧ CleanP E R.g.secs (b + 2 * l.length)
  | [], i, R, D, b, hR, h, _, _, _, _ => ⟨D, rfl, hR, h⟩
  | x :: r, i, R, D, b, hR, h, h0, hi, hl, hx => by
    rw [List.length_cons] at hi hx
    have hp := pcR_may hR (i := i) (n := n) (b := x) h0 (by omega) hn (hl x (by simp))
    obtain ⟨E, e1, e2, _⟩ := putR_clean hR h hp
    have hw := sumP_word R.vol R.g (pcR R i n x)
    obtain ⟨o1, o2, o3, o4, o5, o6, o7⟩ := hR
    have ok : (nxR R (pcR R i n x)).Ok := by
      refine ⟨o1, o2, o3, ⟨o4.1, ?_⟩, ⟨o5.1, ?_⟩, ?_, hw⟩
      · show R.frm ≤ R.next + 1; omega
      · show R.start ≤ R.next + 1; omega
      · show R.next + 1 ≤ _; omega
    obtain ⟨F, f1, f2, f3⟩ := appK_clean n hn r (i + 1) (nxR R (pcR R i n x)) E (b + 2) ok e2 (by omega) (by omega) (fun s hs => hl s (by simp [hs])) (by show R.next + 1 + _ ≤ _; omega)
    refine ⟨F, ?_, f2, ?_⟩
    · show (match (putR R D (pcR R i n x)).1 != 0 with
        | true => putR R D (pcR R i n x)
        | false => appK n r (i + 1) (putR R D (pcR R i n x)).2.1 (putR R D (pcR R i n x)).2.2) = _
      rw [e1]
      exact f1
    · rw [List.length_cons, show b + 2 * (r.length + 1) = b + 2 + 2 * r.length by omega]
      exact f3
/-- What an append answers on a clean device. -/
theorem append_clean {R : Rg} {D : Dev} {b : Nat} (hR : R.Ok) (h : CleanP D R.g.secs b) (tx : Bytes) {n : Nat} (hn : n = (splitB tx).length) :
    (n > 64 → R.append D tx = (2, (R, D))) ∧ (n ≤ 64 → R.next + n - R.start > R.g.w ∨ R.next + n > 4294967295 → R.append D tx = (4, (R, D))) ∧
    (n ≤ 64 → R.next + n - R.start ≤ R.g.w → R.next + n ≤ 4294967295 → ∃ (R' : Rg) (E : Dev), R.append D tx = (0, (R', E)) ∧ R'.Ok ∧ CleanP E R.g.secs (b + 2 * n) ∧ R'.g = R.g ∧ R'.start = R.start ∧ R'.next = R.next + n) := by
  refine ⟨fun h64 => ?_, fun h64 hf => ?_, fun h64 hw hx => ?_⟩
  · unfold Rg.append; rw [← hn, decide_eq_true h64]
  · unfold Rg.append; rw [← hn, decide_eq_false (show ¬ n > 64 by omega)]
    simp only
    rw [show (decide (R.next + (n : Int) - R.start > R.g.w) || decide (R.next + (n : Int) > 4294967295)) = true by rw [Bool.or_eq_true, decide_eq_true_eq, decide_eq_true_eq]; exact hf]
  · obtain ⟨E, e1, e2, e3⟩ := appK_clean (splitB tx).length (by omega) (splitB tx) 0 R D b hR h (Int.le_refl _) (by omega) (splitB_all tx) (by omega)
    obtain ⟨i1, i2, i3, i4, i5, i6⟩ := advR_id (splitB tx).length (splitB tx) 0 R
    refine ⟨_, E, ?_, e2, by rw [hn]; exact e3, i1, i5, by rw [hn]; exact i6⟩
    unfold Rg.append
    rw [decide_eq_false (show ¬ (splitB tx).length > 64 by omega)]
    simp only
    rw [decide_eq_false (show ¬ R.next + (splitB tx).length - R.start > R.g.w by omega), decide_eq_false (show ¬ R.next + ((splitB tx).length : Int) > 4294967295 by omega)]
    exact e1

theorem splitF_num : ∀ (f : Nat) (b : Bytes), b.length ≤ f → (splitF f b).length = if b.length = 0 then 1 else (b.length + 199) / 200
  | 0, b, h => by
    rw [if_pos (by omega)]; rfl
  | f + 1, b, h => by
    unfold splitF
    split
    · rename_i hd
      have hd := of_decide_eq_true hd
      rw [List.length_cons, splitF_num f _ (by rw [List.length_drop]; omega), List.length_drop, if_neg (by omega), if_neg (by omega)]
      omega
    · rename_i hd
      have hd := of_decide_eq_false hd
      rw [List.length_singleton]
      split
      · rfl
      · omega
/-- How many pieces a transaction has. -/
theorem splitB_num (b : Bytes) : (splitB b).length = if b.length = 0 then 1 else (b.length + 199) / 200 := splitF_num _ b (Nat.le_refl _)
end Go.Proofs.YtinfbclgkghgaaaGreat.AL

/- The law RingOne: a piece's sector tells it in its own mirror, slot and volume alone. -/
namespace Go.Proofs.YtinfbclgkghgaaaGreat.AL
open Go Go.Proofs

theorem beq_dec (a b : Int) : (a == b) = decide (a = b) := by
  by_cases h : a = b
  · rw [decide_eq_true h, h]; simp
  · rw [decide_eq_false h]; simp [h]
set_option maxHeartbeats 4000000 in
set_option maxRecDepth 20000 in
theorem ring_one (vol : Int) (g : GeoV) (p : Pc) (slot other : Int) : AF Tryz.prog f_law11_RingOne [i64 vol, g.av, p.av, i64 slot, i64 other] [] (Pure (bl true) []) := by
  refine AF.mono (R := fun r H' => ∃ z, z = true ∧ r = bl z ∧ H' = []) ?_ (by rintro r H' ⟨b, rfl, rfl, rfl⟩; exact ⟨rfl, rfl⟩)
  have w8 := ref08_May g
  have wm := ring_May p
  refine af_body hT F_law11_RingOne rfl rfl N_law11_RingOne rfl ?_
  refine aw_cut ⟨⟨143, [(0, i64 vol), (3, i64 slot), (4, i64 other), (6, .p (.box g.pv)), (7, .p (.box p.pv))]⟩, []⟩ True (aw_region hT ?_) (fun _ => ?_)
  · exact ⟨Wk.trans (wk_boxL 0 g.pv rfl rfl) (Wk.trans (wk_boxL 1 p.pv rfl rfl) (wk_pick [] [0, 3, 4, 6, 7] rfl)), trivial⟩
  refine aw_seq (aw_region hT ?_)
  refine callP (af_at law11_awake _ rfl rfl) ?_
  cases hg : g.may with
  | false =>
    rw [hg] at w8
    refine aw_seq (aw_region hT ?_)
    refine callP (af_at w8 _ rfl rfl) ?_
    refine aw_seq (aw_seq (aw_region hT ?_))
    refine aw_cond ?_
    refine aw_seq (aw_region hT ?_)
    refine aw_ret ?_
    exact retPick [] ⟨true, rfl, rfl, rfl⟩ rfl
  | true =>
  rw [hg] at w8
  cases hp : p.may with
  | false =>
    rw [hp] at wm
    refine aw_seq (aw_region hT ?_)
    refine callP (af_at w8 _ rfl rfl) ?_
    refine aw_seq (aw_seq (aw_region hT ?_))
    refine callP (af_at wm _ rfl rfl) ?_
    refine aw_cond ?_
    refine aw_seq (aw_region hT ?_)
    refine aw_ret ?_
    exact retPick [] ⟨true, rfl, rfl, rfl⟩ rfl
  | true =>
  rw [hp] at wm
  refine aw_seq (aw_region hT ?_)
  refine callP (af_at w8 _ rfl rfl) ?_
  refine aw_cut ⟨⟨143, [(0, i64 vol), (3, i64 slot), (4, i64 other), (6, .p (.box g.pv)), (7, .p (.box p.pv))]⟩, []⟩ (wordB vol = true) (aw_seq (aw_region hT ?_)) ?_
  · refine callP (af_at wm _ rfl rfl) ?_
    refine boolI (fun h => ?_) (fun h => ?_)
    · refine aw_cond ?_
      refine aw_seq (aw_region hT ?_)
      refine aw_ret ?_
      exact retPick [] ⟨true, rfl, rfl, rfl⟩ rfl
    · have h := of_decide_eq_false (show decide (vol < 0) = false from h)
      refine aw_cond (boolI (fun h1 => ?_) (fun h1 => ?_))
      · refine aw_seq (aw_region hT ?_)
        refine aw_ret ?_
        exact retPick [] ⟨true, rfl, rfl, rfl⟩ rfl
      · have h1 := of_decide_eq_false (show decide (vol > 4294967295) = false from h1)
        refine aw_skip ⟨wk_pick [] [0, 3, 4, 6, 7] rfl, ?_⟩
        unfold wordB
        rw [decide_eq_true (show 0 ≤ vol by omega), decide_eq_true (show vol ≤ 4294967295 by omega)]; rfl
  intro hv
  obtain ⟨g1, g2, _⟩ := g.of_may hg
  refine aw_cut ⟨⟨143, []⟩, []⟩ True (aw_seq (aw_region hT ?_)) (fun _ => ?_)
  · refine aw_block ?_
    refine aw_loopW (fun n s => ∃ (k : Nat) (j : Int), n + k = 2 ∧ j = k ∧ s = ⟨⟨143, [(0, i64 vol), (3, i64 slot), (4, i64 other), (6, .p (.box g.pv)), (7, .p (.box p.pv)), (13, i64 j)]⟩, []⟩) 2 ⟨⟨143, _⟩, _⟩ (wk_pick [] [0, 3, 4, 6, 7, 13] rfl) ⟨0, 0, rfl, rfl, rfl⟩ ?_
    rintro n s ⟨k, j, hnk, hj, rfl⟩
    refine aw_seq (aw_seq (aw_region hT ?_))
    refine aw_cond (boolI (fun h => ?_) (fun h => ?_))
    · have hj2 := of_decide_eq_true (show decide (j < 2) = true from h)
      refine aw_skip ?_
      have so := (sectorP_ok hp hg hv (m := j) (by omega) (by omega)).1
      have ws := ring_Sector vol g j p
      have hlen := sector_le p vol g j
      have hpb := (p.of_may hp).2.2.2.2.2.2.2.2.2
      have t1 := toldP_sector hp hg hv (m := j) (by omega) (by omega)
      have hw1 : IntKind.i64.wrap (1 - j) = 1 - j := wrap64 _ (by omega) (by omega)
      have t2 := told_own hp hg hv (m := j) (by omega) (by omega) vol (IntKind.i64.wrap (1 - j)) (p.seq.tmod g.w)
      have t3 := told_own hp hg hv (m := j) (by omega) (by omega) vol j slot
      have t4 := told_own hp hg hv (m := j) (by omega) (by omega) other j (p.seq.tmod g.w)
      rw [hw1, decide_eq_false (show ¬ 1 - j = j by omega), Bool.false_and, Bool.and_false, ← hw1] at t2
      rw [decide_eq_true rfl, decide_eq_true rfl, Bool.true_and, Bool.true_and] at t3
      rw [decide_eq_true rfl, decide_eq_true rfl, Bool.and_true, Bool.and_true] at t4
      have w1 := ring_Told (p.sector vol g j).1 vol g j (p.seq.tmod g.w) hlen
      have w2 := ring_Told (p.sector vol g j).1 vol g (IntKind.i64.wrap (1 - j)) (p.seq.tmod g.w) hlen
      have w3 := ring_Told (p.sector vol g j).1 vol g j slot hlen
      have w4 := ring_Told (p.sector vol g j).1 other g j (p.seq.tmod g.w) hlen
      rw [t1] at w1
      rw [t2] at w2
      rw [t3] at w3
      rw [t4] at w4
      have wp := ref11_Pair p p (by omega)
      rw [decide_eq_true rfl] at wp
      generalize (toldP (p.sector vol g j).1 vol g (IntKind.i64.wrap (1 - j)) (p.seq.tmod g.w)).1 = X2 at w2
      generalize (toldP (p.sector vol g j).1 vol g j slot).1 = X3 at w3
      generalize (toldP (p.sector vol g j).1 other g j (p.seq.tmod g.w)).1 = X4 at w4
      rw [so] at ws w1 w2 w3 w4
      generalize sealB (p.blk vol g j).all = S at ws w1 w2 w3 w4
      have w1 : AF Tryz.prog f_ring_Told [bA S, i64 vol, g.av, i64 j, i64 (p.seq.tmod g.w)] [] (Pure (.tup [p.av, bl true]) []) := w1
      have w2 : AF Tryz.prog f_ring_Told [bA S, i64 vol, g.av, i64 (IntKind.i64.wrap (1 - j)), i64 (p.seq.tmod g.w)] [] (Pure (.tup [X2.av, bl false]) []) := w2
      have w3 : AF Tryz.prog f_ring_Told [bA S, i64 vol, g.av, i64 j, i64 slot] [] (Pure (.tup [X3.av, bl (decide (slot = p.seq.tmod g.w))]) []) := w3
      have w4 : AF Tryz.prog f_ring_Told [bA S, i64 other, g.av, i64 j, i64 (p.seq.tmod g.w)] [] (Pure (.tup [X4.av, bl (decide (other = vol))]) []) := w4
      obtain ⟨c3, hc3⟩ : ∃ c, c = decide (slot = p.seq.tmod g.w) := ⟨_, rfl⟩
      obtain ⟨c4, hc4⟩ : ∃ c, c = decide (other = vol) := ⟨_, rfl⟩
      rw [← hc3] at w3
      rw [← hc4] at w4
      refine aw_cut ⟨⟨143, [(0, i64 vol), (3, i64 slot), (4, i64 other), (6, .p (.box g.pv)), (7, .p (.box p.pv)), (13, i64 j)]⟩, []⟩ True (aw_block ?_) (fun _ => ?_)
      · refine aw_cut ⟨⟨143, [(0, i64 vol), (3, i64 slot), (4, i64 other), (6, .p (.box g.pv)), (7, .p (.box p.pv)), (13, i64 j), (14, bA S), (15, i64 0)]⟩, []⟩ True (aw_region hT ?_) (fun _ => ?_)
        · refine callP (af_at ws _ rfl rfl) ?_
          exact ⟨wk_pick [] [0, 3, 4, 6, 7, 13, 14, 15] rfl, trivial⟩
        refine aw_cut ⟨⟨143, [(0, i64 vol), (3, i64 slot), (4, i64 other), (6, .p (.box g.pv)), (7, .p (.box p.pv)), (13, i64 j), (14, bA S), (15, i64 0), (16, .ref 0 0), (17, bl true)]⟩, [pcC p]⟩ True ?_ (fun _ => ?_)
        · refine aw_draw [13, 14] [] hT follows_mixed (by rfl) ?_
          refine neI (y := g.w) (by omega) ?_
          refine ⟨_, af_at w1 _ rfl rfl, ?_⟩
          repeat first | refine ⟨rfl, ?_⟩ | refine ⟨⟨_, af_at w1 _ rfl rfl, rfl⟩, ?_⟩ | refine ⟨neI (y := g.w) (by omega) rfl, ?_⟩
          exact ⟨wk_pick [0] [0, 3, 4, 6, 7, 13, 14, 15, 16, 17] rfl, trivial⟩
        refine aw_cut ⟨⟨143, [(0, i64 vol), (3, i64 slot), (4, i64 other), (6, .p (.box g.pv)), (7, .p (.box p.pv)), (13, i64 j), (14, bA S), (15, i64 0), (17, bl true), (18, bl true)]⟩, []⟩ True (aw_region hT ?_) (fun _ => ?_)
        · refine callP (af_at wp _ rfl rfl) ?_
          exact ⟨wk_pick [] [0, 3, 4, 6, 7, 13, 14, 15, 17, 18] rfl, trivial⟩
        refine aw_cut ⟨⟨143, [(0, i64 vol), (3, i64 slot), (4, i64 other), (6, .p (.box g.pv)), (7, .p (.box p.pv)), (13, i64 j), (14, bA S), (15, i64 0), (17, bl true), (18, bl true), (20, bl false)]⟩, []⟩ True ?_ (fun _ => ?_)
        · refine aw_draw [14, 15] [] hT follows_mixed (by rfl) ?_
          refine neI (y := g.w) (by omega) ?_
          refine ⟨_, af_at w2 _ rfl rfl, ?_⟩
          repeat first | refine ⟨rfl, ?_⟩ | refine ⟨⟨_, af_at w2 _ rfl rfl, rfl⟩, ?_⟩ | refine ⟨neI (y := g.w) (by omega) rfl, ?_⟩
          exact ⟨wk_pick [] [0, 3, 4, 6, 7, 13, 14, 15, 17, 18, 20] rfl, trivial⟩
        refine aw_cut ⟨⟨143, [(0, i64 vol), (3, i64 slot), (4, i64 other), (6, .p (.box g.pv)), (7, .p (.box p.pv)), (13, i64 j), (14, bA S), (15, i64 0), (17, bl true), (18, bl true), (20, bl false), (22, bl c3)]⟩, []⟩ True (aw_region hT ?_) (fun _ => ?_)
        · refine callP (af_at w3 _ rfl rfl) ?_
          exact ⟨wk_pick [] [0, 3, 4, 6, 7, 13, 14, 15, 17, 18, 20, 22] rfl, trivial⟩
        refine aw_cut ⟨⟨143, [(0, i64 vol), (3, i64 slot), (4, i64 other), (6, .p (.box g.pv)), (7, .p (.box p.pv)), (13, i64 j), (14, bA S), (15, i64 0), (17, bl true), (18, bl true), (20, bl false), (22, bl c3), (24, bl c4)]⟩, []⟩ True ?_ (fun _ => ?_)
        · refine aw_draw [13, 14] [] hT follows_mixed (by rfl) ?_
          refine neI (y := g.w) (by omega) ?_
          refine ⟨_, af_at w4 _ rfl rfl, ?_⟩
          repeat first | refine ⟨rfl, ?_⟩ | refine ⟨⟨_, af_at w4 _ rfl rfl, rfl⟩, ?_⟩ | refine ⟨neI (y := g.w) (by omega) rfl, ?_⟩
          exact ⟨wk_pick [] [0, 3, 4, 6, 7, 13, 14, 15, 17, 18, 20, 22, 24] rfl, trivial⟩
        refine aw_seq (aw_region hT ?_)
        refine neI (y := g.w) (by omega) ?_
        refine boolI (fun h => ?_) (fun h => ?_)
        · exfalso
          have h : (c3 != (slot == p.seq.tmod g.w)) = true := h
          rw [hc3, ← beq_dec] at h
          simp at h
        refine aw_cond (boolI (fun h => ?_) (fun h => ?_))
        · exfalso
          have h : (c4 != (other == vol)) = true := h
          rw [hc4, ← beq_dec] at h
          simp at h
        exact aw_skip ⟨wk_pick [] [0, 3, 4, 6, 7, 13] rfl, trivial⟩
      · refine aw_region hT ?_
        exact ⟨n - 1, by omega, _, wk_pick [] [0, 3, 4, 6, 7, 13] rfl, k + 1, IntKind.i64.wrap (j + 1), by omega, by rw [wrap64 _ (by omega) (by omega)]; omega, rfl⟩
    · refine aw_exit ?_
      exact ⟨wk_pick [] [] rfl, trivial⟩
  refine aw_seq (aw_region hT ?_)
  refine aw_ret ?_
  exact retPick [] ⟨true, rfl, rfl, rfl⟩ rfl
end Go.Proofs.YtinfbclgkghgaaaGreat.AL
