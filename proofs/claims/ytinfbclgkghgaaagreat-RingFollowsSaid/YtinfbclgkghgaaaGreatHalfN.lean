/- A part of the proof. -/
import Derived.Laws.StructEq
import Derived.ChangeKeysEq
import Derived.Test.YtinfbclgkghgaaaGreatHalfM
/- The layer 11 (ring), plain: what a fault does to a device of which no write goes wrong; a damaged sector tells nothing. -/
namespace Go.Proofs.YtinfbclgkghgaaaGreat.AL
open Go Go.Proofs Go.Proofs.YtinfbclgkghgaaaGreat.AL.Crc

theorem LiveP.mono {D : Dev} {N b c : Nat} (h : LiveP D N b) (hc : b ≤ c) : LiveP D N c := ⟨h.ok.mono hc, h.dead, h.waits, h.len, h.well⟩
theorem CleanP.mono {D : Dev} {N b c : Nat} (h : CleanP D N b) (hc : b ≤ c) : CleanP D N c := ⟨h.ok.mono hc, h.dead, h.armed, h.waits, h.len, h.well⟩
theorem free_whole {v : Int} (hv : wordB v = true) {k : Nat} (hk : k ≤ 4294967295) : wholeB (freeS v k) = true ∧ (freeS v k).length = 256 := by
  obtain ⟨e1, _, e3⟩ := freeS_len v hv k hk
  exact ⟨by rw [e1]; exact whole_seal _, e3⟩
theorem sector_whole {p : Pc} {vol : Int} {g : GeoV} {m : Int} (hp : p.may = true) (hg : g.may = true) (hv : wordB vol = true) (m0 : 0 ≤ m) (m2 : m < 2) : wholeB (p.sector vol g m).1 = true ∧ (p.sector vol g m).1.length = 256 :=
  ⟨by rw [(sectorP_ok hp hg hv m0 m2).1]; exact whole_seal _, sector_len hp hg hv m0 m2⟩
/-- Each sector of the log is whole. -/
theorem CellsP.whole {vol : Int} {g : GeoV} {s0 : Int} {P : List Pc} {cs : List Cell} (h : CellsP vol g s0 P cs) (hg : g.may = true) (hv : wordB vol = true) (hp : ∀ (i : Nat) (p : Pc), P[i]? = some p → p.may = true) {k m : Int} (k0 : 0 ≤ k) (k1 : k < g.w) (hm : m = 0 ∨ m = 1) :
    ∃ s, cs[(addrB g m k).toNat]? = some (fine s) ∧ wholeB s = true ∧ s.length = 256 := by
  obtain ⟨g1, g2, _⟩ := g.of_may hg
  by_cases e : ∃ i : Nat, i < P.length ∧ slotOf g s0 i = k
  · obtain ⟨i, hi, rfl⟩ := e
    obtain ⟨a, b⟩ := sector_whole (hp i _ (List.getElem?_eq_getElem hi)) hg hv (m := m) (by omega) (by omega)
    exact ⟨_, h.used i _ (List.getElem?_eq_getElem hi) m hm, a, b⟩
  · have hk : (addrB g m k).toNat ≤ 4294967295 := by
      rcases hm with rfl | rfl
      · rw [addr0]; omega
      · rw [addr1]; omega
    obtain ⟨a, b⟩ := free_whole hv hk
    exact ⟨_, h.free k m k0 k1 hm fun i hi he => e ⟨i, hi, he⟩, a, b⟩

end Go.Proofs.YtinfbclgkghgaaaGreat.AL

/- The layer 11 (ring), plain: what is told of a log of several epochs. -/
namespace Go.Proofs.YtinfbclgkghgaaaGreat.AL
open Go Go.Proofs Go.Proofs.YtinfbclgkghgaaaGreat.AL.Crc

def secO (vol : Int) (g : GeoV) (m : Int) (k : Nat) : Option Pc → Bytes
  | none => freeS vol (addrB g m k).toNat
  | some p => (p.sector vol g m).1
/-- What stands in the slots of both mirrors. -/
structure SlotsP (vol : Int) (g : GeoV) (A B : Nat → Option Pc) (cs : List Cell) : Prop where
  a : ∀ k : Nat, (k : Int) < g.w → cs[(addrB g 0 k).toNat]? = some (fine (secO vol g 0 k (A k)))
  b : ∀ k : Nat, (k : Int) < g.w → cs[(addrB g 1 k).toNat]? = some (fine (secO vol g 1 k (B k)))
def MayO (e : Int) (A : Nat → Option Pc) : Prop := ∀ k p, A k = some p → p.may = true ∧ p.seq = (k : Int) ∧ p.epoch ≤ e
structure ChainE (vol : Int) (g : GeoV) (P : List Pc) : Prop where
  may : ∀ (i : Nat) (p : Pc), P[i]? = some p → p.may = true ∧ p.seq = (i : Int) ∧ p.chain = sumAt vol g 0 P i
  nxt : ∀ (i : Nat) (p q : Pc), P[i]? = some p → P[i + 1]? = some q → p.epoch ≤ q.epoch ∧ (p.epoch = q.epoch → q.frm = p.frm) ∧ (p.epoch < q.epoch → q.frm = q.seq)
structure TellsE (A B : Nat → Option Pc) (P : List Pc) : Prop where
  one : ∀ (i : Nat) (p : Pc), P[i]? = some p → A i = some p ∧ ∀ q, B i = some q → q = p ∨ q.epoch < p.epoch
  stop : ∀ q, A P.length = some q ∨ B P.length = some q → ∃ l, P.getLast? = some l ∧ q.epoch < l.epoch

/-- Transactions, and at the end one that is not whole. -/
structure TailP (T : List Pc) : Prop where
  pre : T = [] ∨ ∃ s, SegP s ∧ T <+: s ∧ T.length < s.length
/-- A log of several epochs. -/
structure StateP (vol : Int) (g : GeoV) (e : Int) (A B : Nat → Option Pc) (Q : List (List Pc)) (T : List Pc) (cs : List Cell) : Prop where
  slots : SlotsP vol g A B cs
  ma : MayO e A
  mb : MayO e B
  chain : ChainE vol g (Q.flatten ++ T)
  tells : TellsE A B (Q.flatten ++ T)
  len : ((Q.flatten ++ T).length : Int) ≤ g.w
  segs : ∀ s ∈ Q, SegP s
  tail : TailP T
end Go.Proofs.YtinfbclgkghgaaaGreat.AL

/- The layer 11 (ring), plain: a life of a log, and the crash at its end. -/
namespace Go.Proofs.YtinfbclgkghgaaaGreat.AL
open Go Go.Proofs Go.Proofs.YtinfbclgkghgaaaGreat.AL.Crc

def updO (A : Nat → Option Pc) (k : Nat) (p : Pc) : Nat → Option Pc := fun j => if j = k then some p else A j
def overO (A : Nat → Option Pc) (n0 : Nat) (W : List Pc) : Nat → Option Pc := fun k => if n0 ≤ k then (match W[k - n0]? with | some p => some p | none => A k) else A k
theorem over_snoc (A : Nat → Option Pc) (n0 : Nat) (W : List Pc) (p : Pc) : overO A n0 (W ++ [p]) = updO (overO A n0 W) (n0 + W.length) p := by
  funext k
  show (if n0 ≤ k then (match (W ++ [p])[k - n0]? with | some p => some p | none => A k) else A k) = if k = n0 + W.length then some p else if n0 ≤ k then (match W[k - n0]? with | some p => some p | none => A k) else A k
  by_cases h : n0 ≤ k
  · rw [if_pos h, if_pos h]
    by_cases e : k = n0 + W.length
    · rw [if_pos e, List.getElem?_append_right (by omega), show k - n0 - W.length = 0 by omega]; rfl
    · rw [if_neg e]
      by_cases h2 : k - n0 < W.length
      · rw [List.getElem?_append_left h2]
      · rw [List.getElem?_eq_none (show (W ++ [p]).length ≤ k - n0 by rw [List.length_append, List.length_singleton]; omega), List.getElem?_eq_none (show W.length ≤ k - n0 by omega)]
  · rw [if_neg h, if_neg (by omega), if_neg h]
theorem slots_up {R : Rg} (hg : R.g.may = true) {A B : Nat → Option Pc} {cs : List Cell} (h : SlotsP R.vol R.g A B cs) (hl : cs.length = R.g.secs) {p : Pc} {k : Nat} (hp : p.seq = (k : Int)) (hk : (k : Int) < R.g.w) :
    SlotsP R.vol R.g (updO A k p) B (putsC ((putsR R p).take 1) cs) ∧ SlotsP R.vol R.g (updO A k p) (updO B k p) (putsC (putsR R p) cs) := by
  obtain ⟨_, _, q⟩ := secs_le hg
  have hs : p.seq.tmod R.g.w = k := by rw [hp, Int.tmod_eq_emod_of_nonneg (by omega), Int.emod_eq_of_lt (by omega) (by omega)]
  have e1 : putsC ((putsR R p).take 1) cs = cs.set (addrB R.g 0 k).toNat (fine (p.sector R.vol R.g 0).1) := by
    show cs.set (addrB R.g 0 (p.seq.tmod R.g.w)).toNat _ = _
    rw [hs]
  have e2 : putsC (putsR R p) cs = (cs.set (addrB R.g 0 k).toNat (fine (p.sector R.vol R.g 0).1)).set (addrB R.g 1 k).toNat (fine (p.sector R.vol R.g 1).1) := by
    show (cs.set (addrB R.g 0 (p.seq.tmod R.g.w)).toNat _).set (addrB R.g 1 (p.seq.tmod R.g.w)).toNat _ = _
    rw [hs]
  rw [e1, e2]
  have a0 : ∀ j : Nat, (j : Int) < R.g.w → (cs.set (addrB R.g 0 k).toNat (fine (p.sector R.vol R.g 0).1))[(addrB R.g 0 j).toNat]? = some (fine (secO R.vol R.g 0 j (updO A k p j))) := fun j hj => by
    rw [List.getElem?_set, addr0, addr0]
    unfold updO
    by_cases e : j = k
    · rw [if_pos (by omega), if_pos (by omega), if_pos e]; rfl
    · rw [if_neg (by omega), if_neg e]
      have := h.a j hj
      rwa [addr0] at this
  have b0 : ∀ j : Nat, (j : Int) < R.g.w → (cs.set (addrB R.g 0 k).toNat (fine (p.sector R.vol R.g 0).1))[(addrB R.g 1 j).toNat]? = some (fine (secO R.vol R.g 1 j (B j))) := fun j hj => by
    rw [List.getElem?_set, if_neg (by rw [addr0, addr1]; omega)]
    exact h.b j hj
  refine ⟨⟨a0, b0⟩, ⟨fun j hj => ?_, fun j hj => ?_⟩⟩
  · rw [List.getElem?_set, if_neg (by rw [addr0, addr1]; omega)]
    exact a0 j hj
  · rw [List.getElem?_set]
    unfold updO
    by_cases e : j = k
    · rw [if_pos (by rw [e]), List.length_set, if_pos (by rw [addr1]; omega), if_pos e, e]; rfl
    · rw [if_neg (by rw [addr1, addr1]; omega), if_neg e]
      exact b0 j hj

theorem putR_live {R : Rg} (hR : R.Ok) {D : Dev} {b : Nat} (h : LiveP D R.g.secs b) {p : Pc} (hp : p.may = true) (keep : List Bool) :
    (∃ E, putR R D p = (0, (nxR R p, E)) ∧ LiveP E R.g.secs (b + 2) ∧ E.cells = putsC (putsR R p) D.cells) ∨
    ∃ E, putR R D p = (21, (R, E)) ∧ E.Ok (b + 2) ∧ ∃ j, j ≤ 2 ∧ CleanP (E.crashed keep) R.g.secs (b + 2) ∧ (E.crashed keep).cells = putsC ((putsR R p).take j) D.cells := by
  obtain ⟨s0, s1⟩ := slot_ok hR.g (p.of_may hp).1.1
  obtain ⟨_, _, q⟩ := secs_le hR.g
  have l0 := sector_len hp hR.g hR.vol (Int.le_refl 0) (by omega)
  have l1 := sector_len hp hR.g hR.vol (m := 1) (by omega) (by omega)
  have hq : ∀ q ∈ putsR R p, PutP R.g.secs q := by
    intro q hq
    unfold putsR at hq
    simp only [List.mem_cons, List.not_mem_nil, or_false] at hq
    rcases hq with rfl | rfl
    · exact ⟨by rw [addr0]; show (0 : Int) ≤ 4 + _; omega, by rw [addr0]; show 4 + _ < _; omega, l0⟩
    · exact ⟨by rw [addr1]; show (0 : Int) ≤ 4 + R.g.w + _; omega, by rw [addr1]; show 4 + R.g.w + _ < _; omega, l1⟩
  obtain ⟨c1, j, c2, c3, c4, _⟩ := crashP (putsR R p) hq h keep
  rcases liveP_each (putsR R p) 0 hq h with ⟨E, m', h1, h2, h3⟩ | ⟨E, m', _, _, _, _, h1, _⟩
  · have e : D.all9 (putsR R p) = (0, E) := by unfold Dev.all9; rw [h1]
    refine .inl ⟨E, ?_, h2, h3⟩
    unfold putR
    rw [e]; rfl
  · have e : D.all9 (putsR R p) = (21, E) := by unfold Dev.all9; rw [h1]
    rw [e] at c1 c3 c4
    refine .inr ⟨E, ?_, c1, j, c2, c3, c4⟩
    unfold putR
    rw [e]; rfl

/-- Pieces that go on behind others, in an epoch of their own. -/
def NewP (vol : Int) (g : GeoV) (e : Int) (P0 W : List Pc) : Prop := ∀ (i : Nat) (p : Pc), W[i]? = some p → p.may = true ∧ p.seq = ((P0.length + i : Nat) : Int) ∧ p.epoch = e ∧ p.frm = (P0.length : Int) ∧ p.chain = sumAt vol g 0 (P0 ++ W) (P0.length + i)
theorem NewP.snoc {vol : Int} {g : GeoV} {e : Int} {P0 W : List Pc} (h : NewP vol g e P0 W) {p : Pc} (h1 : p.may = true) (h2 : p.seq = ((P0.length + W.length : Nat) : Int)) (h3 : p.epoch = e) (h4 : p.frm = (P0.length : Int)) (h5 : p.chain = sumAt vol g 0 (P0 ++ W) (P0.length + W.length)) : NewP vol g e P0 (W ++ [p]) := by
  intro i q hq
  rw [← List.append_assoc]
  rw [List.getElem?_append] at hq
  by_cases c : i < W.length
  · rw [if_pos c] at hq
    rw [sumAt_app _ _ _ _ _ (by rw [List.length_append]; omega)]
    exact h i q hq
  · rw [if_neg c] at hq
    have hi : i = W.length := by
      have := (List.getElem?_eq_some_iff.1 hq).1
      rw [List.length_singleton] at this
      omega
    rw [hi, Nat.sub_self] at hq
    have hq : p = q := Option.some.inj hq
    rw [sumAt_app _ _ _ _ _ (by rw [List.length_append]; omega), hi, ← hq]
    exact ⟨h1, h2, h3, h4, h5⟩
/-- A life of a log, as far as it went. -/
structure LifeP (vol : Int) (g : GeoV) (e : Int) (R : Rg) (D : Dev) (b : Nat) (A B : Nat → Option Pc) (P0 W : List Pc) : Prop where
  ok : R.Ok
  rg : R.g = g
  rv : R.vol = vol
  re : R.epoch = e
  live : LiveP D g.secs (b + 2 * W.length)
  slots : SlotsP vol g (overO A P0.length W) (overO B P0.length W) D.cells
  new : NewP vol g e P0 W
  frm : R.frm = (P0.length : Int)
  start : R.start = 0
  next : R.next = ((P0.length + W.length : Nat) : Int)
  sum : R.chain = sumAt vol g 0 (P0 ++ W) (P0.length + W.length)
  len : ((P0.length + W.length : Nat) : Int) ≤ g.w
/-- What is there behind the crash. -/
structure EndP (vol : Int) (g : GeoV) (e : Int) (E : Dev) (keep : List Bool) (b : Nat) (A B : Nat → Option Pc) (P0 W1 W2 : List Pc) : Prop where
  ok : E.Ok b
  clean : CleanP (E.crashed keep) g.secs b
  slots : SlotsP vol g (overO A P0.length W1) (overO B P0.length W2) (E.crashed keep).cells
  new : NewP vol g e P0 W1
  half : W1 = W2 ∨ ∃ p, W1 = W2 ++ [p]
  len : ((P0.length + W1.length : Nat) : Int) ≤ g.w

theorem LifeP.snoc {vol : Int} {g : GeoV} {e : Int} {R : Rg} {D : Dev} {b : Nat} {A B : Nat → Option Pc} {P0 W : List Pc} (h : LifeP vol g e R D b A B P0 W) (keep : List Bool) {i n : Int} {x : Bytes} (hp : (pcR R i n x).may = true) (hw : ((P0.length + W.length : Nat) : Int) < g.w) :
    (∃ E, putR R D (pcR R i n x) = (0, (nxR R (pcR R i n x), E)) ∧ LifeP vol g e (nxR R (pcR R i n x)) E b A B P0 (W ++ [pcR R i n x])) ∨
    ∃ E W1 W2, putR R D (pcR R i n x) = (21, (R, E)) ∧ EndP vol g e E keep (b + 2 * W.length + 2) A B P0 W1 W2 ∧ (W1 = W ∨ W1 = W ++ [pcR R i n x]) := by
  have hW := sumP_word R.vol R.g (pcR R i n x)
  have hq : (pcR R i n x).seq = R.next ∧ (pcR R i n x).epoch = R.epoch ∧ (pcR R i n x).frm = R.frm ∧ (pcR R i n x).chain = R.chain := ⟨rfl, rfl, rfl, rfl⟩
  obtain ⟨o, rfl, rfl, rfl, live, slots, new, frm, start, next, sum, len⟩ := h
  have hput := putR_live o live hp keep
  generalize pcR R i n x = p at hp hput hW hq
  obtain ⟨q1, q2, q3, q4⟩ := hq
  obtain ⟨o1, o2, o3, o4, o5, o6, o7⟩ := o
  obtain ⟨g1, g2, _⟩ := R.g.of_may o1
  have hseq : p.seq = ((P0.length + W.length : Nat) : Int) := by rw [q1, next]
  obtain ⟨u1, u2⟩ := slots_up o1 slots live.len hseq hw
  rw [← over_snoc] at u1 u2
  rw [← over_snoc] at u2
  have nw := new.snoc hp hseq q2 (q3.trans frm) (q4.trans sum)
  have lw : ((P0.length + (W ++ [p]).length : Nat) : Int) ≤ R.g.w := by rw [List.length_append, List.length_singleton]; omega
  rcases hput with ⟨E, e1, e2, e3⟩ | ⟨E, e1, e2, j, j2, e3, e4⟩
  · refine .inl ⟨E, e1, ⟨⟨o1, o2, o3, ⟨o4.1, ?_⟩, ⟨o5.1, ?_⟩, ?_, hW⟩, rfl, rfl, rfl, ?_, ?_, nw, frm, start, ?_, ?_, lw⟩⟩
    · show R.frm ≤ R.next + 1; omega
    · show R.start ≤ R.next + 1; omega
    · show R.next + 1 ≤ _; omega
    · rw [List.length_append, List.length_singleton, show b + 2 * (W.length + 1) = b + 2 * W.length + 2 by omega]; exact e2
    · rw [e3]; exact u2
    · show R.next + 1 = _
      rw [List.length_append, List.length_singleton, next]; omega
    · show sumP R.vol R.g p = _
      rw [← List.append_assoc, ← sumAt_snoc R.vol R.g 0 (P0 ++ W) p]
      congr 1
      rw [List.length_append, List.length_append, List.length_append]; omega
  · right
    have hj : j = 0 ∨ j = 1 ∨ j = 2 := by omega
    rcases hj with rfl | rfl | rfl
    · exact ⟨E, W, W, e1, ⟨e2, e3, by rw [e4]; exact slots, new, .inl rfl, by omega⟩, .inl rfl⟩
    · exact ⟨E, W ++ [p], W, e1, ⟨e2, e3, by rw [e4]; exact u1, nw, .inr ⟨p, rfl⟩, lw⟩, .inr rfl⟩
    · exact ⟨E, W ++ [p], W ++ [p], e1, ⟨e2, e3, by rw [e4]; exact u2, nw, .inl rfl, lw⟩, .inr rfl⟩
theorem EndP.mono {vol : Int} {g : GeoV} {e : Int} {E : Dev} {keep : List Bool} {b c : Nat} {A B : Nat → Option Pc} {P0 W1 W2 : List Pc} (h : EndP vol g e E keep b A B P0 W1 W2) (hc : b ≤ c) : EndP vol g e E keep c A B P0 W1 W2 :=
  ⟨h.ok.mono hc, h.clean.mono hc, h.slots, h.new, h.half, h.len⟩

end Go.Proofs.YtinfbclgkghgaaaGreat.AL

/- The layer 11 (ring), plain: crash by crash. -/
namespace Go.Proofs.YtinfbclgkghgaaaGreat.AL
open Go Go.Proofs Go.Proofs.YtinfbclgkghgaaaGreat.AL.Crc

theorem StateP.still {vol : Int} {g : GeoV} {e e' : Int} {A B : Nat → Option Pc} {Q : List (List Pc)} {T : List Pc} {cs0 cs : List Cell} (h : StateP vol g e A B Q T cs0) (he : e ≤ e') (hs : SlotsP vol g A B cs) : StateP vol g e' A B Q T cs :=
  ⟨hs, fun k p hk => by obtain ⟨a, b, c⟩ := h.ma k p hk; exact ⟨a, b, by omega⟩, fun k p hk => by obtain ⟨a, b, c⟩ := h.mb k p hk; exact ⟨a, b, by omega⟩, h.chain, h.tells, h.len, h.segs, h.tail⟩

end Go.Proofs.YtinfbclgkghgaaaGreat.AL

/- The equality of two of [4]byte. -/
namespace Go.Proofs.YtinfbclgkghgaaaGreat.AL
open Go Go.Proofs Go.RowKit

abbrev m4 (a b c d : UInt8) : List Value := [.int .u8 a.toNat, .int .u8 b.toNat, .int .u8 c.toNat, .int .u8 d.toNat]
set_option maxRecDepth 100000
end Go.Proofs.YtinfbclgkghgaaaGreat.AL

/- The law RingLeft: what was appended is told, as long as of each slot one of both sectors is left. -/
namespace Go.Proofs.YtinfbclgkghgaaaGreat.AL
open Go Go.Proofs

theorem blankOk_may {vol : Int} {g : GeoV} (h : blankOk vol g = true) : g.may = true ∧ g.w ≤ 16 := by
  unfold blankOk at h
  rw [Bool.and_eq_true, Bool.and_eq_true, Bool.not_eq_true', decide_eq_false_iff_not] at h
  exact ⟨h.1, by omega⟩
theorem ix_at {l : List Int} {i : Nat} {c : Int} (h : l[i]? = some c) : (ix l)[i]? = some [.raw (.int .i64 c)] := by rw [ix, List.getElem?_map, h]; rfl
end Go.Proofs.YtinfbclgkghgaaaGreat.AL

/- What a fault and lists of numbers, of booleans and of lists of bytes read as (seat rd). -/
namespace Go.Proofs.YtinfbclgkghgaaaGreat.AL
open Go Go.RowKit Go.ChangeShapes Go.WideShapes Go.ChangeAt Go.Deep Go.Proofs
section
variable {H : Type} {enc : TypeId × Value → H} {W : World} {spare : Nat → Bool} {held : Bool}
instance : Inhabited Flt := ⟨⟨0, 0, 0, 0, 0, 0, 0, 0, 0⟩⟩
def Flt.vals (f : Flt) : List Value := [.int .i64 f.kind, .int .i64 f.at_, .int .i64 f.off, .int .i64 f.n, .int .i64 f.to, .int .u8 (f.m0.toNat : Int), .int .u8 (f.m1.toNat : Int), .int .u8 (f.m2.toNat : Int), .int .u8 (f.m3.toNat : Int)]

theorem c4 : Tryz.prog.cellsOf 4 = 1 := by kernel_rfl
end
end Go.Proofs.YtinfbclgkghgaaaGreat.AL

/- The law RingLimits: what is too long, or has no room, is told so; behind a cut there is room. -/
namespace Go.Proofs.YtinfbclgkghgaaaGreat.AL
open Go Go.Proofs

set_option maxRecDepth 20000 in
theorem ref11_Pieces (tx : Bytes) (h : tx.length ≤ 1000000) : AF Tryz.prog f_ref11_Pieces [bA tx] [] (Pure (i64 ((splitB tx).length : Nat)) []) := by
  refine AF.mono (R := fun r H' => ∃ z, z = (((splitB tx).length : Nat) : Int) ∧ r = i64 z ∧ H' = []) ?_ (by rintro r H' ⟨b, rfl, rfl, rfl⟩; exact ⟨rfl, rfl⟩)
  have hb := bx_len tx
  have hn := splitB_num tx
  refine af_body hT F_ref11_Pieces rfl rfl N_ref11_Pieces rfl ?_
  refine aw_seq (aw_region hT ?_)
  refine aw_seq (aw_seq (aw_region hT ?_))
  refine aw_cond (boolI (fun h => ?_) (fun h => ?_))
  · have h : ((((bx tx).length : Nat) : Int) == 0) = true := h
    rw [beq_iff_eq] at h
    rw [if_pos (by omega)] at hn
    refine aw_seq (aw_region hT ?_)
    refine aw_ret ?_
    exact retPick [] ⟨1, by rw [hn]; rfl, rfl, rfl⟩ rfl
  · have h : ((((bx tx).length : Nat) : Int) == 0) = false := h
    have h := beq_eq_false_iff_ne.mp h
    rw [if_neg (by omega)] at hn
    refine aw_skip ?_
    refine aw_seq (aw_region hT ?_)
    refine neI (y := (200 : Int)) (by decide) ?_
    refine aw_ret ?_
    refine retPick [] ⟨_, ?_, rfl, rfl⟩ rfl
    show IntKind.i64.wrap ((IntKind.i64.wrap ((((bx tx).length : Nat) : Int) + 199)).tdiv 200) = _
    rw [wrap64 ((((bx tx).length : Nat) : Int) + 199) (by omega) (by omega), hn, hb, Int.tdiv_eq_ediv_of_nonneg (by omega), wrap64 _ (by omega) (by omega)]
    omega

abbrev zA (n : Int) : AV := .p (.sl 1 (List.replicate n.toNat [.raw (.int .u8 0)]))
set_option maxHeartbeats 8000000 in
set_option maxRecDepth 20000 in
theorem ring_limits (g : GeoV) (n : Int) : AF Tryz.prog f_law11_RingLimits [g.av, i64 n] [] (Pure (bl true) []) := by
  refine AF.mono (R := fun r H' => ∃ z, z = true ∧ r = bl z ∧ H' = []) ?_ (by rintro r H' ⟨b, rfl, rfl, rfl⟩; exact ⟨rfl, rfl⟩)
  refine af_body hT F_law11_RingLimits rfl rfl N_law11_RingLimits rfl ?_
  refine aw_cut ⟨⟨138, [(1, i64 n), (2, .p (.box g.pv))]⟩, []⟩ True (aw_region hT ?_) (fun _ => ?_)
  · exact ⟨Wk.trans (wk_boxL 0 g.pv rfl rfl) (wk_pick [] [1, 2] rfl), trivial⟩
  refine aw_seq (aw_region hT ?_)
  refine callP (af_at law11_awake _ rfl rfl) ?_
  cases hb : blankOk 7 g with
  | false =>
    refine aw_seq (aw_region hT ?_)
    refine callP (af_at (law11_Blank_no 7 g hb) _ rfl rfl) ?_
    refine aw_seq (aw_seq (aw_region hT ?_))
    refine aw_cond ?_
    refine aw_seq (aw_region hT ?_)
    refine aw_ret ?_
    exact retPick [] ⟨true, rfl, rfl, rfl⟩ rfl
  | true =>
  refine aw_seq (aw_region hT ?_)
  refine callP (law11_Blank 7 g hb) ?_
  generalize hD0 : blankD 7 g = D0
  refine aw_cut ⟨⟨138, [(1, i64 n), (2, .p (.box g.pv)), (6, .ref 0 0)]⟩, devH D0⟩ (0 ≤ n ∧ n ≤ 14000) (aw_seq (aw_region hT ?_)) ?_
  · refine boolI (fun h => ?_) (fun h => ?_)
    · refine aw_cond ?_
      refine aw_seq (aw_region hT ?_)
      refine aw_ret ?_
      exact retPick [] ⟨true, rfl, rfl, rfl⟩ rfl
    have h1 := of_decide_eq_false (show decide (n < 0) = false from h)
    refine aw_cond (boolI (fun h => ?_) (fun h => ?_))
    · refine aw_seq (aw_region hT ?_)
      refine aw_ret ?_
      exact retPick [] ⟨true, rfl, rfl, rfl⟩ rfl
    have h2 := of_decide_eq_false (show decide (n > 14000) = false from h)
    exact aw_skip ⟨wk_pick [0, 1, 2] [1, 2, 6] rfl, by omega, by omega⟩
  rintro ⟨n0, n1⟩
  obtain ⟨hg, hw16⟩ := blankOk_may hb
  obtain ⟨g1, g2, _⟩ := g.of_may hg
  obtain ⟨_, hq2, _⟩ := secs_le hg
  have hok : newOk 7 g 1 0 0 0 = true := by
    unfold newOk
    simp only [List.all_cons, List.all_nil, Bool.and_true]
    rw [hg, decide_eq_false (show ¬ (0 : Int) - 0 > g.w by omega)]
    rfl
  have L0 := logP_new hok
  rw [hD0] at L0
  have wN := ring_New D0 7 g 1 0 0 0 hok
  have ok0 := L0.ok
  have c0 := L0.clean
  clear L0
  obtain ⟨R0, hR0⟩ : ∃ R, R = newR 7 g 1 0 0 0 := ⟨_, rfl⟩
  have e1 : R0.g = g := by rw [hR0]; rfl
  have e2 : R0.start = 0 := by rw [hR0]; rfl
  have e3 : R0.next = 0 := by rw [hR0]; rfl
  have e4 : R0.chain = 0 := by rw [hR0]; rfl
  rw [← hR0] at wN ok0 c0
  rw [e1] at c0
  clear hR0
  obtain ⟨tx, htx⟩ : ∃ tx : Bytes, tx = List.replicate n.toNat 0 := ⟨_, rfl⟩
  have hlen : tx.length ≤ 14000 := by rw [htx, List.length_replicate]; omega
  have hrow' : (.p (.sl 1 (bx tx)) : AV) = zA n := by
    show (.p (.sl 1 (bx tx)) : AV) = .p (.sl 1 (List.replicate n.toNat [.raw (.int .u8 0)]))
    rw [htx]; unfold bx; rw [List.map_replicate]; rfl
  have hz : bA tx = zA n := hrow'
  have wP := ref11_Pieces tx (by omega)
  rw [hz] at wP
  have hN1 := splitB_pos tx
  obtain ⟨N, hN⟩ : ∃ N, N = (splitB tx).length := ⟨_, rfl⟩
  have hNb : N ≤ 71 := by rw [hN, splitB_num]; split <;> omega
  rw [← hN] at wP hN1
  have app : ∀ (R : Rg) (D : Dev) (b : Nat), R.Ok → R.g = g → CleanP D g.secs b → b < 900000 → AFm Tryz.prog 3 f_ring_Ring_Append [.ref 2 0, zA n] (rgH R D) (Pure (i64 (R.append D tx).1) (rgH (R.append D tx).2.1 (R.append D tx).2.2)) := fun R D b hR _ hD hb => by
    have := Ring_Append R D tx b hR hD.ok (by omega) (by omega)
    rw [hz] at this
    exact this
  have wA := app R0 D0 _ ok0 e1 c0 (by omega)
  have cl := append_clean ok0 (by rw [e1]; exact c0) tx hN
  refine aw_cut ⟨⟨138, [(1, i64 n), (2, .p (.box g.pv)), (7, .ref 2 0), (8, i64 0)]⟩, rgH R0 D0⟩ True (aw_region hT ?_) (fun _ => ?_)
  · refine callP (af_in [0, 1, 2] wN rfl rfl rfl) ?_
    exact ⟨wk_pick [0, 3, 4, 5, 6] [1, 2, 7, 8] rfl, trivial⟩
  refine aw_cut ⟨⟨138, [(2, .p (.box g.pv)), (7, .ref 2 0), (8, i64 0), (9, zA n)]⟩, rgH R0 D0⟩ True (aw_regionF (fun k => Nat.beq 1 k) hT ?_) (fun _ => ?_)
  · refine ⟨⟨rfl, n0, by show n * 1 ≤ _; omega, by omega⟩, ?_⟩
    refine ⟨⟨rfl, by rw [List.length_replicate]⟩, ?_⟩
    exact ⟨wk_pick [0, 1, 2, 3, 4] [2, 7, 8, 9] rfl, trivial⟩
  refine aw_cut ⟨⟨138, [(2, .p (.box g.pv)), (7, .ref 2 0), (8, i64 0), (9, zA n), (10, i64 N)]⟩, rgH R0 D0⟩ True (aw_region hT ?_) (fun _ => ?_)
  · refine callP (af_at wP _ rfl rfl) ?_
    exact ⟨wk_pick [0, 1, 2, 3, 4] [2, 7, 8, 9, 10] rfl, trivial⟩
  obtain ⟨cl1, cl2, cl3⟩ := cl
  have wn0 := Ring_Next5 R0 D0
  have wc0 := Ring_Chain5 R0 D0
  rw [e3] at wn0
  rw [e4] at wc0
  by_cases h64 : N > 64
  · rw [cl1 h64] at wA
    refine aw_seq (aw_region hT ?_)
    refine callP (af_in [0, 1, 2, 3, 4] wA rfl rfl rfl) ?_
    refine aw_wk (wk_pick [0, 1, 2, 5, 6] [2, 7, 8, 9, 10, 11] rfl) ?_
    refine aw_seq (aw_seq (aw_region hT ?_))
    refine aw_cond (boolI (fun h => ?_) (fun h => ?_))
    · refine aw_seq (aw_region hT ?_)
      refine callP (af_in [0, 1, 2, 3, 4] wn0 rfl rfl rfl) ?_
      refine aw_ret ?_
      exact retPick [] ⟨true, rfl, rfl, rfl⟩ rfl
    · have h := of_decide_eq_false (show decide ((N : Int) > 64) = false from h)
      omega
  refine aw_cut2 (fun st => ∃ f R1 D1, (f, (R1, D1)) = R0.append D0 tx ∧ st = ⟨⟨138, [(2, .p (.box g.pv)), (7, .ref 2 0), (8, i64 0), (9, zA n), (10, i64 N), (11, i64 f)]⟩, rgH R1 D1⟩) (aw_region hT ?_) ?_
  · refine callP (af_in [0, 1, 2, 3, 4] wA rfl rfl rfl) ?_
    exact ⟨_, wk_pick [0, 1, 2, 5, 6] [2, 7, 8, 9, 10, 11] rfl, _, _, _, rfl, rfl⟩
  clear wA
  rintro _ ⟨f, R1, D1, hf, rfl⟩
  refine aw_seq (aw_seq (aw_region hT ?_))
  refine aw_cond (boolI (fun h => ?_) (fun h => ?_))
  · have h := of_decide_eq_true (show decide ((N : Int) > 64) = true from h)
    omega
  refine aw_skip ?_
  refine aw_cut ⟨⟨138, [(2, .p (.box g.pv)), (7, .ref 2 0), (8, i64 0), (9, zA n), (10, i64 N), (11, i64 f)]⟩, rgH R1 D1⟩ ((N : Int) ≤ g.w) (aw_seq (aw_region hT ?_)) (fun hNw => ?_)
  · refine aw_cond (boolI (fun h => ?_) (fun h => ?_))
    · have h := of_decide_eq_true (show decide ((N : Int) > g.w) = true from h)
      have hc := cl2 (by omega) (.inl (by rw [e1, e2, e3]; omega))
      rw [hc] at hf
      obtain rfl : f = 4 := congrArg (·.1) hf
      obtain rfl : R1 = R0 := congrArg (·.2.1) hf
      obtain rfl : D1 = D0 := congrArg (·.2.2) hf
      refine aw_seq (aw_region hT ?_)
      refine callP (af_in [0, 1, 2, 3, 4] wn0 rfl rfl rfl) ?_
      refine callP (af_in [0, 1, 2, 3, 4] wc0 rfl rfl rfl) ?_
      refine aw_ret ?_
      exact retPick [] ⟨true, rfl, rfl, rfl⟩ rfl
    · have h := of_decide_eq_false (show decide ((N : Int) > g.w) = false from h)
      exact aw_skip ⟨wk_pick [0, 1, 2, 3, 4] [2, 7, 8, 9, 10, 11] rfl, by omega⟩
  obtain ⟨R', E', hc, okR, cE, i1, i2, i3⟩ := cl3 (by omega) (by rw [e1, e2, e3]; omega) (by rw [e3]; omega)
  rw [hc] at hf
  obtain rfl : f = 0 := congrArg (·.1) hf
  obtain rfl : R1 = R' := congrArg (·.2.1) hf
  obtain rfl : D1 = E' := congrArg (·.2.2) hf
  rw [e1] at i1 cE
  rw [e2] at i2
  rw [e3] at i3
  clear hc hf cl1 cl2 cl3
  have fin : ∀ (R : Rg) (D : Dev) (b : Nat), R.Ok → R.g = g → CleanP D g.secs b → R.next ≤ g.w →
      (R.next + N - R.start ≤ g.w → ∃ (R2 : Rg) (D2 : Dev), R.append D tx = (0, (R2, D2)) ∧ R2.Ok ∧ R2.g = g ∧ CleanP D2 g.secs (b + 2 * N) ∧ R2.start = R.start ∧ R2.next = R.next + N) ∧ (R.next + N - R.start > g.w → R.append D tx = (4, (R, D))) := by
    intro R D b hR hRg hD hnx
    obtain ⟨_, a2, a3⟩ := append_clean hR (by rw [hRg]; exact hD) tx hN
    rw [hRg] at a2 a3
    refine ⟨fun h => ?_, fun h => a2 (by omega) (.inl h)⟩
    obtain ⟨R2, D2, b1, b2, b3, b4, b5, b6⟩ := a3 (by omega) h (by omega)
    exact ⟨R2, D2, b1, b2, b4, b3, b5, b6⟩
  refine aw_cut ⟨⟨138, [(2, .p (.box g.pv)), (7, .ref 2 0), (8, i64 0), (9, zA n), (10, i64 N), (11, i64 0), (12, i64 R1.next)]⟩, rgH R1 D1⟩ True (aw_region hT ?_) (fun _ => ?_)
  · refine callP (af_in [0, 1, 2, 3, 4] (Ring_Next5 R1 D1) rfl rfl rfl) ?_
    exact ⟨wk_pick [0, 1, 2, 3, 4] [2, 7, 8, 9, 10, 11, 12] rfl, trivial⟩
  refine aw_cut ⟨⟨138, [(2, .p (.box g.pv)), (7, .ref 2 0), (8, i64 0), (9, zA n), (10, i64 N), (11, i64 0), (12, i64 R1.next), (13, i64 0)]⟩, rgH R1 D1⟩ True (aw_region hT ?_) (fun _ => ?_)
  · exact ⟨wk_pick [0, 1, 2, 3, 4] [2, 7, 8, 9, 10, 11, 12, 13] rfl, trivial⟩
  refine aw_cut2 (fun st => ∃ (R2 : Rg) (D2 : Dev), R2.Ok ∧ R2.g = g ∧ CleanP D2 g.secs 10000 ∧ R2.next ≤ g.w ∧ R2.next + N > g.w ∧ st = ⟨⟨138, [(2, .p (.box g.pv)), (7, .ref 2 0), (8, i64 0), (9, zA n), (10, i64 N), (11, i64 0), (12, i64 R2.next), (13, i64 4)]⟩, rgH R2 D2⟩) (aw_seq (aw_region hT ?_)) ?_
  · refine aw_block ?_
    refine aw_loopW (fun m st => ∃ (k : Nat) (j nx h : Int) (R2 : Rg) (D2 : Dev), m + k = 20 ∧ j = k ∧ R2.Ok ∧ R2.g = g ∧ R2.start = 0 ∧ CleanP D2 g.secs (g.secs + 2 * N + 2 * N * k) ∧ R2.next ≤ g.w ∧ ((h = 0 ∧ (k : Int) + 1 ≤ R2.next) ∨ (h = 4 ∧ nx = R2.next ∧ R2.next + N > g.w)) ∧ st = ⟨⟨138, [(2, .p (.box g.pv)), (7, .ref 2 0), (8, i64 0), (9, zA n), (10, i64 N), (11, i64 0), (12, i64 nx), (13, i64 h), (14, i64 j)]⟩, rgH R2 D2⟩) 20 ⟨⟨138, _⟩, _⟩ (wk_pick [0, 1, 2, 3, 4] [2, 7, 8, 9, 10, 11, 12, 13, 14] rfl) ⟨0, 0, R1.next, 0, R1, D1, rfl, rfl, okR, i1, i2, by rw [Nat.mul_zero, Nat.add_zero]; exact cE, by omega, .inl ⟨rfl, by omega⟩, rfl⟩ ?_
    rintro m st ⟨k, j, nx, h, R2, D2, hmk, hj, okR2, j1, j2, cE2, j3, hh, rfl⟩
    have hbd : 2 * N * k ≤ 142 * 20 := Nat.mul_le_mul (by omega) (by omega)
    refine aw_seq (aw_seq (aw_region hT ?_))
    refine boolI (fun h1 => ?_) (fun h1 => ?_)
    · have h1 := of_decide_eq_true (show decide (j < 20) = true from h1)
      refine aw_cond (boolI (fun h2 => ?_) (fun h2 => ?_))
      · have h2 : (h == 0) = true := h2
        rw [beq_iff_eq] at h2
        obtain ⟨_, hk1⟩ : h = 0 ∧ (k : Int) + 1 ≤ R2.next := by
          rcases hh with hh | hh
          · exact hh
          · omega
        refine aw_skip ?_
        obtain ⟨f1, f2⟩ := fin R2 D2 _ okR2 j1 cE2 j3
        have w := app R2 D2 _ okR2 j1 cE2 (by omega)
        have wn := Ring_Next5 R2 D2
        refine aw_cut2 (fun st => ∃ (nx h : Int) (R3 : Rg) (D3 : Dev), R3.Ok ∧ R3.g = g ∧ R3.start = 0 ∧ CleanP D3 g.secs (g.secs + 2 * N + 2 * N * (k + 1)) ∧ R3.next ≤ g.w ∧ ((h = 0 ∧ (k : Int) + 2 ≤ R3.next) ∨ (h = 4 ∧ nx = R3.next ∧ R3.next + N > g.w)) ∧ st = ⟨⟨138, [(2, .p (.box g.pv)), (7, .ref 2 0), (8, i64 0), (9, zA n), (10, i64 N), (11, i64 0), (12, i64 nx), (13, i64 h), (14, i64 j)]⟩, rgH R3 D3⟩) (aw_block ?_) ?_
        · refine aw_cut ⟨⟨138, [(2, .p (.box g.pv)), (7, .ref 2 0), (8, i64 0), (9, zA n), (10, i64 N), (11, i64 0), (12, i64 R2.next), (14, i64 j)]⟩, rgH R2 D2⟩ True (aw_region hT ?_) (fun _ => ?_)
          · refine callP (af_in [0, 1, 2, 3, 4] wn rfl rfl rfl) ?_
            exact ⟨wk_pick [0, 1, 2, 3, 4] [2, 7, 8, 9, 10, 11, 12, 14] rfl, trivial⟩
          have hmul : 2 * N * (k + 1) = 2 * N * k + 2 * N := by rw [Nat.mul_add, Nat.mul_one]
          by_cases hfit : R2.next + N - R2.start ≤ g.w
          · obtain ⟨R3, D3, a1, a2, a3, a4, a5, a6⟩ := f1 hfit
            rw [a1] at w
            refine aw_region hT ?_
            refine callP (af_in [0, 1, 2, 3, 4] w rfl rfl rfl) ?_
            exact ⟨_, wk_pick [0, 1, 2, 5, 6] [2, 7, 8, 9, 10, 11, 12, 13, 14] rfl, R2.next, 0, R3, D3, a2, a3, a5.trans j2, a4.mono (by omega), by omega, .inl ⟨rfl, by omega⟩, rfl⟩
          · rw [f2 (by omega)] at w
            refine aw_region hT ?_
            refine callP (af_in [0, 1, 2, 3, 4] w rfl rfl rfl) ?_
            exact ⟨_, wk_pick [0, 1, 2, 5, 6] [2, 7, 8, 9, 10, 11, 12, 13, 14] rfl, R2.next, 4, R2, D2, okR2, j1, j2, cE2.mono (by omega), j3, .inr ⟨rfl, rfl, by omega⟩, rfl⟩
        · rintro _ ⟨nx2, h3, R3, D3, a1, a2, a3, a4, a5, a6, rfl⟩
          refine aw_region hT ?_
          exact ⟨m - 1, by omega, _, wk_pick [0, 1, 2, 3, 4] [2, 7, 8, 9, 10, 11, 12, 13, 14] rfl, k + 1, IntKind.i64.wrap (j + 1), nx2, h3, R3, D3, by omega, by rw [wrap64 _ (by omega) (by omega)]; omega, a1, a2, a3, a4, a5, by rcases a6 with a6 | a6; exact .inl ⟨a6.1, by omega⟩; exact .inr a6, rfl⟩
      · have h2 : (h == 0) = false := h2
        have h2 := beq_eq_false_iff_ne.mp h2
        obtain ⟨h4, hnx, hfull⟩ : h = 4 ∧ nx = R2.next ∧ R2.next + N > g.w := by
          rcases hh with hh | hh
          · omega
          · exact hh
        refine aw_exit ?_
        exact ⟨_, wk_pick [0, 1, 2, 3, 4] [2, 7, 8, 9, 10, 11, 12, 13] rfl, R2, D2, okR2, j1, cE2.mono (by omega), j3, hfull, by rw [h4, hnx]; rfl⟩
    · have h1 := of_decide_eq_false (show decide (j < 20) = false from h1)
      obtain ⟨h4, hnx, hfull⟩ : h = 4 ∧ nx = R2.next ∧ R2.next + N > g.w := by
        rcases hh with hh | hh
        · omega
        · exact hh
      refine aw_cond ?_
      refine aw_exit ?_
      exact ⟨_, wk_pick [0, 1, 2, 3, 4] [2, 7, 8, 9, 10, 11, 12, 13] rfl, R2, D2, okR2, j1, cE2.mono (by omega), j3, hfull, by rw [h4, hnx]; rfl⟩
  rintro _ ⟨R2, D2, okR2, j1, cE2, j3, hfull, rfl⟩
  have hn0 : 0 ≤ R2.next := by have := okR2.s; omega
  have hwr : IntKind.i64.wrap (R2.next + N) = R2.next + N := wrap64 _ (by omega) (by omega)
  have wn := Ring_Next5 R2 D2
  refine aw_cut2 (fun st => ∃ c, c = true ∧ st = ⟨⟨138, [(7, .ref 2 0), (8, i64 0), (9, zA n), (10, i64 N), (11, i64 0), (12, i64 R2.next), (15, bl c)]⟩, rgH R2 D2⟩) (aw_region hT ?_) ?_
  · refine callP (af_in [0, 1, 2, 3, 4] wn rfl rfl rfl) ?_
    refine boolI (fun h => ?_) (fun h => ?_)
    · refine ⟨_, wk_pick [0, 1, 2, 3, 4] [7, 8, 9, 10, 11, 12, 15] rfl, decide (IntKind.i64.wrap (R2.next + N) > g.w), ?_, rfl⟩
      rw [hwr]; exact decide_eq_true hfull
    · have h : (R2.next == R2.next) = false := h
      simp at h
  rintro _ ⟨c, rfl, rfl⟩
  have wcut := Ring_Cut R2 D2
  obtain ⟨R3, hR3⟩ : ∃ R3 : Rg, R3 = { R2 with start := R2.next } := ⟨_, rfl⟩
  have k1 : R3.g = g := by rw [hR3]; exact j1
  have k2 : R3.next = R2.next := by rw [hR3]
  have k3 : R3.start = R2.next := by rw [hR3]
  have ok3 : R3.Ok := by
    rw [hR3]
    obtain ⟨o1, o2, o3, o4, o5, o6, o7⟩ := okR2
    exact ⟨o1, o2, o3, o4, ⟨hn0, Int.le_refl _⟩, o6, o7⟩
  rw [← hR3] at wcut
  obtain ⟨f1, _⟩ := fin R3 D2 _ ok3 k1 cE2 (by omega)
  obtain ⟨R4, D4, a1, a2, a3, a4, a5, a6⟩ := f1 (by omega)
  have w := app R3 D2 _ ok3 k1 cE2 (by omega)
  rw [a1] at w
  have wn4 := Ring_Next5 R4 D4
  rw [a6, k2, ← hwr] at wn4
  refine aw_cut ⟨⟨138, [(7, .ref 2 0), (8, i64 0), (9, zA n), (10, i64 N), (11, i64 0), (12, i64 R2.next), (15, bl true)]⟩, rgH R3 D2⟩ True (aw_region hT ?_) (fun _ => ?_)
  · refine callP (af_in [0, 1, 2, 3, 4] wcut rfl rfl rfl) ?_
    exact ⟨wk_pick [0, 1, 2, 5, 6] [7, 8, 9, 10, 11, 12, 15] rfl, trivial⟩
  refine aw_cut ⟨⟨138, [(7, .ref 2 0), (8, i64 0), (10, i64 N), (11, i64 0), (12, i64 R2.next), (15, bl true), (16, i64 0)]⟩, rgH R4 D4⟩ True (aw_region hT ?_) (fun _ => ?_)
  · refine callP (af_in [0, 1, 2, 3, 4] w rfl rfl rfl) ?_
    exact ⟨wk_pick [0, 1, 2, 5, 6] [7, 8, 10, 11, 12, 15, 16] rfl, trivial⟩
  refine aw_seq (aw_region hT ?_)
  refine callP (af_in [0, 1, 2, 3, 4] wn4 rfl rfl rfl) ?_
  refine aw_ret ?_
  refine retPick [] ⟨_, ?_, rfl, rfl⟩ rfl
  show (IntKind.i64.wrap (R2.next + N) == IntKind.i64.wrap (R2.next + N)) = true
  simp
end Go.Proofs.YtinfbclgkghgaaaGreat.AL

/- The law RingNew: a log is made, or not; a nil one has nothing. -/
namespace Go.Proofs.YtinfbclgkghgaaaGreat.AL
open Go Go.Proofs

set_option maxRecDepth 20000 in
theorem ring_New_nil (vol : Int) (g : GeoV) (epoch start next chain : Int) :
    AF Tryz.prog f_ring_New [nilPt, i64 vol, g.av, i64 epoch, i64 start, i64 next, i64 chain] [] (Pure (.tup [nilPt, i64 1]) []) := by
  refine af_body hT F_ring_New rfl rfl N_ring_New rfl ?_
  refine aw_seq (aw_region hT ?_)
  refine aw_seq (aw_seq (aw_region hT ?_))
  refine aw_cond ?_
  refine aw_seq (aw_region hT ?_)
  refine aw_ret ?_
  exact retPick [] ⟨rfl, rfl⟩ rfl
set_option maxRecDepth 20000 in
theorem ring_New_no (D : Dev) (vol : Int) (g : GeoV) (epoch start next chain : Int) (h : newOk vol g epoch start next chain = false) :
    AFm Tryz.prog 1 f_ring_New [.ref 0 0, i64 vol, g.av, i64 epoch, i64 start, i64 next, i64 chain] (devH D) (Pure (.tup [nilPt, i64 1]) (devH D)) := by
  have wm := geo_May g
  have ww := ring_word [vol, epoch, start, next, chain] (by simp)
  unfold newOk at h
  refine af_bodyM 1 hT F_ring_New rfl rfl N_ring_New rfl rfl ?_
  refine aw_seq (aw_region hT ?_)
  refine aw_wk (wk_boxL 4 g.pv rfl rfl) ?_
  refine aw_seq (aw_seq (aw_regionF (fun k => Nat.beq 13 k) hT ?_))
  cases hg : g.may with
  | false =>
    rw [hg] at wm
    refine callP (af_at wm _ rfl rfl) ?_
    refine aw_cond ?_
    refine aw_seq (aw_region hT ?_)
    refine aw_ret ?_
    exact retPick [0, 1, 2] ⟨rfl, rfl⟩ rfl
  | true =>
  rw [hg] at wm h
  refine callP (af_at wm _ rfl rfl) ?_
  refine ⟨⟨rfl, rfl⟩, ?_⟩
  cases hw : [vol, epoch, start, next, chain].all wordB with
  | false =>
    rw [hw] at ww
    refine callP (af_at ww _ rfl rfl) ?_
    refine aw_cond ?_
    refine aw_seq (aw_region hT ?_)
    refine aw_ret ?_
    exact retPick [0, 1, 2] ⟨rfl, rfl⟩ rfl
  | true =>
  rw [hw] at ww h
  refine callP (af_at ww _ rfl rfl) ?_
  have hwr : IntKind.i64.wrap (next - start) = next - start := by
    unfold wordB at hw
    simp only [List.all_cons, List.all_nil, Bool.and_true, Bool.and_eq_true, decide_eq_true_eq] at hw
    exact wrap64 _ (by omega) (by omega)
  refine boolI (fun h1 => ?_) (fun h1 => ?_)
  · refine aw_cond ?_
    refine aw_seq (aw_region hT ?_)
    refine aw_ret ?_
    exact retPick [0, 1, 2] ⟨rfl, rfl⟩ rfl
  have h1 : decide (next < start) = false := h1
  refine aw_cond (boolI (fun h2 => ?_) (fun h2 => ?_))
  · refine aw_seq (aw_region hT ?_)
    refine aw_ret ?_
    exact retPick [0, 1, 2] ⟨rfl, rfl⟩ rfl
  · have h2 : decide (IntKind.i64.wrap (next - start) > g.w) = false := h2
    rw [hwr] at h2
    rw [h1, h2] at h
    exact absurd h (by decide)
set_option maxRecDepth 20000 in
theorem Ring_Next_nil : AF Tryz.prog f_ring_Ring_Next [nilPt] [] (Pure (i64 0) []) := by
  refine af_body hT F_ring_Ring_Next rfl rfl N_ring_Ring_Next rfl ?_
  refine aw_seq (aw_region hT ?_)
  refine aw_seq (aw_seq (aw_region hT ?_))
  refine aw_cond ?_
  refine aw_seq (aw_region hT ?_)
  refine aw_ret ?_
  exact retPick [] ⟨rfl, rfl⟩ rfl
set_option maxRecDepth 20000 in
theorem Ring_Chain_nil : AF Tryz.prog f_ring_Ring_Chain [nilPt] [] (Pure (i64 0) []) := by
  refine af_body hT F_ring_Ring_Chain rfl rfl N_ring_Ring_Chain rfl ?_
  refine aw_seq (aw_region hT ?_)
  refine aw_seq (aw_seq (aw_region hT ?_))
  refine aw_cond ?_
  refine aw_seq (aw_region hT ?_)
  refine aw_ret ?_
  exact retPick [] ⟨rfl, rfl⟩ rfl
set_option maxRecDepth 20000 in
theorem Ring_Cut_nil : AF Tryz.prog f_ring_Ring_Cut [nilPt] [] (Pure (.tup []) []) := by
  refine af_body hT F_ring_Ring_Cut rfl rfl N_ring_Ring_Cut rfl ?_
  refine aw_seq (aw_region hT ?_)
  refine aw_cond ?_
  refine aw_skip ?_
  exact retPick [] ⟨rfl, rfl⟩ rfl
set_option maxRecDepth 20000 in
theorem Ring_Append_nil : AF Tryz.prog f_ring_Ring_Append [nilPt, .p (.raw (.slice none 0 0))] [] (Pure (i64 1) []) := by
  refine af_body hT F_ring_Ring_Append rfl rfl N_ring_Ring_Append rfl ?_
  refine aw_seq (aw_region hT ?_)
  refine aw_seq (aw_seq (aw_region hT ?_))
  refine aw_cond ?_
  refine aw_seq (aw_region hT ?_)
  refine aw_ret ?_
  exact retPick [] ⟨rfl, rfl⟩ rfl

set_option maxHeartbeats 8000000 in
set_option maxRecDepth 20000 in
theorem ring_new (none_ : Bool) (vol : Int) (g : GeoV) (epoch start next chain : Int) : AF Tryz.prog f_law11_RingNew [bl none_, i64 vol, g.av, i64 epoch, i64 start, i64 next, i64 chain] [] (Pure (bl true) []) := by
  refine AF.mono (R := fun r H' => ∃ z, z = true ∧ r = bl z ∧ H' = []) ?_ (by rintro r H' ⟨b, rfl, rfl, rfl⟩; exact ⟨rfl, rfl⟩)
  have w8 := ref08_May g
  have n1 := disk_New 60 (by omega) (by omega)
  generalize Dev.new 60 = D at n1
  have n1 : AF Tryz.prog f_disk_New [i64 60] [] (Pure (.tup [.ref 0 0, i64 0]) (devH D)) := n1
  refine af_body hT F_law11_RingNew rfl rfl N_law11_RingNew rfl ?_
  refine aw_cut ⟨⟨133, [(0, bl none_), (1, i64 vol), (3, i64 epoch), (4, i64 start), (5, i64 next), (6, i64 chain), (9, .p (.box g.pv))]⟩, []⟩ True (aw_region hT ?_) (fun _ => ?_)
  · exact ⟨Wk.trans (wk_boxL 0 g.pv rfl rfl) (wk_pick [] [0, 1, 3, 4, 5, 6, 9] rfl), trivial⟩
  refine aw_seq (aw_region hT ?_)
  refine callP (af_at law11_awake _ rfl rfl) ?_
  refine aw_seq (aw_region hT ?_)
  refine callP n1 ?_
  cases none_ with
  | true =>
    have hno : (false && ([vol, epoch, start, next, chain].all wordB && (!decide (next < start) && !decide (next - start > g.w)))) = false := rfl
    refine aw_cut ⟨⟨133, [(0, bl true), (1, i64 vol), (3, i64 epoch), (4, i64 start), (5, i64 next), (6, i64 chain), (9, .p (.box g.pv)), (15, bl true), (16, nilPt)]⟩, []⟩ True (aw_seq (aw_region hT ?_)) (fun _ => ?_)
    · refine aw_cond ?_
      refine aw_region hT ?_
      exact ⟨wk_pick [] [0, 1, 3, 4, 5, 6, 9, 15, 16] rfl, trivial⟩
    refine aw_seq (aw_region hT ?_)
    refine callP (af_at (ring_New_nil vol g epoch start next chain) _ rfl rfl) ?_
    refine aw_seq (aw_region hT ?_)
    refine callP (af_at w8 _ rfl rfl) ?_
    refine aw_cut ⟨⟨133, [(1, i64 vol), (3, i64 epoch), (4, i64 start), (5, i64 next), (6, i64 chain), (9, .p (.box g.pv)), (15, bl true), (18, nilPt), (19, i64 1), (21, bl false)]⟩, []⟩ True (aw_region hT ?_) (fun _ => ?_)
    · refine boolI (fun h => ?_) (fun h => ?_)
      · exact ⟨wk_pick [] [1, 3, 4, 5, 6, 9, 15, 18, 19, 21] rfl, trivial⟩
      · exact ⟨wk_pick [] [1, 3, 4, 5, 6, 9, 15, 18, 19, 21] rfl, trivial⟩
    refine aw_cut ⟨⟨133, [(4, i64 start), (5, i64 next), (6, i64 chain), (9, .p (.box g.pv)), (15, bl true), (18, nilPt), (19, i64 1), (21, bl false), (22, .p (.sl 1 (ix [vol, epoch, start, next, chain])))]⟩, []⟩ True (aw_regionF (fun k => Nat.beq 5 k) hT ?_) (fun _ => ?_)
    · refine ⟨⟨rfl, rfl⟩, ?_⟩
      exact ⟨wk_pick [] [4, 5, 6, 9, 15, 18, 19, 21, 22] rfl, trivial⟩
    refine aw_cut2 (fun st => ∃ c, c = (false && [vol, epoch, start, next, chain].all wordB) ∧ st = ⟨⟨133, [(4, i64 start), (5, i64 next), (6, i64 chain), (9, .p (.box g.pv)), (15, bl true), (18, nilPt), (19, i64 1), (21, bl c)]⟩, []⟩) (aw_seq (aw_region hT ?_)) ?_
    · refine aw_block ?_
      refine aw_loopW (fun n st => ∃ (k : Nat) (j : Int) (c : Bool), n + k = 5 ∧ j = k ∧ c = (false && ([vol, epoch, start, next, chain].take k).all wordB) ∧ st = ⟨⟨133, [(4, i64 start), (5, i64 next), (6, i64 chain), (9, .p (.box g.pv)), (15, bl true), (18, nilPt), (19, i64 1), (21, bl c), (22, .p (.sl 1 (ix [vol, epoch, start, next, chain]))), (23, i64 j)]⟩, []⟩) 5 ⟨⟨133, _⟩, _⟩ (wk_pick [] [4, 5, 6, 9, 15, 18, 19, 21, 22, 23] rfl) ⟨0, 0, _, rfl, rfl, by rw [List.take_zero, List.all_nil, Bool.and_true], rfl⟩ ?_
      rintro n st ⟨k, j, c, hnk, hj, hc, rfl⟩
      refine aw_seq (aw_seq (aw_region hT ?_))
      refine aw_cond (boolI (fun h => ?_) (fun h => ?_))
      · have h := of_decide_eq_true (show decide (j < 5) = true from h)
        refine aw_skip ?_
        obtain ⟨x, hx⟩ : ∃ x, [vol, epoch, start, next, chain][k]? = some x := ⟨_, List.getElem?_eq_getElem (show k < [vol, epoch, start, next, chain].length by show k < 5; omega)⟩
        have hxp : (ix [vol, epoch, start, next, chain])[j.toNat]? = some [.raw (.int .i64 x)] := by rw [hj, Int.toNat_natCast]; exact ix_at hx
        have hstep : (false && ([vol, epoch, start, next, chain].take (k + 1)).all wordB) = (c && wordB x) := by rw [hc, List.take_add_one, hx, List.all_append]; simp
        refine aw_cut2 (fun st => ∃ c2, c2 = (c && wordB x) ∧ st = ⟨⟨133, [(4, i64 start), (5, i64 next), (6, i64 chain), (9, .p (.box g.pv)), (15, bl true), (18, nilPt), (19, i64 1), (21, bl c2), (22, .p (.sl 1 (ix [vol, epoch, start, next, chain]))), (23, i64 j)]⟩, []⟩) (aw_block (aw_region hT ?_)) ?_
        · refine boolI (fun h1 => ?_) (fun h1 => ?_)
          · have h1 : c = true := h1
            refine ⟨by omega, optI hxp ?_⟩
            refine boolI (fun h2 => ?_) (fun h2 => ?_)
            · have h2 : decide (x ≥ 0) = true := h2
              refine ⟨by omega, optI hxp ?_⟩
              refine ⟨_, wk_pick [] [4, 5, 6, 9, 15, 18, 19, 21, 22, 23] rfl, decide (x ≤ 4294967295), ?_, rfl⟩
              rw [h1]; unfold wordB; rw [show decide (0 ≤ x) = true from h2]; rfl
            · have h2 : decide (x ≥ 0) = false := h2
              refine ⟨_, wk_pick [] [4, 5, 6, 9, 15, 18, 19, 21, 22, 23] rfl, false, ?_, rfl⟩
              rw [h1]; unfold wordB; rw [show decide (0 ≤ x) = false from h2]; rfl
          · have h1 : c = false := h1
            refine ⟨_, wk_pick [] [4, 5, 6, 9, 15, 18, 19, 21, 22, 23] rfl, false, ?_, rfl⟩
            rw [h1]; rfl
        · rintro _ ⟨c2, hc2, rfl⟩
          refine aw_region hT ?_
          exact ⟨n - 1, by omega, _, wk_pick [] [4, 5, 6, 9, 15, 18, 19, 21, 22, 23] rfl, k + 1, IntKind.i64.wrap (j + 1), c2, by omega, by rw [wrap64 _ (by omega) (by omega)]; omega, by rw [hstep]; exact hc2, rfl⟩
      · have h := of_decide_eq_false (show decide (j < 5) = false from h)
        refine aw_exit ?_
        refine ⟨_, wk_pick [] [4, 5, 6, 9, 15, 18, 19, 21] rfl, c, ?_, rfl⟩
        rw [hc, show k = 5 by omega]; rfl
    rintro _ ⟨c, hc, rfl⟩
    have hwords : [vol, epoch, start, next, chain].all wordB = true → IntKind.i64.wrap (next - start) = next - start := fun h => by
      unfold wordB at h
      simp only [List.all_cons, List.all_nil, Bool.and_true, Bool.and_eq_true, decide_eq_true_eq] at h
      exact wrap64 _ (by omega) (by omega)
    refine aw_cut2 (fun st => ∃ r, r = (false && ([vol, epoch, start, next, chain].all wordB && (!decide (next < start) && !decide (next - start > g.w)))) ∧ st = ⟨⟨133, [(5, i64 next), (6, i64 chain), (15, bl true), (18, nilPt), (19, i64 1), (21, bl r)]⟩, []⟩) (aw_region hT ?_) ?_
    · refine boolI (fun h1 => ?_) (fun h1 => ?_)
      · have h1 : c = true := h1
        rw [h1] at hc
        have hc := hc.symm
        rw [Bool.and_eq_true] at hc
        refine boolI (fun h2 => ?_) (fun h2 => ?_)
        · have h2 := of_decide_eq_true (show decide (next ≥ start) = true from h2)
          refine ⟨_, wk_pick [] [5, 6, 15, 18, 19, 21] rfl, decide (IntKind.i64.wrap (next - start) ≤ g.w), ?_, rfl⟩
          rw [hc.1, hc.2, hwords hc.2, decide_eq_false (show ¬ next < start by omega)]
          by_cases h3 : next - start ≤ g.w
          · rw [decide_eq_true h3, decide_eq_false (show ¬ next - start > g.w by omega)]; rfl
          · rw [decide_eq_false h3, decide_eq_true (show next - start > g.w by omega)]; rfl
        · have h2 := of_decide_eq_false (show decide (next ≥ start) = false from h2)
          refine ⟨_, wk_pick [] [5, 6, 15, 18, 19, 21] rfl, false, ?_, rfl⟩
          rw [decide_eq_true (show next < start by omega)]; simp
      · have h1 : c = false := h1
        refine ⟨_, wk_pick [] [5, 6, 15, 18, 19, 21] rfl, false, ?_, rfl⟩
        rw [h1] at hc
        rw [← Bool.and_assoc, ← hc]; rfl
    rintro _ ⟨r, hr, rfl⟩
    rw [hno] at hr
    subst hr
    refine aw_seq (aw_seq (aw_region hT ?_))
    refine aw_cond ?_
    refine aw_seq (aw_region hT ?_)
    refine aw_seq (aw_region hT ?_)
    refine callP (af_at Ring_Cut_nil _ rfl rfl) ?_
    refine aw_seq (aw_region hT ?_)
    refine callP (af_at Ring_Append_nil _ rfl rfl) ?_
    refine callP (af_at Ring_Next_nil _ rfl rfl) ?_
    refine callP (af_at Ring_Chain_nil _ rfl rfl) ?_
    refine aw_ret ?_
    exact retPick [] ⟨true, rfl, rfl, rfl⟩ rfl
  | false =>
  refine aw_cut ⟨⟨133, [(0, bl false), (1, i64 vol), (3, i64 epoch), (4, i64 start), (5, i64 next), (6, i64 chain), (9, .p (.box g.pv)), (15, bl true), (16, .ref 0 0)]⟩, devH D⟩ True (aw_seq (aw_region hT ?_)) (fun _ => ?_)
  · refine aw_cond ?_
    exact aw_skip ⟨wk_pick [0, 1, 2] [0, 1, 3, 4, 5, 6, 9, 15, 16] rfl, trivial⟩
  obtain ⟨m0, hm0⟩ : ∃ m0, m0 = g.may := ⟨_, rfl⟩
  rw [← hm0] at w8
  cases hok : newOk vol g epoch start next chain with
  | false =>
    have hno : (m0 && ([vol, epoch, start, next, chain].all wordB && (!decide (next < start) && !decide (next - start > g.w)))) = false := by rw [hm0]; exact hok
    refine aw_seq (aw_region hT ?_)
    refine callP (af_in [0, 1, 2] (ring_New_no D vol g epoch start next chain hok) rfl rfl rfl) ?_
    refine aw_seq (aw_region hT ?_)
    refine callP (af_at w8 _ rfl rfl) ?_
    refine aw_cut ⟨⟨133, [(1, i64 vol), (3, i64 epoch), (4, i64 start), (5, i64 next), (6, i64 chain), (9, .p (.box g.pv)), (15, bl true), (18, nilPt), (19, i64 1), (21, bl m0)]⟩, []⟩ True (aw_region hT ?_) (fun _ => ?_)
    · refine boolI (fun h => ?_) (fun h => ?_)
      · have h : m0 = true := h
        rw [h]
        exact ⟨wk_pick [] [1, 3, 4, 5, 6, 9, 15, 18, 19, 21] rfl, trivial⟩
      · have h : m0 = false := h
        rw [h]
        exact ⟨wk_pick [] [1, 3, 4, 5, 6, 9, 15, 18, 19, 21] rfl, trivial⟩
    refine aw_cut ⟨⟨133, [(4, i64 start), (5, i64 next), (6, i64 chain), (9, .p (.box g.pv)), (15, bl true), (18, nilPt), (19, i64 1), (21, bl m0), (22, .p (.sl 1 (ix [vol, epoch, start, next, chain])))]⟩, []⟩ True (aw_regionF (fun k => Nat.beq 5 k) hT ?_) (fun _ => ?_)
    · refine ⟨⟨rfl, rfl⟩, ?_⟩
      exact ⟨wk_pick [] [4, 5, 6, 9, 15, 18, 19, 21, 22] rfl, trivial⟩
    refine aw_cut2 (fun st => ∃ c, c = (m0 && [vol, epoch, start, next, chain].all wordB) ∧ st = ⟨⟨133, [(4, i64 start), (5, i64 next), (6, i64 chain), (9, .p (.box g.pv)), (15, bl true), (18, nilPt), (19, i64 1), (21, bl c)]⟩, []⟩) (aw_seq (aw_region hT ?_)) ?_
    · refine aw_block ?_
      refine aw_loopW (fun n st => ∃ (k : Nat) (j : Int) (c : Bool), n + k = 5 ∧ j = k ∧ c = (m0 && ([vol, epoch, start, next, chain].take k).all wordB) ∧ st = ⟨⟨133, [(4, i64 start), (5, i64 next), (6, i64 chain), (9, .p (.box g.pv)), (15, bl true), (18, nilPt), (19, i64 1), (21, bl c), (22, .p (.sl 1 (ix [vol, epoch, start, next, chain]))), (23, i64 j)]⟩, []⟩) 5 ⟨⟨133, _⟩, _⟩ (wk_pick [] [4, 5, 6, 9, 15, 18, 19, 21, 22, 23] rfl) ⟨0, 0, _, rfl, rfl, by rw [List.take_zero, List.all_nil, Bool.and_true], rfl⟩ ?_
      rintro n st ⟨k, j, c, hnk, hj, hc, rfl⟩
      refine aw_seq (aw_seq (aw_region hT ?_))
      refine aw_cond (boolI (fun h => ?_) (fun h => ?_))
      · have h := of_decide_eq_true (show decide (j < 5) = true from h)
        refine aw_skip ?_
        obtain ⟨x, hx⟩ : ∃ x, [vol, epoch, start, next, chain][k]? = some x := ⟨_, List.getElem?_eq_getElem (show k < [vol, epoch, start, next, chain].length by show k < 5; omega)⟩
        have hxp : (ix [vol, epoch, start, next, chain])[j.toNat]? = some [.raw (.int .i64 x)] := by rw [hj, Int.toNat_natCast]; exact ix_at hx
        have hstep : (m0 && ([vol, epoch, start, next, chain].take (k + 1)).all wordB) = (c && wordB x) := by rw [hc, List.take_add_one, hx, List.all_append]; simp [Bool.and_assoc]
        refine aw_cut2 (fun st => ∃ c2, c2 = (c && wordB x) ∧ st = ⟨⟨133, [(4, i64 start), (5, i64 next), (6, i64 chain), (9, .p (.box g.pv)), (15, bl true), (18, nilPt), (19, i64 1), (21, bl c2), (22, .p (.sl 1 (ix [vol, epoch, start, next, chain]))), (23, i64 j)]⟩, []⟩) (aw_block (aw_region hT ?_)) ?_
        · refine boolI (fun h1 => ?_) (fun h1 => ?_)
          · have h1 : c = true := h1
            refine ⟨by omega, optI hxp ?_⟩
            refine boolI (fun h2 => ?_) (fun h2 => ?_)
            · have h2 : decide (x ≥ 0) = true := h2
              refine ⟨by omega, optI hxp ?_⟩
              refine ⟨_, wk_pick [] [4, 5, 6, 9, 15, 18, 19, 21, 22, 23] rfl, decide (x ≤ 4294967295), ?_, rfl⟩
              rw [h1]; unfold wordB; rw [show decide (0 ≤ x) = true from h2]; rfl
            · have h2 : decide (x ≥ 0) = false := h2
              refine ⟨_, wk_pick [] [4, 5, 6, 9, 15, 18, 19, 21, 22, 23] rfl, false, ?_, rfl⟩
              rw [h1]; unfold wordB; rw [show decide (0 ≤ x) = false from h2]; rfl
          · have h1 : c = false := h1
            refine ⟨_, wk_pick [] [4, 5, 6, 9, 15, 18, 19, 21, 22, 23] rfl, false, ?_, rfl⟩
            rw [h1]; rfl
        · rintro _ ⟨c2, hc2, rfl⟩
          refine aw_region hT ?_
          exact ⟨n - 1, by omega, _, wk_pick [] [4, 5, 6, 9, 15, 18, 19, 21, 22, 23] rfl, k + 1, IntKind.i64.wrap (j + 1), c2, by omega, by rw [wrap64 _ (by omega) (by omega)]; omega, by rw [hstep]; exact hc2, rfl⟩
      · have h := of_decide_eq_false (show decide (j < 5) = false from h)
        refine aw_exit ?_
        refine ⟨_, wk_pick [] [4, 5, 6, 9, 15, 18, 19, 21] rfl, c, ?_, rfl⟩
        rw [hc, show k = 5 by omega]; rfl
    rintro _ ⟨c, hc, rfl⟩
    have hwords : [vol, epoch, start, next, chain].all wordB = true → IntKind.i64.wrap (next - start) = next - start := fun h => by
      unfold wordB at h
      simp only [List.all_cons, List.all_nil, Bool.and_true, Bool.and_eq_true, decide_eq_true_eq] at h
      exact wrap64 _ (by omega) (by omega)
    refine aw_cut2 (fun st => ∃ r, r = (m0 && ([vol, epoch, start, next, chain].all wordB && (!decide (next < start) && !decide (next - start > g.w)))) ∧ st = ⟨⟨133, [(5, i64 next), (6, i64 chain), (15, bl true), (18, nilPt), (19, i64 1), (21, bl r)]⟩, []⟩) (aw_region hT ?_) ?_
    · refine boolI (fun h1 => ?_) (fun h1 => ?_)
      · have h1 : c = true := h1
        rw [h1] at hc
        have hc := hc.symm
        rw [Bool.and_eq_true] at hc
        refine boolI (fun h2 => ?_) (fun h2 => ?_)
        · have h2 := of_decide_eq_true (show decide (next ≥ start) = true from h2)
          refine ⟨_, wk_pick [] [5, 6, 15, 18, 19, 21] rfl, decide (IntKind.i64.wrap (next - start) ≤ g.w), ?_, rfl⟩
          rw [hc.1, hc.2, hwords hc.2, decide_eq_false (show ¬ next < start by omega)]
          by_cases h3 : next - start ≤ g.w
          · rw [decide_eq_true h3, decide_eq_false (show ¬ next - start > g.w by omega)]; rfl
          · rw [decide_eq_false h3, decide_eq_true (show next - start > g.w by omega)]; rfl
        · have h2 := of_decide_eq_false (show decide (next ≥ start) = false from h2)
          refine ⟨_, wk_pick [] [5, 6, 15, 18, 19, 21] rfl, false, ?_, rfl⟩
          rw [decide_eq_true (show next < start by omega)]; simp
      · have h1 : c = false := h1
        refine ⟨_, wk_pick [] [5, 6, 15, 18, 19, 21] rfl, false, ?_, rfl⟩
        rw [h1] at hc
        rw [← Bool.and_assoc, ← hc]; rfl
    rintro _ ⟨r, hr, rfl⟩
    rw [hno] at hr
    subst hr
    refine aw_seq (aw_seq (aw_region hT ?_))
    refine aw_cond ?_
    refine aw_seq (aw_region hT ?_)
    refine aw_seq (aw_region hT ?_)
    refine callP (af_at Ring_Cut_nil _ rfl rfl) ?_
    refine aw_seq (aw_region hT ?_)
    refine callP (af_at Ring_Append_nil _ rfl rfl) ?_
    refine callP (af_at Ring_Next_nil _ rfl rfl) ?_
    refine callP (af_at Ring_Chain_nil _ rfl rfl) ?_
    refine aw_ret ?_
    exact retPick [] ⟨true, rfl, rfl, rfl⟩ rfl
  | true =>
  have hyes : (m0 && ([vol, epoch, start, next, chain].all wordB && (!decide (next < start) && !decide (next - start > g.w)))) = true := by rw [hm0]; exact hok
  have wn := Ring_Next5 (newR vol g epoch start next chain) D
  have wc := Ring_Chain5 (newR vol g epoch start next chain) D
  have wn : AFm Tryz.prog 5 f_ring_Ring_Next [.ref 2 0] (rgH (newR vol g epoch start next chain) D) (Pure (i64 next) (rgH (newR vol g epoch start next chain) D)) := wn
  have wc : AFm Tryz.prog 5 f_ring_Ring_Chain [.ref 2 0] (rgH (newR vol g epoch start next chain) D) (Pure (i64 chain) (rgH (newR vol g epoch start next chain) D)) := wc
  have wN := ring_New D vol g epoch start next chain hok
  generalize newR vol g epoch start next chain = R at wn wc wN
  refine aw_seq (aw_region hT ?_)
  refine callP (af_in [0, 1, 2] wN rfl rfl rfl) ?_
  refine aw_seq (aw_region hT ?_)
  refine callP (af_at w8 _ rfl rfl) ?_
  refine aw_cut ⟨⟨133, [(1, i64 vol), (3, i64 epoch), (4, i64 start), (5, i64 next), (6, i64 chain), (9, .p (.box g.pv)), (15, bl true), (18, .ref 2 0), (19, i64 0), (21, bl m0)]⟩, rgH R D⟩ True (aw_region hT ?_) (fun _ => ?_)
  · refine boolI (fun h => ?_) (fun h => ?_)
    · have h : m0 = true := h
      rw [h]
      exact ⟨wk_pick [0, 3, 4, 5, 6] [1, 3, 4, 5, 6, 9, 15, 18, 19, 21] rfl, trivial⟩
    · have h : m0 = false := h
      rw [h]
      exact ⟨wk_pick [0, 3, 4, 5, 6] [1, 3, 4, 5, 6, 9, 15, 18, 19, 21] rfl, trivial⟩
  refine aw_cut ⟨⟨133, [(4, i64 start), (5, i64 next), (6, i64 chain), (9, .p (.box g.pv)), (15, bl true), (18, .ref 2 0), (19, i64 0), (21, bl m0), (22, .p (.sl 1 (ix [vol, epoch, start, next, chain])))]⟩, rgH R D⟩ True (aw_regionF (fun k => Nat.beq 5 k) hT ?_) (fun _ => ?_)
  · refine ⟨⟨rfl, rfl⟩, ?_⟩
    exact ⟨wk_pick [0, 1, 2, 3, 4] [4, 5, 6, 9, 15, 18, 19, 21, 22] rfl, trivial⟩
  refine aw_cut2 (fun st => ∃ c, c = (m0 && [vol, epoch, start, next, chain].all wordB) ∧ st = ⟨⟨133, [(4, i64 start), (5, i64 next), (6, i64 chain), (9, .p (.box g.pv)), (15, bl true), (18, .ref 2 0), (19, i64 0), (21, bl c)]⟩, rgH R D⟩) (aw_seq (aw_region hT ?_)) ?_
  · refine aw_block ?_
    refine aw_loopW (fun n st => ∃ (k : Nat) (j : Int) (c : Bool), n + k = 5 ∧ j = k ∧ c = (m0 && ([vol, epoch, start, next, chain].take k).all wordB) ∧ st = ⟨⟨133, [(4, i64 start), (5, i64 next), (6, i64 chain), (9, .p (.box g.pv)), (15, bl true), (18, .ref 2 0), (19, i64 0), (21, bl c), (22, .p (.sl 1 (ix [vol, epoch, start, next, chain]))), (23, i64 j)]⟩, rgH R D⟩) 5 ⟨⟨133, _⟩, _⟩ (wk_pick [0, 1, 2, 3, 4] [4, 5, 6, 9, 15, 18, 19, 21, 22, 23] rfl) ⟨0, 0, _, rfl, rfl, by rw [List.take_zero, List.all_nil, Bool.and_true], rfl⟩ ?_
    rintro n st ⟨k, j, c, hnk, hj, hc, rfl⟩
    refine aw_seq (aw_seq (aw_region hT ?_))
    refine aw_cond (boolI (fun h => ?_) (fun h => ?_))
    · have h := of_decide_eq_true (show decide (j < 5) = true from h)
      refine aw_skip ?_
      obtain ⟨x, hx⟩ : ∃ x, [vol, epoch, start, next, chain][k]? = some x := ⟨_, List.getElem?_eq_getElem (show k < [vol, epoch, start, next, chain].length by show k < 5; omega)⟩
      have hxp : (ix [vol, epoch, start, next, chain])[j.toNat]? = some [.raw (.int .i64 x)] := by rw [hj, Int.toNat_natCast]; exact ix_at hx
      have hstep : (m0 && ([vol, epoch, start, next, chain].take (k + 1)).all wordB) = (c && wordB x) := by rw [hc, List.take_add_one, hx, List.all_append]; simp [Bool.and_assoc]
      refine aw_cut2 (fun st => ∃ c2, c2 = (c && wordB x) ∧ st = ⟨⟨133, [(4, i64 start), (5, i64 next), (6, i64 chain), (9, .p (.box g.pv)), (15, bl true), (18, .ref 2 0), (19, i64 0), (21, bl c2), (22, .p (.sl 1 (ix [vol, epoch, start, next, chain]))), (23, i64 j)]⟩, rgH R D⟩) (aw_block (aw_region hT ?_)) ?_
      · refine boolI (fun h1 => ?_) (fun h1 => ?_)
        · have h1 : c = true := h1
          refine ⟨by omega, optI hxp ?_⟩
          refine boolI (fun h2 => ?_) (fun h2 => ?_)
          · have h2 : decide (x ≥ 0) = true := h2
            refine ⟨by omega, optI hxp ?_⟩
            refine ⟨_, wk_pick [0, 1, 2, 3, 4] [4, 5, 6, 9, 15, 18, 19, 21, 22, 23] rfl, decide (x ≤ 4294967295), ?_, rfl⟩
            rw [h1]; unfold wordB; rw [show decide (0 ≤ x) = true from h2]; rfl
          · have h2 : decide (x ≥ 0) = false := h2
            refine ⟨_, wk_pick [0, 1, 2, 3, 4] [4, 5, 6, 9, 15, 18, 19, 21, 22, 23] rfl, false, ?_, rfl⟩
            rw [h1]; unfold wordB; rw [show decide (0 ≤ x) = false from h2]; rfl
        · have h1 : c = false := h1
          refine ⟨_, wk_pick [0, 1, 2, 3, 4] [4, 5, 6, 9, 15, 18, 19, 21, 22, 23] rfl, false, ?_, rfl⟩
          rw [h1]; rfl
      · rintro _ ⟨c2, hc2, rfl⟩
        refine aw_region hT ?_
        exact ⟨n - 1, by omega, _, wk_pick [0, 1, 2, 3, 4] [4, 5, 6, 9, 15, 18, 19, 21, 22, 23] rfl, k + 1, IntKind.i64.wrap (j + 1), c2, by omega, by rw [wrap64 _ (by omega) (by omega)]; omega, by rw [hstep]; exact hc2, rfl⟩
    · have h := of_decide_eq_false (show decide (j < 5) = false from h)
      refine aw_exit ?_
      refine ⟨_, wk_pick [0, 1, 2, 3, 4] [4, 5, 6, 9, 15, 18, 19, 21] rfl, c, ?_, rfl⟩
      rw [hc, show k = 5 by omega]; rfl
  rintro _ ⟨c, hc, rfl⟩
  have hwords : [vol, epoch, start, next, chain].all wordB = true → IntKind.i64.wrap (next - start) = next - start := fun h => by
    unfold wordB at h
    simp only [List.all_cons, List.all_nil, Bool.and_true, Bool.and_eq_true, decide_eq_true_eq] at h
    exact wrap64 _ (by omega) (by omega)
  refine aw_cut2 (fun st => ∃ r, r = (m0 && ([vol, epoch, start, next, chain].all wordB && (!decide (next < start) && !decide (next - start > g.w)))) ∧ st = ⟨⟨133, [(5, i64 next), (6, i64 chain), (15, bl true), (18, .ref 2 0), (19, i64 0), (21, bl r)]⟩, rgH R D⟩) (aw_region hT ?_) ?_
  · refine boolI (fun h1 => ?_) (fun h1 => ?_)
    · have h1 : c = true := h1
      rw [h1] at hc
      have hc := hc.symm
      rw [Bool.and_eq_true] at hc
      refine boolI (fun h2 => ?_) (fun h2 => ?_)
      · have h2 := of_decide_eq_true (show decide (next ≥ start) = true from h2)
        refine ⟨_, wk_pick [0, 1, 2, 3, 4] [5, 6, 15, 18, 19, 21] rfl, decide (IntKind.i64.wrap (next - start) ≤ g.w), ?_, rfl⟩
        rw [hc.1, hc.2, hwords hc.2, decide_eq_false (show ¬ next < start by omega)]
        by_cases h3 : next - start ≤ g.w
        · rw [decide_eq_true h3, decide_eq_false (show ¬ next - start > g.w by omega)]; rfl
        · rw [decide_eq_false h3, decide_eq_true (show next - start > g.w by omega)]; rfl
      · have h2 := of_decide_eq_false (show decide (next ≥ start) = false from h2)
        refine ⟨_, wk_pick [0, 1, 2, 3, 4] [5, 6, 15, 18, 19, 21] rfl, false, ?_, rfl⟩
        rw [decide_eq_true (show next < start by omega)]; simp
    · have h1 : c = false := h1
      refine ⟨_, wk_pick [0, 1, 2, 3, 4] [5, 6, 15, 18, 19, 21] rfl, false, ?_, rfl⟩
      rw [h1] at hc
      rw [← Bool.and_assoc, ← hc]; rfl
  rintro _ ⟨r, hr, rfl⟩
  rw [hyes] at hr
  subst hr
  refine aw_seq (aw_seq (aw_region hT ?_))
  refine aw_cond ?_
  refine aw_skip ?_
  refine aw_seq (aw_region hT ?_)
  refine callP (af_in [0, 1, 2, 3, 4] wn rfl rfl rfl) ?_
  refine boolI (fun h => ?_) (fun h => ?_)
  · refine callP (af_in [0, 1, 2, 3, 4] wc rfl rfl rfl) ?_
    refine aw_ret ?_
    exact retPick [] ⟨_, (show (chain == chain) = true by simp), rfl, rfl⟩ rfl
  · have h : (next == next) = false := h
    simp at h
end Go.Proofs.YtinfbclgkghgaaaGreat.AL
