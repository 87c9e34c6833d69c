/- The law DiskRots, as plain lists (2). -/
import Derived.Test.YtolefphdldmlkaaBEb
namespace Go.Proofs.Ytolefphdldmlkaa.AL
open Go Go.Proofs

theorem may_rot {D : Dev} {a : Int} (hh : D.has a = true) (off n t : Int) (m0 m1 m2 m3 : UInt8) : D.may ⟨1, a, off, n, t, m0, m1, m2, m3⟩ = if 0 ≤ off ∧ off < 256 then 0 else 1 := by
  unfold Dev.may
  simp only [hh]
  by_cases h : 0 ≤ off ∧ off < 256
  · rw [if_pos h]
    have h1 : decide (off < 0) = false := decide_eq_false (by omega)
    have h2 : decide (off ≥ 256) = false := decide_eq_false (by omega)
    rw [h1, h2]; rfl
  · rw [if_neg h]
    have h3 : (decide (off < 0) || decide (off ≥ 256)) = true := by
      rw [Bool.or_eq_true, decide_eq_true_eq, decide_eq_true_eq]; omega
    rw [h3]; rfl

theorem upd_twice {D : Dev} {a : Int} {c : Cell} (g : Cell → Cell) (hc : D.cells[a.toNat]? = some c) (hg : g (g c) = c) : (D.upd a g).upd a g = D := by
  have hlt := (List.getElem?_eq_some_iff.1 hc).1
  have h1 : (D.cells.modify a.toNat g).modify a.toNat g = D.cells := by
    rw [modify_some g hc, modify_some g (c := g c) (List.getElem?_set_self hlt), List.set_set, hg]
    apply List.ext_getElem?
    intro k
    rw [List.getElem?_set]
    by_cases e : a.toNat = k
    · subst e; rw [if_pos rfl, if_pos hlt, hc]
    · rw [if_neg e]
  unfold Dev.upd
  rw [h1]

theorem settle_settled (D : Dev) (a : Int) (g : Cell → Cell) : ((D.settle a).upd a g).settle a = (D.settle a).upd a g := by
  have hno : ∀ x ∈ settleW a D.waits, hitA a x = false := fun x hx => by
    have := (List.mem_filter.1 hx).2
    simpa using this
  show ({ (D.settle a).upd a g with cells := settleC a (settleW a D.waits) ((D.settle a).upd a g).cells, waits := settleW a (settleW a D.waits) } : Dev) = _
  rw [settleC_no hno, settleW_no hno]
  rfl

theorem rot_twice {D : Dev} {L : Bytes} {b : Nat} (h : PlainOk D L b) {a : Int} (ha : 0 ≤ a) (hb : a < 20) (off n t : Int) (m0 m1 m2 m3 : UInt8) (h0 : 0 ≤ off ∧ off < 256) :
    (D.fault ⟨1, a, off, n, t, m0, m1, m2, m3⟩).1 = 0 ∧ ((D.fault ⟨1, a, off, n, t, m0, m1, m2, m3⟩).2.fault ⟨1, a, off, n, t, m0, m1, m2, m3⟩).1 = 0 ∧ ((D.fault ⟨1, a, off, n, t, m0, m1, m2, m3⟩).2.fault ⟨1, a, off, n, t, m0, m1, m2, m3⟩).2 = D.settle a := by
  have hh := plain_has h ha hb
  generalize hf : (⟨1, a, off, n, t, m0, m1, m2, m3⟩ : Flt) = f
  have hm : ∀ E : Dev, E.has a = true → E.fault f = (0, (E.settle a).upd a fun c => { c with s := rotB f c.s 4 }) := fun E hE => by
    unfold Dev.fault
    have : E.may f = 0 := by rw [← hf, may_rot hE, if_pos h0]
    rw [this]
    subst hf
    rfl
  rw [hm D hh]
  have hE : (Dev.upd (D.settle a) a fun c => { c with s := rotB f c.s 4 }).has a = true := by
    unfold Dev.has at hh ⊢
    rw [show (Dev.upd (D.settle a) a fun c => { c with s := rotB f c.s 4 }).cells.length = D.cells.length from (List.length_modify ..).trans (settleC_len _ _ _)]
    exact hh
  refine ⟨rfl, ?_, ?_⟩
  · show (Dev.fault (Dev.upd (D.settle a) a _) f).1 = 0
    rw [hm _ hE]
  · show (Dev.fault (Dev.upd (D.settle a) a _) f).2 = _
    rw [hm _ hE, settle_settled]
    obtain ⟨c, hc, _⟩ := cell_get (D.settle a) ((settle_has D a a).trans hh)
    refine upd_twice _ hc ?_
    have : rotB f (rotB f c.s 4) 4 = c.s := rotB_twice f (by rw [← hf]; exact h0.1) c.s
    show ({ c with s := rotB f (rotB f c.s 4) 4 } : Cell) = c
    rw [this]
theorem rot_not {D : Dev} {L : Bytes} {b : Nat} (h : PlainOk D L b) {a : Int} (ha : 0 ≤ a) (hb : a < 20) (off n t : Int) (m0 m1 m2 m3 : UInt8) (h0 : ¬ (0 ≤ off ∧ off < 256)) :
    D.fault ⟨1, a, off, n, t, m0, m1, m2, m3⟩ = (1, D) := by
  have hh := plain_has h ha hb
  unfold Dev.fault
  have : D.may ⟨1, a, off, n, t, m0, m1, m2, m3⟩ = 1 := by rw [may_rot hh, if_neg h0]
  rw [this]; rfl

theorem PlainOk.quiet {D : Dev} {L : Bytes} {b : Nat} (h : PlainOk D L b) : Quiet D b := ⟨h.ok, h.len, h.dead, h.armed⟩

theorem lose_read {D : Dev} {L : Bytes} {b : Nat} (h : PlainOk D L b) {a : Int} (ha : 0 ≤ a) (hb : a < 20) :
    ((D.fault ⟨3, a, 0, 0, 0, 0, 0, 0, 0⟩).2.read a).1.2 = 20 ∧ Quiet ((D.fault ⟨3, a, 0, 0, 0, 0, 0, 0, 0⟩).2.read a).2 (b + 1) ∧ ∃ c, ((D.fault ⟨3, a, 0, 0, 0, 0, 0, 0, 0⟩).2.read a).2.cells[a.toNat]? = some c ∧ c.drop = 0 ∧ c.miss = [] := by
  have hh := plain_has h ha hb
  have hm : D.may ⟨3, a, 0, 0, 0, 0, 0, 0, 0⟩ = 0 := by unfold Dev.may; simp only [hh]; rfl
  have e : D.fault ⟨3, a, 0, 0, 0, 0, 0, 0, 0⟩ = (0, (D.settle a).upd a fun c => { c with lost := true }) := by
    unfold Dev.fault; rw [hm]; rfl
  have hq := h.quiet.fault ⟨3, a, 0, 0, 0, 0, 0, 0, 0⟩
  have hs := plain_settle h ha hb
  obtain ⟨c, hc, _⟩ := cell_get (D.settle a) ((settle_has D a a).trans hh)
  have hp := hs.pl c (List.mem_of_getElem? hc)
  rw [e] at hq ⊢
  generalize hE : (Dev.upd (D.settle a) a fun c => { c with lost := true }) = E at hq
  have hEc : E.cells[a.toNat]? = some { c with lost := true } := by
    rw [← hE]
    show ((D.settle a).cells.modify a.toNat _)[a.toNat]? = _
    rw [modify_some _ hc, List.getElem?_set_self (List.getElem?_eq_some_iff.1 hc).1]
  have hEh : E.has a = true := by
    unfold Dev.has; rw [hq.len, decide_eq_true (by omega), decide_eq_true (by omega)]; rfl
  have hEw : lastW (hitA a) E.waits = none := by
    rw [← hE]
    show lastW (hitA a) (settleW a D.waits) = none
    rw [lastW_settle, if_pos rfl]
  have hr : E.read a = (((E.readAt a).2, (E.readAt a).1), E.count) := by unfold Dev.read; rw [hq.dead, hEh]
  have hra : E.readAt a = (20, []) := by
    rw [readAt_eq]; unfold readIn; rw [hEw, hEc]; rfl
  refine ⟨?_, ?_, ?_⟩
  · show (E.read a).1.2 = 20
    rw [hr, hra]
  · show Quiet (E.read a).2 (b + 1)
    rw [hr]
    exact ⟨hq.ok.count, hq.len, hq.dead, hq.armed⟩
  · show ∃ c, (E.read a).2.cells[a.toNat]? = some c ∧ _
    rw [hr]
    exact ⟨_, hEc, hp.1, hp.2.1⟩

theorem again_has {E : Dev} {b : Nat} (h : Quiet E b) {a : Int} (ha : 0 ≤ a) (hb : a < 20) (hc : ∃ c, E.cells[a.toNat]? = some c ∧ c.drop = 0 ∧ c.miss = []) (v : UInt8) :
    (E.write a (sect v)).2.flush.2.holds a v = true ∧ (E.write a (sect v)).2.Ok (b + 1) ∧ (E.write a (sect v)).2.flush.2.Ok (b + 1) := by
  have hh : E.has a = true := by
    unfold Dev.has; rw [h.len, decide_eq_true (by omega), decide_eq_true (by omega)]; rfl
  have hq := h.write a (sect v)
  obtain ⟨c, hc, hd, hm⟩ := hc
  obtain ⟨c1, c2, c3, c4⟩ := c
  simp only at hd hm
  subst hd hm
  have e : E.write a (sect v) = (0, { E.lives.count with waits := E.waits ++ [⟨a, sect v⟩] }) := by
    unfold Dev.write
    rw [h.dead, hh, show (((sect v).length : Int) != 256) = false by rw [sect_len]; rfl, h.lives.dead]
    show (0, E.lives.count.put a (sect v)) = _
    rw [put_plain (D := E.lives.count) hc rfl]
    rfl
  have hq2 := hq.flush
  refine ⟨?_, hq.ok, hq2.2.ok⟩
  have hc2 : (E.write a (sect v)).2.flush.2.cells[a.toNat]? = some ⟨sect v, false, 0, []⟩ := by
    rw [hq2.1]
    show (crashC (E.write a (sect v)).2.waits [true] (E.write a (sect v)).2.waits.length (E.write a (sect v)).2.cells)[a.toNat]? = _
    have hw := hq.ok.at_
    rw [e] at hw ⊢
    show (crashC (E.waits ++ [(⟨a, sect v⟩ : Wr)]) [true] (E.waits ++ [(⟨a, sect v⟩ : Wr)]).length E.cells)[a.toNat]? = _
    have hw : ∀ x ∈ E.waits ++ [(⟨a, sect v⟩ : Wr)], 0 ≤ x.at_ := fun x hx => (hw x hx).1
    rw [drain_get _ _ hw _ _ (Nat.le_refl _), List.take_length, Int.toNat_of_nonneg ha, lastW_snoc]
    rw [show hitA a (⟨a, sect v⟩ : Wr) = true by simp]
    show (E.cells[a.toNat]?).map _ = _
    rw [hc]; rfl
  have hw2 : (E.write a (sect v)).2.flush.2.waits = [] := by rw [hq2.1]; rfl
  have hq3 := hq2.2
  generalize (E.write a (sect v)).2.flush.2 = G at hc2 hw2 hq3
  have hG : G.has a = true := by
    unfold Dev.has; rw [hq3.len, decide_eq_true (by omega), decide_eq_true (by omega)]; rfl
  have hr : G.read a = (((G.readAt a).2, (G.readAt a).1), G.count) := by unfold Dev.read; rw [hq3.dead, hG]
  have hra : G.readAt a = (0, sect v) := by
    rw [readAt_eq]; unfold readIn; rw [hw2, hc2]; rfl
  unfold Dev.holds
  rw [hr, hra]
  show (match (0 : Int) == 0 with | true => sect v == sect v | false => false) = true
  simp

theorem plain_does {D : Dev} {L : Bytes} {b : Nat} (h : PlainOk D L b) (x : Op06) (hx : x.kind < 2) : ∃ L', PlainOk (D.does x).2 L' (b + 1) := by
  have hd := h.ok.does x
  unfold Dev.does at hd ⊢
  split
  · cases hs : x.short with
    | true =>
      have hl : x.sec.length = 255 := by unfold Op06.sec; rw [hs]; show ((sect x.b).drop 1).length = 255; rw [List.length_drop, sect_len]
      have e : (D.write x.at_ x.sec).2 = D := by
        unfold Dev.write; rw [h.dead]
        cases D.has x.at_ with
        | false => rfl
        | true => rw [show ((x.sec.length : Int) != 256) = true by rw [hl]; rfl]
      rw [e]; exact ⟨L, h.mono⟩
    | false =>
      have hl : x.sec = sect x.b := by unfold Op06.sec; rw [hs]
      rw [hl]
      by_cases ha : 0 ≤ x.at_ ∧ x.at_ < 20
      · exact ⟨_, (plain_write h ha.1 ha.2 x.b).2⟩
      · rw [plain_out h ha]; exact ⟨L, h.mono⟩
  split
  · exact ⟨L, (plain_flush h).2.mono⟩
  split
  · rename_i h3
    have : x.kind = 2 := by simpa using h3
    omega
  split
  · rename_i h3
    have : x.kind = 3 := by simpa using h3
    omega
  split
  · rename_i h4
    have : x.kind = 4 := by simpa using h4
    omega
  · exact ⟨L, h.mono⟩

/-- What a law of a plain device reads. -/
theorem plain_view {D : Dev} {L : Bytes} {b : Nat} (h : PlainOk D L b) {a : Int} (ha : 0 ≤ a) (hb : a < 20) : (D.read a).1 = (sect (L.getD a.toNat 0), 0) ∧ PlainOk (D.read a).2 L b := by
  have h1 := plain_has h ha hb
  have e : D.read a = (((D.readAt a).2, (D.readAt a).1), D.count) := by unfold Dev.read; rw [h.dead, h1]
  have hv := h.val a.toNat (by omega)
  rw [Int.toNat_of_nonneg ha] at hv
  rw [e]
  exact ⟨by rw [hv], h.count⟩

/-- Two faults by one mask. -/
theorem rots {D : Dev} {L : Bytes} {b : Nat} (h : PlainOk D L b) {a : Int} (ha : 0 ≤ a) (hb : a < 20) (off : Int) (m0 m1 m2 m3 : UInt8) (f : Flt) (hf : f = ⟨1, a, off, 0, 0, m0, m1, m2, m3⟩) :
    ((D.fault f).1 == 0) = (decide (off ≥ 0) && decide (off < 256)) ∧ ((D.fault f).2.fault f).1 = (D.fault f).1 ∧ PlainOk ((D.fault f).2.fault f).2 L b ∧ (D.fault f).2.Ok (b + 1) := by
  subst hf
  have hok := h.ok.fault ⟨1, a, off, 0, 0, m0, m1, m2, m3⟩
  by_cases h0 : 0 ≤ off ∧ off < 256
  · obtain ⟨h1, h2, h3⟩ := rot_twice h ha hb off 0 0 m0 m1 m2 m3 h0
    refine ⟨?_, h2.trans h1.symm, h3 ▸ plain_settle h ha hb, hok⟩
    rw [h1, decide_eq_true (show off ≥ 0 from h0.1), decide_eq_true h0.2]; rfl
  · have e := rot_not h ha hb off 0 0 m0 m1 m2 m3 h0
    rw [e] at hok ⊢
    refine ⟨?_, by show (D.fault _).1 = 1; rw [e], by show PlainOk (D.fault _).2 L b; rw [e]; exact h, hok⟩
    cases h5 : (decide (off ≥ 0) && decide (off < 256)) with
    | false => rfl
    | true => rw [Bool.and_eq_true, decide_eq_true_eq, decide_eq_true_eq] at h5; omega
end Go.Proofs.Ytolefphdldmlkaa.AL
