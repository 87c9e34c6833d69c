/- The law DiskPlain, as plain lists. -/
import Derived.Test.YtolefphdldmlkaaBDq
namespace Go.Proofs.Ytolefphdldmlkaa.AL
open Go Go.Proofs

structure Op06 where
  kind : Int
  at_ : Int
  b : UInt8
  short : Bool
  f : Flt
  keep : List Bool
def Op06.pv (x : Op06) : List PV := [.raw (.int .i64 x.kind), .raw (.int .i64 x.at_), u8 x.b, .raw (.bool x.short), .raw (.int .i64 x.f.kind), .raw (.int .i64 x.f.at_), .raw (.int .i64 x.f.off), .raw (.int .i64 x.f.n), .raw (.int .i64 x.f.to), u8 x.f.m0, u8 x.f.m1, u8 x.f.m2, u8 x.f.m3, .sl 1 (kx x.keep)]
def opx (l : List Op06) : List (List PV) := l.map Op06.pv
theorem opx_len (l : List Op06) : (opx l).length = l.length := by simp [opx]
theorem opx_get {l : List Op06} {i : Nat} {c : Op06} (h : l[i]? = some c) : (opx l)[i]? = some c.pv := by rw [opx, List.getElem?_map, h]; rfl

theorem kept_all (i : Nat) : kept [true] i = true := by unfold kept; simp [Nat.mod_one]

theorem drain_get (W : List Wr) (C : List Cell) (hw : ∀ x ∈ W, 0 ≤ x.at_) (k : Nat) : ∀ i, i ≤ W.length → (crashC W [true] i C)[k]? = match lastW (hitA k) (W.take i) with | some x => (C[k]?).map (fun c => { c with s := x.s, lost := false }) | none => C[k]?
  | 0, _ => rfl
  | i + 1, hi => by
    have ih := drain_get W C hw k i (by omega)
    have hx := List.getElem?_eq_getElem (show i < W.length by omega)
    have h0 := hw _ (List.getElem_mem (show i < W.length by omega))
    generalize W[i] = x at hx h0
    rw [lastW_take _ hx]
    unfold crashC
    rw [kept_all, List.getD_eq_getElem?_getD, hx]
    show (doneL (crashC W [true] i C) x)[k]? = _
    cases hh : hitA (k : Int) x with
    | true =>
      have hk : x.at_ = (k : Int) := by simpa using hh
      have hk : x.at_.toNat = k := by omega
      unfold doneL
      rw [hk]
      cases hc : (crashC W [true] i C)[k]? with
      | none =>
        have : C[k]? = none := by
          rw [List.getElem?_eq_none_iff] at hc ⊢
          rw [crashC_len] at hc; exact hc
        simp only [hc, this]; rfl
      | some c =>
        have hlt := (List.getElem?_eq_some_iff.1 hc).1
        simp only
        rw [List.getElem?_set_self hlt]
        rw [ih] at hc
        cases hl : lastW (hitA (k : Int)) (W.take i) with
        | none => rw [hl] at hc; simp only at hc; rw [hc]; rfl
        | some y =>
          rw [hl] at hc; simp only at hc
          cases hC : C[k]? with
          | none => rw [hC] at hc; cases hc
          | some c0 => rw [hC] at hc; obtain rfl := Option.some.inj hc; rfl
    | false =>
      have hk : ¬ x.at_ = (k : Int) := by simpa using hh
      have hk : ¬ x.at_.toNat = k := by omega
      rw [show (doneL (crashC W [true] i C) x)[k]? = (crashC W [true] i C)[k]? by
        unfold doneL; split
        · rw [List.getElem?_set_ne hk]
        · rfl]
      exact ih

def cellAt : Option Cell → Int × Bytes
  | some c => (match c.lost with | true => (20, []) | false => (0, c.s))
  | none => (20, [])
def readIn (W : List Wr) (C : List Cell) (a : Int) : Int × Bytes := match lastW (hitA a) W with | some x => (0, x.s) | none => cellAt C[a.toNat]?
theorem readAt_eq (D : Dev) (a : Int) : D.readAt a = readIn D.waits D.cells a := by
  unfold Dev.readAt readIn cellAt
  cases lastW (hitA a) D.waits <;> rfl

structure PlainOk (D : Dev) (L : Bytes) (b : Nat) : Prop where
  ok : D.Ok b
  len : D.cells.length = 20
  dead : D.dead = false
  armed : D.armed = false
  pl : ∀ c ∈ D.cells, c.drop = 0 ∧ c.miss = [] ∧ c.lost = false
  ll : L.length = 20
  val : ∀ i : Nat, i < 20 → D.readAt (i : Int) = (0, sect (L.getD i 0))

theorem PlainOk.lives {D : Dev} {L : Bytes} {b : Nat} (h : PlainOk D L b) : PlainOk D.lives L b ∧ D.lives.dead = false := by
  have : D.lives.dead = false := by unfold Dev.lives; rw [h.dead, h.armed]; rfl
  exact ⟨⟨h.ok.lives, h.len, this, h.armed, h.pl, h.ll, h.val⟩, this⟩
theorem PlainOk.count {D : Dev} {L : Bytes} {b : Nat} (h : PlainOk D L b) : PlainOk D.count L b := ⟨h.ok.count, h.len, h.dead, h.armed, h.pl, h.ll, h.val⟩

theorem plain_new : PlainOk (Dev.new 20) (List.replicate 20 0) 0 := by
  refine ⟨ok_new 20 0, List.length_replicate, rfl, rfl, fun c hc => ?_, List.length_replicate, fun i hi => ?_⟩
  · rw [List.eq_of_mem_replicate hc]; exact ⟨rfl, rfl, rfl⟩
  · rw [readAt_eq]
    show cellAt (Dev.new 20).cells[((i : Nat) : Int).toNat]? = _
    rw [show (Dev.new 20).cells[((i : Nat) : Int).toNat]? = some cell1 by
      rw [Int.toNat_natCast]; exact (List.getElem?_replicate).trans (if_pos hi)]
    rw [List.getD_eq_getElem?_getD, List.getElem?_replicate, if_pos hi]; rfl

theorem plain_has {D : Dev} {L : Bytes} {b : Nat} (h : PlainOk D L b) {a : Int} (ha : 0 ≤ a) (hb : a < 20) : D.has a = true := by
  unfold Dev.has; rw [h.len, decide_eq_true (by omega), decide_eq_true (by omega)]; rfl

theorem plain_write {D : Dev} {L : Bytes} {b : Nat} (h : PlainOk D L b) {a : Int} (ha : 0 ≤ a) (hb : a < 20) (v : UInt8) : (D.write a (sect v)).1 = 0 ∧ PlainOk (D.write a (sect v)).2 (L.set a.toNat v) (b + 1) := by
  have h1 := plain_has h ha hb
  obtain ⟨hl, hd⟩ := h.lives
  have e : D.write a (sect v) = (0, D.lives.count.put a (sect v)) := by
    unfold Dev.write; rw [h.dead, h1, show (((sect v).length : Int) != 256) = false by rw [sect_len]; rfl, hd]
  have hk := (h.ok.write a (sect v))
  rw [e] at hk ⊢
  obtain ⟨c, hc, _⟩ := cell_get D h1
  obtain ⟨p1, p2, p3⟩ := h.pl c (List.mem_of_getElem? hc)
  obtain ⟨c1, c2, c3, c4⟩ := c
  simp only at p1 p2 p3
  subst p1 p2 p3
  have ep : D.lives.count.put a (sect v) = { D.lives.count with waits := D.waits ++ [⟨a, sect v⟩] } := put_plain (D := D.lives.count) hc rfl
  rw [ep] at hk ⊢
  refine ⟨rfl, hk, h.len, hd, h.armed, h.pl, by rw [List.length_set]; exact h.ll, fun i hi => ?_⟩
  have hv := h.val i hi
  rw [readAt_eq] at hv ⊢
  show readIn (D.waits ++ [⟨a, sect v⟩]) D.cells i = _
  unfold readIn at hv ⊢
  rw [lastW_snoc]
  by_cases e2 : a = (i : Int)
  · subst e2
    rw [show hitA (i : Int) ⟨(i : Int), sect v⟩ = true by simp]
    rw [List.getD_eq_getElem?_getD, Int.toNat_natCast, List.getElem?_set_self (by rw [h.ll]; exact hi)]; rfl
  · rw [show hitA (i : Int) ⟨a, sect v⟩ = false by simpa using e2]
    rw [List.getD_eq_getElem?_getD, List.getElem?_set_ne (by omega), ← List.getD_eq_getElem?_getD]
    exact hv

theorem plain_flush {D : Dev} {L : Bytes} {b : Nat} (h : PlainOk D L b) : D.flush.1 = 0 ∧ PlainOk D.flush.2 L b := by
  obtain ⟨hl, hd⟩ := h.lives
  have e : D.flush = (0, D.lives.drain [true]) := by unfold Dev.flush; rw [h.dead, hd]
  have hk := h.ok.flush
  rw [e] at hk ⊢
  have hw : ∀ x ∈ D.waits, 0 ≤ x.at_ := fun x hx => (h.ok.at_ x hx).1
  have hg := fun k => drain_get D.waits D.cells hw k D.waits.length (Nat.le_refl _)
  refine ⟨rfl, hk, (crashC_len _ _ _ _).trans h.len, hd, h.armed, fun c hc => ?_, h.ll, fun i hi => ?_⟩
  · obtain ⟨k, hk2⟩ := List.getElem?_of_mem hc
    have hk2 : (crashC D.waits [true] D.waits.length D.cells)[k]? = some c := hk2
    rw [hg k] at hk2
    split at hk2
    · cases hC : D.cells[k]? with
      | none => rw [hC] at hk2; cases hk2
      | some c0 =>
        rw [hC] at hk2
        obtain rfl := Option.some.inj hk2
        have := h.pl c0 (List.mem_of_getElem? hC)
        exact ⟨this.1, this.2.1, rfl⟩
    · exact h.pl c (List.mem_of_getElem? hk2)
  · have hv := h.val i hi
    rw [readAt_eq] at hv ⊢
    show cellAt (crashC D.waits [true] D.waits.length D.cells)[((i : Nat) : Int).toNat]? = _
    unfold readIn at hv
    rw [Int.toNat_natCast] at hv ⊢
    rw [hg i, List.take_length]
    cases hl2 : lastW (hitA (i : Int)) D.waits with
    | some x =>
      rw [hl2] at hv
      rw [List.getElem?_eq_getElem (show i < D.cells.length by rw [h.len]; exact hi)]
      exact hv
    | none => rw [hl2] at hv; exact hv

theorem plain_read {D : Dev} {L : Bytes} {b : Nat} (h : PlainOk D L b) {i : Nat} (hi : i < 20) : D.holds i (L.getD i 0) = true ∧ PlainOk (D.read i).2 L b := by
  have h1 := plain_has h (a := i) (by omega) (by omega)
  have e : D.read i = (((D.readAt i).2, (D.readAt i).1), D.count) := by unfold Dev.read; rw [h.dead, h1]
  refine ⟨?_, by rw [e]; exact h.count⟩
  unfold Dev.holds
  rw [e, h.val i hi]
  show (match (0 : Int) == 0 with | true => sect (L.getD i 0) == sect (L.getD i 0) | false => false) = true
  simp
end Go.Proofs.Ytolefphdldmlkaa.AL
