/- The law DiskCrashes. -/
import Derived.Test.YtolefphdldmlkaaBDy
namespace Go.Proofs.Ytolefphdldmlkaa.AL
open Go Go.Proofs

/-- Neither armed nor dead. -/
structure Quiet (D : Dev) (b : Nat) : Prop where
  ok : D.Ok b
  len : D.cells.length = 20
  dead : D.dead = false
  armed : D.armed = false
theorem Quiet.lives {D : Dev} {b : Nat} (h : Quiet D b) : Quiet D.lives b := ⟨h.ok.lives, h.len, by unfold Dev.lives; rw [h.dead, h.armed]; rfl, h.armed⟩
theorem Quiet.mono {D : Dev} {b : Nat} (h : Quiet D b) : Quiet D (b + 1) := ⟨h.ok.mono (Nat.le_succ _), h.len, h.dead, h.armed⟩
theorem Quiet.flush {D : Dev} {b : Nat} (h : Quiet D b) : D.flush = (0, D.lives.drain [true]) ∧ Quiet D.flush.2 b := by
  have e : D.flush = (0, D.lives.drain [true]) := by unfold Dev.flush; rw [h.dead, h.lives.dead]
  refine ⟨e, ?_⟩
  have := h.ok.flush
  rw [e] at this ⊢
  exact ⟨this, (crashC_len _ _ _ _).trans h.len, h.lives.dead, h.armed⟩
theorem put_len (D : Dev) (a : Int) (s : Bytes) : (D.put a s).cells.length = D.cells.length ∧ (D.put a s).dead = D.dead ∧ (D.put a s).armed = D.armed := by
  unfold Dev.put
  split
  · exact ⟨rfl, rfl, rfl⟩
  split
  · exact ⟨List.length_set .., rfl, rfl⟩
  split
  · exact ⟨rfl, rfl, rfl⟩
  · exact ⟨List.length_set .., rfl, rfl⟩
theorem Quiet.write {D : Dev} {b : Nat} (h : Quiet D b) (a : Int) (s : Bytes) : Quiet (D.write a s).2 (b + 1) := by
  have hk := h.ok.write a s
  cases h1 : D.has a with
  | false =>
    have e : D.write a s = (3, D) := by unfold Dev.write; rw [h.dead, h1]
    rw [e]; exact h.mono
  | true => cases h2 : ((s.length : Int) != 256) with
    | true =>
      have e : D.write a s = (1, D) := by unfold Dev.write; rw [h.dead, h1, h2]
      rw [e]; exact h.mono
    | false =>
      have e : D.write a s = (0, D.lives.count.put a s) := by unfold Dev.write; rw [h.dead, h1, h2, h.lives.dead]
      rw [e] at hk ⊢
      have hp := put_len D.lives.count a s
      exact ⟨hk, hp.1.trans h.len, hp.2.1.trans h.lives.dead, hp.2.2.trans h.armed⟩
theorem Quiet.fault {D : Dev} {b : Nat} (h : Quiet D b) (f : Flt) : Quiet (D.fault f).2 (b + 1) := by
  have hk := h.ok.fault f
  refine ⟨hk, ?_, ?_, ?_⟩ <;> unfold Dev.fault <;> split <;> try first | exact h.len | exact h.dead | exact h.armed
  · unfold Dev.hurt
    have hs : (D.settle f.at_).cells.length = 20 := (settleC_len _ _ _).trans h.len
    repeat' split
    all_goals first | exact (List.length_modify ..).trans hs | exact (List.length_modify ..).trans h.len
  · unfold Dev.hurt
    repeat' split
    all_goals exact h.dead
  · unfold Dev.hurt
    repeat' split
    all_goals exact h.armed
theorem Quiet.does {D : Dev} {b : Nat} (h : Quiet D b) (x : Op06) (hx : x.kind < 3) : Quiet (D.does x).2 (b + 1) := by
  unfold Dev.does
  split
  · exact h.write _ _
  split
  · exact h.flush.2.mono
  split
  · exact h.fault _
  split
  · rename_i h3
    have : x.kind = 3 := by simpa using h3
    omega
  split
  · rename_i h4
    have : x.kind = 4 := by simpa using h4
    omega
  · exact h.mono

/-- A device whose cells are so, and of which nothing waits. -/
structure View (D : Dev) (C : List Cell) (b : Nat) : Prop where
  ok : D.Ok b
  cells : D.cells = C
  waits : D.waits = []
  dead : D.dead = false
theorem View.read {D : Dev} {C : List Cell} {b : Nat} (h : View D C b) (a : Int) : View (D.read a).2 C b := by
  refine ⟨h.ok.read a, ?_, ?_, ?_⟩ <;> unfold Dev.read <;> repeat' split
  all_goals first | exact h.cells | exact h.waits | exact h.dead
theorem View.same {D E : Dev} {C : List Cell} {b : Nat} (h : View D C b) (k : View E C b) (a : Int) : (D.read a).1 = (E.read a).1 := by
  have e1 : D.has a = E.has a := by unfold Dev.has; rw [h.cells, k.cells]
  have e2 : D.readAt a = E.readAt a := by rw [readAt_eq, readAt_eq, h.cells, h.waits, k.cells, k.waits]
  unfold Dev.read
  rw [h.dead, k.dead, e1, e2]
  split
  · rfl
  · rename_i hh; cases hh
    split <;> rfl

theorem Quiet.view {D : Dev} {b : Nat} (h : Quiet D b) (keep : List Bool) : View (D.crashed keep) (crashC D.waits keep D.waits.length D.cells) b := ⟨h.ok.crashed keep, rfl, rfl, rfl⟩
theorem Quiet.viewF {D : Dev} {b : Nat} (h : Quiet D b) : View D.flush.2 (crashC D.waits [true] D.waits.length D.cells) b := by
  obtain ⟨e, k⟩ := h.flush
  have hk := k.ok
  rw [e] at hk ⊢
  exact ⟨hk, rfl, rfl, h.lives.dead⟩
theorem View.again {D : Dev} {C : List Cell} {b : Nat} (h : View D C b) (keep : List Bool) : View (D.crashed keep) C b := by
  refine ⟨h.ok.crashed keep, ?_, rfl, rfl⟩
  show crashC D.waits keep D.waits.length D.cells = C
  rw [h.waits, h.cells]; rfl
end Go.Proofs.Ytolefphdldmlkaa.AL
