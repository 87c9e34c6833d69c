/- The abstract layer (second make), part c: a new block, and a block that is written. -/
import Derived.Test.YtolefphdldmlkaaBLb
import Derived.Deep.MidRow
namespace Go.Proofs.Ytolefphdldmlkaa.AL
open Go Go.RowKit

def upd (ι : Nat → Option Nat) (b : Nat) (B : Nat) : Nat → Option Nat := fun x => if x = b then some B else ι x

theorem live_lt {H : List ABlk} {b : Nat} (h : live H b) : b < H.length := by
  obtain ⟨k, hk, _⟩ := h
  exact (List.getElem?_eq_some_iff.1 hk).1

theorem live_append {H : List ABlk} {b : Nat} {k : ABlk} (h : live (H ++ [k]) b) : live H b ∨ b = H.length := by
  obtain ⟨k', hk, hl⟩ := h
  rcases Nat.lt_or_ge b H.length with hb | hb
  · rw [List.getElem?_append_left hb] at hk
    exact .inl ⟨k', hk, hl⟩
  · have := (List.getElem?_eq_some_iff.1 hk).1
    simp only [List.length_append, List.length_cons, List.length_nil] at this
    exact .inr (by omega)

theorem getElem?_append_len {α : Type} (l : List α) (x : α) : (l ++ [x])[l.length]? = some x := by simp

/-- The world has one more block; what was there is as it was. -/
structure Grew (w w' : World) (o : Obj) : Prop where
  os : w'.os = w.os
  tape : w'.tape = w.tape
  output : w'.output = w.output
  size : w'.heap.size = w.heap.size + 1
  old : ∀ k, k < w.heap.size → w'.heap[k]? = w.heap[k]?
  new : w'.heap[w.heap.size]? = some o

theorem grew_alloc (w : World) (o : Obj) : Grew w (w.alloc o) o :=
  ⟨rfl, rfl, rfl, by show (w.heap.push o).size = _; simp, fun k hk => Below.heap_alloc w o k hk, heap_alloc_new w o⟩
theorem grew_drew_alloc (w : World) (o : Obj) : Grew w (w.drew.alloc o) o :=
  ⟨rfl, rfl, rfl, by show (w.heap.push o).size = _; simp, fun k hk => Below.heap_alloc w.drew o k hk, heap_alloc_new w.drew o⟩

theorem Grew.shape {w w' : World} {o : Obj} (g : Grew w w' o) : Shape w w' := fun B cs t fr h => by
  have hlt : B < w.heap.size := (Array.getElem?_eq_some_iff.1 h).1
  exact ⟨cs, by rw [g.old B hlt]; exact h, rfl⟩

/-- A new block comes to the list's end. -/
theorem Grew.sim {w w' : World} {I : Nat → Prop} {ι : Nat → Option Nat} {H : List ABlk} {o : Obj} (g : Grew w w' o) (hs : SimH w I ι H) (k : ABlk)
    (hk : BlkOk w' I (upd ι H.length w.heap.size) H.length k) :
    SimH w' I (upd ι H.length w.heap.size) (H ++ [k]) ∧ Ex H.length w I ι H w' I (upd ι H.length w.heap.size) (H ++ [k]) := by
  have hI : ∀ B, I B → w'.heap[B]? = w.heap[B]? := fun B hB => g.old B (hs.Ilt B hB)
  have hι : ∀ b B, ι b = some B → upd ι H.length w.heap.size b = some B := fun b B hb => by
    have hlt : b < H.length := by
      rcases Nat.lt_or_ge b H.length with h | h
      · exact h
      · rw [hs.dom b h] at hb; exact absurd hb (by simp)
    unfold upd; rw [if_neg (by omega)]; exact hb
  have hnew : upd ι H.length w.heap.size H.length = some w.heap.size := by simp [upd]
  have hold : ∀ b, b < H.length → upd ι H.length w.heap.size b = ι b := fun b hb => by unfold upd; rw [if_neg (by omega)]
  constructor
  · refine ⟨?_, ?_, ?_, ?_, ?_⟩
    · intro b kb hb
      rcases Nat.lt_or_ge b H.length with hlt | hge
      · rw [List.getElem?_append_left hlt] at hb
        have h0 := hs.blk b kb hb
        cases kb with
        | dead => trivial
        | cells t l =>
          obtain ⟨B, cs, h1, h2, h3, h4, h5⟩ := h0
          exact ⟨B, cs, hι b B h1, by rw [g.old B (hs.rng b B h1)]; exact h2, h3, h4, fun i u hu => (h5 i u hu).move hI (fun _ h => h) hι g.shape⟩
        | lp q st pe l =>
          obtain ⟨B, cs, h1, h2, h3, h4, h5⟩ := h0
          exact ⟨B, cs, hι b B h1, by rw [g.old B (hs.rng b B h1)]; exact h2, h3, h4, fun i u hu => (h5 i u hu).move hI (fun _ h => h) hι g.shape⟩
        | row t sz xs =>
          rcases h0 with ⟨h1, h2⟩ | ⟨B, cs, h1, h2, h3, h4, h5, h6⟩
          · exact .inl ⟨h1, by rw [hold b hlt]; exact h2⟩
          · exact .inr ⟨B, cs, hι b B h1, by rw [g.old B (hs.rng b B h1)]; exact h2, h3, h4, h5, fun j e hj => ⟨(h6 j e hj).1, fun i u hu => ((h6 j e hj).2 i u hu).move hI (fun _ h => h)⟩⟩
        | obj o =>
          obtain ⟨h0', B, h1, h2, h3⟩ := h0
          exact ⟨h0', B, hι b B h1, by rw [g.old B (hs.rng b B h1)]; exact h2, h3⟩
      · have : b = H.length := by
          have := (List.getElem?_eq_some_iff.1 hb).1
          simp only [List.length_append, List.length_cons, List.length_nil] at this
          omega
        subst this
        rw [getElem?_append_len] at hb
        obtain rfl := Option.some.inj hb
        exact hk
    · intro b b' B hb hb' h1 h2
      rcases live_append hb with hb | rfl <;> rcases live_append hb' with hb' | rfl
      · rw [hold b (live_lt hb)] at h1; rw [hold b' (live_lt hb')] at h2; exact hs.inj b b' B hb hb' h1 h2
      · rw [hold b (live_lt hb)] at h1; rw [hnew] at h2
        have := hs.rng b B h1
        obtain rfl := Option.some.inj h2; omega
      · rw [hold b' (live_lt hb')] at h2; rw [hnew] at h1
        have := hs.rng b' B h2
        obtain rfl := Option.some.inj h1; omega
      · rfl
    · intro B hB; have := hs.Ilt B hB; have := g.size; omega
    · intro b hb
      simp only [List.length_append, List.length_cons, List.length_nil] at hb
      unfold upd; rw [if_neg (by omega)]; exact hs.dom b (by omega)
    · intro b B hb
      have hsz := g.size
      unfold upd at hb
      split at hb
      · obtain rfl := Option.some.inj hb; omega
      · have := hs.rng b B hb; omega
  · refine ⟨⟨g.os, g.tape, g.output, by have := g.size; omega, g.shape, fun _ h => h, fun B hB _ => g.old B hB, fun B hB => .inl hB, ?_⟩, fun b hb => hold b hb, by simp⟩
    intro b B hb h1
    rcases live_append hb with hb | rfl
    · rw [hold b (live_lt hb)] at h1; exact .inr ⟨b, hb, h1⟩
    · rw [hnew] at h1; obtain rfl := Option.some.inj h1; exact .inl (Nat.le_refl _)

/-- One block has been written. -/
structure Wrote (w w' : World) (B : Nat) : Prop where
  os : w'.os = w.os
  tape : w'.tape = w.tape
  output : w'.output = w.output
  size : w'.heap.size = w.heap.size
  old : ∀ k, k ≠ B → w'.heap[k]? = w.heap[k]?

theorem live_set {H : List ABlk} {b c : Nat} {k : ABlk} (h : live (H.set c k) b) (hc : live H c) : live H b := by
  by_cases e : b = c
  · subst e; exact hc
  · obtain ⟨k', hk, hl⟩ := h
    rw [List.getElem?_set_ne (by omega)] at hk
    exact ⟨k', hk, hl⟩

theorem Wrote.simS {w w' : World} {I : Nat → Prop} {ι : Nat → Option Nat} {H : List ABlk} {b B : Nat} (g : Wrote w w' B) (hs : SimH w I ι H) (hb : live H b) (hι : ι b = some B)
    (hsh : Shape w w') (k : ABlk) (hk : BlkOk w' I ι b k) :
    SimH w' I ι (H.set b k) ∧ Ex H.length w I ι H w' I ι (H.set b k) := by
  have hnI : ¬ I B := hs.notI hb hι
  have hI : ∀ C, I C → w'.heap[C]? = w.heap[C]? := fun C hC => g.old C (fun e => hnI (e ▸ hC))
  constructor
  · refine ⟨?_, ?_, ?_, ?_, ?_⟩
    · intro c kc hc
      by_cases e : c = b
      · subst e
        rw [List.getElem?_set_self (live_lt hb)] at hc
        obtain rfl := Option.some.inj hc
        exact hk
      · rw [List.getElem?_set_ne (by omega)] at hc
        have h2 := hs.blk c kc hc
        cases kc with
        | dead => trivial
        | cells t l =>
          obtain ⟨C, ds, g1, g2, g3, g4, g5⟩ := h2
          have hne : C ≠ B := fun e' => e (hs.inj c b B ⟨_, hc, rfl⟩ hb (e' ▸ g1) hι)
          exact ⟨C, ds, g1, by rw [g.old C hne]; exact g2, g3, g4, fun i u hu => (g5 i u hu).move hI (fun _ h => h) (fun _ _ h => h) hsh⟩
        | lp q st pe l =>
          obtain ⟨C, ds, g1, g2, g3, g4, g5⟩ := h2
          have hne : C ≠ B := fun e' => e (hs.inj c b B ⟨_, hc, rfl⟩ hb (e' ▸ g1) hι)
          exact ⟨C, ds, g1, by rw [g.old C hne]; exact g2, g3, g4, fun i u hu => (g5 i u hu).move hI (fun _ h => h) (fun _ _ h => h) hsh⟩
        | row t sz xs =>
          rcases h2 with g0 | ⟨C, ds, g1, g2, g3, g4, g5, g6⟩
          · exact .inl g0
          · have hne : C ≠ B := fun e' => e (hs.inj c b B ⟨_, hc, rfl⟩ hb (e' ▸ g1) hι)
            exact .inr ⟨C, ds, g1, by rw [g.old C hne]; exact g2, g3, g4, g5, fun j e hj => ⟨(g6 j e hj).1, fun i u hu => ((g6 j e hj).2 i u hu).move hI (fun _ h => h)⟩⟩
        | obj o =>
          obtain ⟨g0, C, g1, g2, g3⟩ := h2
          have hne : C ≠ B := fun e' => e (hs.inj c b B ⟨_, hc, rfl⟩ hb (e' ▸ g1) hι)
          exact ⟨g0, C, g1, by rw [g.old C hne]; exact g2, g3⟩
    · intro c c' C hc hc' h2 h3
      exact hs.inj c c' C (live_set hc hb) (live_set hc' hb) h2 h3
    · intro C hC; rw [g.size]; exact hs.Ilt C hC
    · intro c hc; exact hs.dom c (by simpa using hc)
    · intro c C hc; rw [g.size]; exact hs.rng c C hc
  · refine ⟨⟨g.os, g.tape, g.output, by rw [g.size]; exact Nat.le_refl _, hsh, fun _ h => h, fun C hC hn => g.old C (fun e => hn ⟨b, hb, e ▸ hι⟩), fun C hC => .inl hC, ?_⟩, fun _ _ => rfl, by simp⟩
    intro c C hc h2
    exact .inr ⟨c, live_set hc hb, h2⟩

theorem Wrote.sim {w w' : World} {I : Nat → Prop} {ι : Nat → Option Nat} {H : List ABlk} {b B : Nat} {t : TypeId} {cs cs' : Array Value} (g : Wrote w w' B) (hs : SimH w I ι H) (hb : live H b) (hι : ι b = some B)
    (h0 : w.heap[B]? = some (.cells cs t (0, 0))) (h1 : w'.heap[B]? = some (.cells cs' t (0, 0))) (hsz : cs'.size = cs.size) (k : ABlk) (hk : BlkOk w' I ι b k) :
    SimH w' I ι (H.set b k) ∧ Ex H.length w I ι H w' I ι (H.set b k) :=
  g.simS hs hb hι (fun C cs0 t0 fr h => by
    by_cases e : C = B
    · subst e
      rw [h0] at h
      injection h with h; injection h with h1' h2' h3'
      subst h1' h2' h3'
      exact ⟨cs', h1, hsz⟩
    · exact ⟨cs0, by rw [g.old C e]; exact h, rfl⟩) k hk

/-- An object that is no cells has become another one. -/
theorem Wrote.simO {w w' : World} {I : Nat → Prop} {ι : Nat → Option Nat} {H : List ABlk} {b B : Nat} {o : Obj} (g : Wrote w w' B) (hs : SimH w I ι H) (hb : live H b) (hι : ι b = some B)
    (h0 : w.heap[B]? = some o) (hno : o.noCells) (k : ABlk) (hk : BlkOk w' I ι b k) :
    SimH w' I ι (H.set b k) ∧ Ex H.length w I ι H w' I ι (H.set b k) :=
  g.simS hs hb hι (fun C cs0 t0 fr h => by
    by_cases e : C = B
    · subst e
      rw [h0] at h
      exact absurd (Option.some.inj h) (hno cs0 t0 fr)
    · exact ⟨cs0, by rw [g.old C e]; exact h, rfl⟩) k hk

theorem wrote_setCells (w : World) (B : Nat) : ∀ (vs : List Value) (o : Nat), Wrote w (w.setCells B o vs) B
  | [], _ => ⟨rfl, rfl, rfl, rfl, fun _ _ => rfl⟩
  | v :: r, o => by
    have h := wrote_setCells (w.setCell ⟨B, o, none⟩ v) B r (o + 1)
    refine ⟨h.os, h.tape, h.output, h.size.trans (by simp [World.setCell]), fun k hk => (h.old k hk).trans ?_⟩
    exact Below.heap_setCell w ⟨B, o, none⟩ v k hk

theorem wrote_setRow (w : World) (B : Nat) (cs : Array Value) : Wrote w (w.setRow B cs) B :=
  ⟨rfl, rfl, rfl, by simp, fun k hk => setRow_other w B k cs hk⟩

/-- Cells o.. of a list are others. -/
def setL {α : Type} (l : List α) (o : Nat) (vs : List α) : List α := l.take o ++ vs ++ l.drop (o + vs.length)
theorem setL_length {α : Type} {l : List α} {o : Nat} {vs : List α} (h : o + vs.length ≤ l.length) : (setL l o vs).length = l.length := by
  simp only [setL, List.length_append, List.length_take, List.length_drop]; omega
theorem setL_get {α : Type} {l : List α} {o : Nat} {vs : List α} (h : o + vs.length ≤ l.length) (i : Nat) :
    (setL l o vs)[i]? = if o ≤ i ∧ i < o + vs.length then vs[i - o]? else l[i]? := by
  unfold setL
  by_cases h1 : i < o
  · rw [if_neg (by omega), List.append_assoc, List.getElem?_append_left (by rw [List.length_take]; omega), List.getElem?_take_of_lt h1]
  · by_cases h2 : i < o + vs.length
    · rw [if_pos ⟨by omega, h2⟩, List.append_assoc, List.getElem?_append_right (by rw [List.length_take]; omega), List.getElem?_append_left (by rw [List.length_take]; omega), List.length_take]
      congr 1; omega
    · rw [if_neg (by omega), List.getElem?_append_right (by rw [List.length_append, List.length_take]; omega), List.getElem?_drop, List.length_append, List.length_take]
      congr 1; omega

theorem heap_setCells (w : World) (B : Nat) (t : TypeId) : ∀ (vs : List Value) (o : Nat) (cs : Array Value), w.heap[B]? = some (.cells cs t (0, 0)) → o + vs.length ≤ cs.size →
    (w.setCells B o vs).heap[B]? = some (.cells (setL cs.toList o vs).toArray t (0, 0)) := by
  intro vs
  induction vs generalizing w with
  | nil => intro o cs h _; rw [World.setCells, h]; simp [setL]
  | cons v r ih =>
    intro o cs h hl
    simp only [List.length_cons] at hl
    have h1 := heap_setCell_same w B o cs t v h
    have := ih (w.setCell ⟨B, o, none⟩ v) (o + 1) (cs.setIfInBounds o v) h1 (by simp; omega)
    rw [World.setCells, this]
    congr 2
    apply congrArg
    apply List.ext_getElem?
    intro i
    have e1 : (setL (cs.setIfInBounds o v).toList (o + 1) r)[i]? = _ := setL_get (by simp; omega) i
    have e2 : (setL cs.toList o (v :: r))[i]? = _ := setL_get (by simp; omega) i
    rw [e1, e2]
    simp only [List.length_cons, Array.toList_setIfInBounds]
    by_cases c1 : i = o
    · subst c1
      rw [if_neg (by omega), if_pos (by omega), List.getElem?_set_self (by simp; omega)]
      simp
    · by_cases c2 : o + 1 ≤ i ∧ i < o + 1 + r.length
      · rw [if_pos c2, if_pos (by omega)]
        obtain ⟨j, rfl⟩ : ∃ j, i = o + 1 + j := ⟨i - (o + 1), by omega⟩
        rw [show o + 1 + j - o = j + 1 by omega, show o + 1 + j - (o + 1) = j by omega, List.getElem?_cons_succ]
      · rw [if_neg c2, if_neg (by omega), List.getElem?_set_ne (by omega)]

end Go.Proofs.Ytolefphdldmlkaa.AL
