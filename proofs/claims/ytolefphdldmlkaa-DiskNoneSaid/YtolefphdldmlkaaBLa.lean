/- The abstract layer (second make), part a: values, what they say of the world's memory, and how that is kept. -/
import Derived.WalkKit
import Derived.OrdersIn
import Derived.RangeFuncCalls
import Derived.RangeFuncLeaves
import Derived.RangeFuncRecord
namespace Go.Proofs.Ytolefphdldmlkaa.AL
open Go

inductive PV where
  | raw (v : Value)
  | sl (sz : Nat) (xs : List (List PV))
  | box (cs : List PV)
  deriving Inhabited

inductive AV where
  | p (x : PV)
  | agg (l : List AV)
  | tup (l : List AV)
  | ref (b off : Nat)
  | msl (b sz off len : Nat)
  | elr (b sz i off : Nat)
  | clo (fn : Fn) (caps : List AV)
  | mth (fn : Fn) (first : List AV)
  | yld (b : Nat)
  | mp (b : Nat)
  | top
  deriving Inhabited

/-- A loop over a function: its parameters, what assigns them, its body. -/
structure RecK where
  ps : Array Tmp
  assign : Code
  body : Code
  deriving Inhabited

def RecOk (q : RecK) (st : LoopState) (pe : Option Code) (n : Nat) (r : Loop) : Prop := r.state = st ∧ r.pending = pe ∧ r.params = q.ps ∧ r.assign = q.assign ∧ r.body = q.body ∧ n = r.tmps.size

inductive ABlk where
  | dead
  | cells (t : TypeId) (l : List AV)
  | row (t : TypeId) (sz : Nat) (xs : List (List PV))
  | obj (o : Obj)
  | lp (q : RecK) (st : LoopState) (pe : Option Code) (l : List AV)
  deriving Inhabited

/-- What an immutable value says: I are the blocks that are never written. -/
inductive PRep (w : World) (I : Nat → Prop) : PV → Value → Prop where
  | raw (v : Value) (h1 : v.oneCell' = true) : PRep w I (.raw v) v
  | sl (sz : Nat) (xs : List (List PV)) (A : Option Addr) (c : Nat) (f : Nat → Nat → Value)
      (hc : xs.length ≤ c) (hl : xs.length ≤ 9223372036854775807)
      (hA : xs = [] ∨ ∃ b o, A = some ⟨b, o, none⟩ ∧ I b ∧ ∀ j e, xs[j]? = some e → e.length = sz ∧ ∀ i, i < sz → w.cell? ⟨b, o + j * sz + i, none⟩ = some (f j i))
      (hr : ∀ j e i u, xs[j]? = some e → e[i]? = some u → PRep w I u (f j i)) : PRep w I (.sl sz xs) (.slice A xs.length c)
  | box (cs : List PV) (b o : Nat) (f : Nat → Value) (hI : I b) (hcell : ∀ i, i < cs.length → w.cell? ⟨b, o + i, none⟩ = some (f i))
      (hr : ∀ i u, cs[i]? = some u → PRep w I u (f i)) : PRep w I (.box cs) (.pointer (some ⟨b, o, none⟩))

inductive ARep (w : World) (I : Nat → Prop) (ι : Nat → Option Nat) : AV → Value → Prop where
  | p {x v} (h : PRep w I x v) : ARep w I ι (.p x) v
  | top (v) : ARep w I ι .top v
  | agg (l : List AV) (vs : Array Value) (hn : vs.size = l.length) (h : ∀ i u, l[i]? = some u → ARep w I ι u (vs.getD i undef)) : ARep w I ι (.agg l) (.agg vs)
  | tup (l : List AV) (vs : Array Value) (hn : vs.size = l.length) (h : ∀ i u, l[i]? = some u → ARep w I ι u (vs.getD i undef)) : ARep w I ι (.tup l) (.tuple vs)
  | ref (b off B : Nat) (h : ι b = some B) : ARep w I ι (.ref b off) (.pointer (some ⟨B, off, none⟩))
  | msl (b sz off len B c : Nat) (h : ι b = some B) (hc : len ≤ c) (hs : ∃ cs t fr, w.heap[B]? = some (.cells cs t fr) ∧ (off + c) * sz ≤ cs.size) :
      ARep w I ι (.msl b sz off len) (.slice (some ⟨B, off * sz, none⟩) len c)
  | msl0 (b sz off : Nat) (A : Option Addr) : ARep w I ι (.msl b sz off 0) (.slice A 0 0)
  | elr (b sz i off B : Nat) (h : ι b = some B) : ARep w I ι (.elr b sz i off) (.pointer (some ⟨B, i * sz + off, none⟩))
  | clo (fn : Fn) (caps : List AV) (vs : Array Value) (hn : vs.size = caps.length) (h : ∀ i u, caps[i]? = some u → ARep w I ι u (vs.getD i undef)) :
      ARep w I ι (.clo fn caps) (.func fn #[] vs)
  | mth (fn : Fn) (first : List AV) (vs : Array Value) (hn : vs.size = first.length) (h : ∀ i u, first[i]? = some u → ARep w I ι u (vs.getD i undef)) :
      ARep w I ι (.mth fn first) (.func fn vs #[])
  | yld (b B : Nat) (h : ι b = some B) : ARep w I ι (.yld b) (.func (.yield B) #[] #[])
  | mp (b B : Nat) (h : ι b = some B) : ARep w I ι (.mp b) (.map (some B))

/-- Blocks of cells keep their number of cells. -/
def Shape (w w' : World) : Prop := ∀ (B : Nat) (cs : Array Value) (t : TypeId) (fr : Nat × Nat), w.heap[B]? = some (.cells cs t fr) → ∃ cs' : Array Value, w'.heap[B]? = some (.cells cs' t fr) ∧ cs'.size = cs.size

theorem Shape.refl (w : World) : Shape w w := fun _ cs _ _ h => ⟨cs, h, rfl⟩
theorem Shape.trans {a b c : World} (h : Shape a b) (k : Shape b c) : Shape a c := fun B cs t fr hb => by
  obtain ⟨cs', h1, h2⟩ := h B cs t fr hb
  obtain ⟨cs'', h3, h4⟩ := k B cs' t fr h1
  exact ⟨cs'', h3, h4.trans h2⟩

theorem PRep.one {w : World} {I : Nat → Prop} {x : PV} {v : Value} (h : PRep w I x v) : v.oneCell' = true := by cases h <;> first | assumption | rfl

theorem PRep.move {w w' : World} {I I' : Nat → Prop} (hw : ∀ B, I B → w'.heap[B]? = w.heap[B]?) (hI : ∀ B, I B → I' B) {x : PV} {v : Value} (h : PRep w I x v) : PRep w' I' x v := by
  induction h with
  | raw v h1 => exact .raw v h1
  | sl sz xs A c f hc hl hA _ ih =>
    refine .sl sz xs A c f hc hl ?_ (fun j e i u h1 h2 => ih j e i u h1 h2)
    rcases hA with hA | ⟨b, o, h1, h2, h3⟩
    · exact .inl hA
    · refine .inr ⟨b, o, h1, hI b h2, fun j e hj => ⟨(h3 j e hj).1, fun i hi => ?_⟩⟩
      rw [World.cell?_of_block (w := w) (w' := w') (hw b h2)]
      exact (h3 j e hj).2 i hi
  | box cs b o f hb hcell _ ih =>
    refine .box cs b o f (hI b hb) (fun i hi => ?_) (fun i u hu => ih i u hu)
    rw [World.cell?_of_block (w := w) (w' := w') (hw b hb)]
    exact hcell i hi

theorem ARep.move {w w' : World} {I I' : Nat → Prop} {ι ι' : Nat → Option Nat} (hw : ∀ B, I B → w'.heap[B]? = w.heap[B]?) (hI : ∀ B, I B → I' B) (hι : ∀ b B, ι b = some B → ι' b = some B) (hs : Shape w w')
    {x : AV} {v : Value} (h : ARep w I ι x v) : ARep w' I' ι' x v := by
  induction h with
  | p h => exact .p (h.move hw hI)
  | top v => exact .top v
  | agg l vs hn _ ih => exact .agg l vs hn ih
  | tup l vs hn _ ih => exact .tup l vs hn ih
  | ref b off B h => exact .ref b off B (hι b B h)
  | msl b sz off len B c h hc hs' =>
    refine .msl b sz off len B c (hι b B h) hc ?_
    obtain ⟨cs, t, fr, h1, h2⟩ := hs'
    obtain ⟨cs', h3, h4⟩ := hs B cs t fr h1
    exact ⟨cs', t, fr, h3, by omega⟩
  | msl0 b sz off A => exact .msl0 b sz off A
  | elr b sz i off B h => exact .elr b sz i off B (hι b B h)
  | clo fn caps vs hn _ ih => exact .clo fn caps vs hn ih
  | mth fn first vs hn _ ih => exact .mth fn first vs hn ih
  | yld b B h => exact .yld b B (hι b B h)
  | mp b B h => exact .mp b B (hι b B h)

def _root_.Go.Obj.noCells (o : Obj) : Prop := ∀ cs t fr, o ≠ .cells cs t fr

def ABlk.live : ABlk → Bool | .dead => false | _ => true
def live (H : List ABlk) (b : Nat) : Prop := ∃ k, H[b]? = some k ∧ k.live = true

def BlkOk (w : World) (I : Nat → Prop) (ι : Nat → Option Nat) (b : Nat) : ABlk → Prop
  | .dead => True
  | .cells t l => ∃ B cs, ι b = some B ∧ w.heap[B]? = some (.cells cs t (0, 0)) ∧ ¬ I B ∧ l.length ≤ cs.size ∧ ∀ i u, l[i]? = some u → ARep w I ι u (cs.getD i undef)
  | .row t sz xs => (xs = [] ∧ ι b = none) ∨ ∃ B cs, ι b = some B ∧ w.heap[B]? = some (.cells cs t (0, 0)) ∧ ¬ I B ∧ xs.length * sz ≤ cs.size ∧ xs.length ≤ 140737488355328 ∧
      ∀ j e, xs[j]? = some e → e.length = sz ∧ ∀ i u, e[i]? = some u → PRep w I u (cs.getD (j * sz + i) undef)
  | .obj o => o.noCells ∧ ∃ B, ι b = some B ∧ w.heap[B]? = some o ∧ ¬ I B
  | .lp q st pe l => ∃ B r, ι b = some B ∧ w.heap[B]? = some (.loop r) ∧ ¬ I B ∧ RecOk q st pe l.length r ∧ ∀ i u, l[i]? = some u → ARep w I ι u (r.tmps.getD i undef)

structure SimH (w : World) (I : Nat → Prop) (ι : Nat → Option Nat) (H : List ABlk) : Prop where
  blk : ∀ b k, H[b]? = some k → BlkOk w I ι b k
  inj : ∀ b b' B, live H b → live H b' → ι b = some B → ι b' = some B → b = b'
  Ilt : ∀ B, I B → B < w.heap.size
  dom : ∀ b, H.length ≤ b → ι b = none
  rng : ∀ b B, ι b = some B → B < w.heap.size

/-- How a configuration has come from an elder one. -/
structure Ext (w0 : World) (I0 : Nat → Prop) (ι0 : Nat → Option Nat) (H0 : List ABlk) (w : World) (I : Nat → Prop) (ι : Nat → Option Nat) (H : List ABlk) : Prop where
  os : w.os = w0.os
  tape : w.tape = w0.tape
  output : w.output = w0.output
  size : w0.heap.size ≤ w.heap.size
  shape : Shape w0 w
  Isub : ∀ B, I0 B → I B
  frame : ∀ B, B < w0.heap.size → ¬ (∃ b, live H0 b ∧ ι0 b = some B) → w.heap[B]? = w0.heap[B]?
  Inew : ∀ B, I B → I0 B ∨ w0.heap.size ≤ B ∨ ∃ b, live H0 b ∧ ι0 b = some B
  own : ∀ b B, live H b → ι b = some B → w0.heap.size ≤ B ∨ ∃ b0, live H0 b0 ∧ ι0 b0 = some B

theorem Ext.refl (w : World) (I : Nat → Prop) (ι : Nat → Option Nat) (H : List ABlk) : Ext w I ι H w I ι H :=
  ⟨rfl, rfl, rfl, Nat.le_refl _, Shape.refl w, fun _ h => h, fun _ _ _ => rfl, fun _ h => .inl h, fun b _ hb h => .inr ⟨b, hb, h⟩⟩

theorem Ext.trans {w0 w1 w2 : World} {I0 I1 I2 : Nat → Prop} {ι0 ι1 ι2 : Nat → Option Nat} {H0 H1 H2 : List ABlk}
    (h : Ext w0 I0 ι0 H0 w1 I1 ι1 H1) (k : Ext w1 I1 ι1 H1 w2 I2 ι2 H2) : Ext w0 I0 ι0 H0 w2 I2 ι2 H2 where
  os := k.os.trans h.os
  tape := k.tape.trans h.tape
  output := k.output.trans h.output
  size := Nat.le_trans h.size k.size
  shape := h.shape.trans k.shape
  Isub := fun B hB => k.Isub B (h.Isub B hB)
  frame := fun B hB hn => by
    have hs := h.size
    rw [k.frame B (by omega) ?_]
    · exact h.frame B hB hn
    · rintro ⟨b, hb, hι⟩
      rcases h.own b B hb hι with h1 | h1
      · omega
      · exact hn h1
  Inew := fun B hB => by
    have hs := h.size
    rcases k.Inew B hB with h1 | h1 | ⟨b, hb, hι⟩
    · exact h.Inew B h1
    · exact .inr (.inl (by omega))
    · rcases h.own b B hb hι with h2 | h2
      · exact .inr (.inl h2)
      · exact .inr (.inr h2)
  own := fun b B hb hι => by
    have hs := h.size
    rcases k.own b B hb hι with h1 | ⟨b1, hb1, hι1⟩
    · exact .inl (by omega)
    · exact h.own b1 B hb1 hι1

/-- The blocks that may not be written while one reads: what is immutable is none of the live ones. -/
theorem SimH.notI {w : World} {I : Nat → Prop} {ι : Nat → Option Nat} {H : List ABlk} (h : SimH w I ι H) {b B : Nat} (hb : live H b) (hι : ι b = some B) : ¬ I B := by
  obtain ⟨k, hk, hl⟩ := hb
  have hB := h.blk b k hk
  cases k with
  | dead => simp [ABlk.live] at hl
  | cells t l =>
    obtain ⟨B', cs, h1, _, h3, _⟩ := hB
    rw [hι] at h1; obtain rfl := Option.some.inj h1; exact h3
  | lp q st pe l =>
    obtain ⟨B', cs, h1, _, h3, _⟩ := hB
    rw [hι] at h1; obtain rfl := Option.some.inj h1; exact h3
  | row t sz xs =>
    rcases hB with ⟨_, h1⟩ | ⟨B', cs, h1, _, h3, _⟩
    · rw [hι] at h1; exact absurd h1 (by simp)
    · rw [hι] at h1; obtain rfl := Option.some.inj h1; exact h3
  | obj o =>
    obtain ⟨_, B', h1, _, h3⟩ := hB
    rw [hι] at h1; obtain rfl := Option.some.inj h1; exact h3

theorem Ext.keepsI {w0 w : World} {I0 I : Nat → Prop} {ι0 ι : Nat → Option Nat} {H0 H : List ABlk} (s : SimH w0 I0 ι0 H0) (h : Ext w0 I0 ι0 H0 w I ι H) : ∀ B, I0 B → w.heap[B]? = w0.heap[B]? :=
  fun B hB => h.frame B (s.Ilt B hB) (fun ⟨_, hb, hι⟩ => s.notI hb hι hB)

/-- A call of a round's end that an activation still owes: the block for it lies untouched. -/
def Mark (N : Nat) (w : World) (I : Nat → Prop) (ι : Nat → Option Nat) (H : List ABlk) (d : Deferred) : Prop :=
  ∃ D, d = { target := .collected D, args := #[] } ∧ N ≤ D ∧ w.heap[D]? = some (.deferred (some [])) ∧ ¬ I D ∧ ∀ b, live H b → ι b ≠ some D

theorem Mark.move {N : Nat} {w0 w : World} {I0 I : Nat → Prop} {ι0 ι : Nat → Option Nat} {H0 H : List ABlk} {d : Deferred} (h : Ext w0 I0 ι0 H0 w I ι H) (k : Mark N w0 I0 ι0 H0 d) : Mark N w I ι H d := by
  obtain ⟨D, rfl, hN, hh, hI, hl⟩ := k
  have hlt : D < w0.heap.size := (Array.getElem?_eq_some_iff.1 hh).1
  refine ⟨D, rfl, hN, ?_, fun hI' => ?_, fun b hb hι => ?_⟩
  · rw [h.frame D hlt (fun ⟨b, hb, hι⟩ => hl b hb hι)]; exact hh
  · rcases h.Inew D hI' with h1 | h1 | ⟨b, hb, hι⟩
    · exact hI h1
    · omega
    · exact hl b hb hι
  · rcases h.own b D hb hι with h1 | ⟨b0, hb0, hι0⟩
    · omega
    · exact hl b0 hb0 hι0

end Go.Proofs.Ytolefphdldmlkaa.AL
