/- A part of the proof. -/
import Derived.WalkKit
import Derived.OrdersIn
import Derived.RangeFuncCalls
import Derived.RangeFuncLeaves
import Derived.RangeFuncRecord
import Derived.Deep.MidRow
/- The abstract layer (second make), part a: values, what they say of the world's memory, and how that is kept. -/
namespace Go.Proofs.YtinfbclgkghgaaaGreat.AL
open Go

inductive PV where
  | raw (v : Value)
  | sl (sz : Nat) (xs : List (List PV))
  | box (cs : List PV)
  deriving Inhabited

inductive AV where
  | p (x : PV)
  | agg (l : List AV)
  | tup (l : List AV)
  | ref (b off : Nat)
  | msl (b sz off len : Nat)
  | elr (b sz i off : Nat)
  | clo (fn : Fn) (caps : List AV)
  | mth (fn : Fn) (first : List AV)
  | yld (b : Nat)
  | mp (b : Nat)
  | top
  deriving Inhabited

/-- A loop over a function: its parameters, what assigns them, its body. -/
structure RecK where
  ps : Array Tmp
  assign : Code
  body : Code
  deriving Inhabited

def RecOk (q : RecK) (st : LoopState) (pe : Option Code) (n : Nat) (r : Loop) : Prop := r.state = st ∧ r.pending = pe ∧ r.params = q.ps ∧ r.assign = q.assign ∧ r.body = q.body ∧ n = r.tmps.size

inductive ABlk where
  | dead
  | cells (t : TypeId) (l : List AV)
  | row (t : TypeId) (sz : Nat) (xs : List (List PV))
  | obj (o : Obj)
  | lp (q : RecK) (st : LoopState) (pe : Option Code) (l : List AV)
  deriving Inhabited

/-- What an immutable value says: I are the blocks that are never written. -/
inductive PRep (w : World) (I : Nat → Prop) : PV → Value → Prop where
  | raw (v : Value) (h1 : v.oneCell' = true) : PRep w I (.raw v) v
  | sl (sz : Nat) (xs : List (List PV)) (A : Option Addr) (c : Nat) (f : Nat → Nat → Value)
      (hc : xs.length ≤ c) (hl : xs.length ≤ 9223372036854775807)
      (hA : xs = [] ∨ ∃ b o, A = some ⟨b, o, none⟩ ∧ I b ∧ ∀ j e, xs[j]? = some e → e.length = sz ∧ ∀ i, i < sz → w.cell? ⟨b, o + j * sz + i, none⟩ = some (f j i))
      (hr : ∀ j e i u, xs[j]? = some e → e[i]? = some u → PRep w I u (f j i)) : PRep w I (.sl sz xs) (.slice A xs.length c)
  | box (cs : List PV) (b o : Nat) (f : Nat → Value) (hI : I b) (hcell : ∀ i, i < cs.length → w.cell? ⟨b, o + i, none⟩ = some (f i))
      (hr : ∀ i u, cs[i]? = some u → PRep w I u (f i)) : PRep w I (.box cs) (.pointer (some ⟨b, o, none⟩))

inductive ARep (w : World) (I : Nat → Prop) (ι : Nat → Option Nat) : AV → Value → Prop where
  | p {x v} (h : PRep w I x v) : ARep w I ι (.p x) v
  | top (v) : ARep w I ι .top v
  | agg (l : List AV) (vs : Array Value) (hn : vs.size = l.length) (h : ∀ i u, l[i]? = some u → ARep w I ι u (vs.getD i undef)) : ARep w I ι (.agg l) (.agg vs)
  | tup (l : List AV) (vs : Array Value) (hn : vs.size = l.length) (h : ∀ i u, l[i]? = some u → ARep w I ι u (vs.getD i undef)) : ARep w I ι (.tup l) (.tuple vs)
  | ref (b off B : Nat) (h : ι b = some B) : ARep w I ι (.ref b off) (.pointer (some ⟨B, off, none⟩))
  | msl (b sz off len B c : Nat) (h : ι b = some B) (hc : len ≤ c) (hs : ∃ cs t fr, w.heap[B]? = some (.cells cs t fr) ∧ (off + c) * sz ≤ cs.size) :
      ARep w I ι (.msl b sz off len) (.slice (some ⟨B, off * sz, none⟩) len c)
  | msl0 (b sz off : Nat) (A : Option Addr) : ARep w I ι (.msl b sz off 0) (.slice A 0 0)
  | elr (b sz i off B : Nat) (h : ι b = some B) : ARep w I ι (.elr b sz i off) (.pointer (some ⟨B, i * sz + off, none⟩))
  | clo (fn : Fn) (caps : List AV) (vs : Array Value) (hn : vs.size = caps.length) (h : ∀ i u, caps[i]? = some u → ARep w I ι u (vs.getD i undef)) :
      ARep w I ι (.clo fn caps) (.func fn #[] vs)
  | mth (fn : Fn) (first : List AV) (vs : Array Value) (hn : vs.size = first.length) (h : ∀ i u, first[i]? = some u → ARep w I ι u (vs.getD i undef)) :
      ARep w I ι (.mth fn first) (.func fn vs #[])
  | yld (b B : Nat) (h : ι b = some B) : ARep w I ι (.yld b) (.func (.yield B) #[] #[])
  | mp (b B : Nat) (h : ι b = some B) : ARep w I ι (.mp b) (.map (some B))

/-- Blocks of cells keep their number of cells. -/
def Shape (w w' : World) : Prop := ∀ (B : Nat) (cs : Array Value) (t : TypeId) (fr : Nat × Nat), w.heap[B]? = some (.cells cs t fr) → ∃ cs' : Array Value, w'.heap[B]? = some (.cells cs' t fr) ∧ cs'.size = cs.size

theorem Shape.refl (w : World) : Shape w w := fun _ cs _ _ h => ⟨cs, h, rfl⟩
theorem Shape.trans {a b c : World} (h : Shape a b) (k : Shape b c) : Shape a c := fun B cs t fr hb => by
  obtain ⟨cs', h1, h2⟩ := h B cs t fr hb
  obtain ⟨cs'', h3, h4⟩ := k B cs' t fr h1
  exact ⟨cs'', h3, h4.trans h2⟩

theorem PRep.one {w : World} {I : Nat → Prop} {x : PV} {v : Value} (h : PRep w I x v) : v.oneCell' = true := by cases h <;> first | assumption | rfl

theorem PRep.move {w w' : World} {I I' : Nat → Prop} (hw : ∀ B, I B → w'.heap[B]? = w.heap[B]?) (hI : ∀ B, I B → I' B) {x : PV} {v : Value} (h : PRep w I x v) : PRep w' I' x v := by
  induction h with
  | raw v h1 => exact .raw v h1
  | sl sz xs A c f hc hl hA _ ih =>
    refine .sl sz xs A c f hc hl ?_ (fun j e i u h1 h2 => ih j e i u h1 h2)
    rcases hA with hA | ⟨b, o, h1, h2, h3⟩
    · exact .inl hA
    · refine .inr ⟨b, o, h1, hI b h2, fun j e hj => ⟨(h3 j e hj).1, fun i hi => ?_⟩⟩
      rw [World.cell?_of_block (w := w) (w' := w') (hw b h2)]
      exact (h3 j e hj).2 i hi
  | box cs b o f hb hcell _ ih =>
    refine .box cs b o f (hI b hb) (fun i hi => ?_) (fun i u hu => ih i u hu)
    rw [World.cell?_of_block (w := w) (w' := w') (hw b hb)]
    exact hcell i hi

theorem ARep.move {w w' : World} {I I' : Nat → Prop} {ι ι' : Nat → Option Nat} (hw : ∀ B, I B → w'.heap[B]? = w.heap[B]?) (hI : ∀ B, I B → I' B) (hι : ∀ b B, ι b = some B → ι' b = some B) (hs : Shape w w')
    {x : AV} {v : Value} (h : ARep w I ι x v) : ARep w' I' ι' x v := by
  induction h with
  | p h => exact .p (h.move hw hI)
  | top v => exact .top v
  | agg l vs hn _ ih => exact .agg l vs hn ih
  | tup l vs hn _ ih => exact .tup l vs hn ih
  | ref b off B h => exact .ref b off B (hι b B h)
  | msl b sz off len B c h hc hs' =>
    refine .msl b sz off len B c (hι b B h) hc ?_
    obtain ⟨cs, t, fr, h1, h2⟩ := hs'
    obtain ⟨cs', h3, h4⟩ := hs B cs t fr h1
    exact ⟨cs', t, fr, h3, by omega⟩
  | msl0 b sz off A => exact .msl0 b sz off A
  | elr b sz i off B h => exact .elr b sz i off B (hι b B h)
  | clo fn caps vs hn _ ih => exact .clo fn caps vs hn ih
  | mth fn first vs hn _ ih => exact .mth fn first vs hn ih
  | yld b B h => exact .yld b B (hι b B h)
  | mp b B h => exact .mp b B (hι b B h)

def _root_.Go.Obj.noCells (o : Obj) : Prop := ∀ cs t fr, o ≠ .cells cs t fr

def ABlk.live : ABlk → Bool | .dead => false | _ => true
def live (H : List ABlk) (b : Nat) : Prop := ∃ k, H[b]? = some k ∧ k.live = true

def BlkOk (w : World) (I : Nat → Prop) (ι : Nat → Option Nat) (b : Nat) : ABlk → Prop
  | .dead => True
  | .cells t l => ∃ B cs, ι b = some B ∧ w.heap[B]? = some (.cells cs t (0, 0)) ∧ ¬ I B ∧ l.length ≤ cs.size ∧ ∀ i u, l[i]? = some u → ARep w I ι u (cs.getD i undef)
  | .row t sz xs => (xs = [] ∧ ι b = none) ∨ ∃ B cs, ι b = some B ∧ w.heap[B]? = some (.cells cs t (0, 0)) ∧ ¬ I B ∧ xs.length * sz ≤ cs.size ∧ xs.length ≤ 140737488355328 ∧
      ∀ j e, xs[j]? = some e → e.length = sz ∧ ∀ i u, e[i]? = some u → PRep w I u (cs.getD (j * sz + i) undef)
  | .obj o => o.noCells ∧ ∃ B, ι b = some B ∧ w.heap[B]? = some o ∧ ¬ I B
  | .lp q st pe l => ∃ B r, ι b = some B ∧ w.heap[B]? = some (.loop r) ∧ ¬ I B ∧ RecOk q st pe l.length r ∧ ∀ i u, l[i]? = some u → ARep w I ι u (r.tmps.getD i undef)

structure SimH (w : World) (I : Nat → Prop) (ι : Nat → Option Nat) (H : List ABlk) : Prop where
  blk : ∀ b k, H[b]? = some k → BlkOk w I ι b k
  inj : ∀ b b' B, live H b → live H b' → ι b = some B → ι b' = some B → b = b'
  Ilt : ∀ B, I B → B < w.heap.size
  dom : ∀ b, H.length ≤ b → ι b = none
  rng : ∀ b B, ι b = some B → B < w.heap.size

/-- How a configuration has come from an elder one. -/
structure Ext (w0 : World) (I0 : Nat → Prop) (ι0 : Nat → Option Nat) (H0 : List ABlk) (w : World) (I : Nat → Prop) (ι : Nat → Option Nat) (H : List ABlk) : Prop where
  os : w.os = w0.os
  tape : w.tape = w0.tape
  output : w.output = w0.output
  size : w0.heap.size ≤ w.heap.size
  shape : Shape w0 w
  Isub : ∀ B, I0 B → I B
  frame : ∀ B, B < w0.heap.size → ¬ (∃ b, live H0 b ∧ ι0 b = some B) → w.heap[B]? = w0.heap[B]?
  Inew : ∀ B, I B → I0 B ∨ w0.heap.size ≤ B ∨ ∃ b, live H0 b ∧ ι0 b = some B
  own : ∀ b B, live H b → ι b = some B → w0.heap.size ≤ B ∨ ∃ b0, live H0 b0 ∧ ι0 b0 = some B

theorem Ext.refl (w : World) (I : Nat → Prop) (ι : Nat → Option Nat) (H : List ABlk) : Ext w I ι H w I ι H :=
  ⟨rfl, rfl, rfl, Nat.le_refl _, Shape.refl w, fun _ h => h, fun _ _ _ => rfl, fun _ h => .inl h, fun b _ hb h => .inr ⟨b, hb, h⟩⟩

theorem Ext.trans {w0 w1 w2 : World} {I0 I1 I2 : Nat → Prop} {ι0 ι1 ι2 : Nat → Option Nat} {H0 H1 H2 : List ABlk}
    (h : Ext w0 I0 ι0 H0 w1 I1 ι1 H1) (k : Ext w1 I1 ι1 H1 w2 I2 ι2 H2) : Ext w0 I0 ι0 H0 w2 I2 ι2 H2 where
  os := k.os.trans h.os
  tape := k.tape.trans h.tape
  output := k.output.trans h.output
  size := Nat.le_trans h.size k.size
  shape := h.shape.trans k.shape
  Isub := fun B hB => k.Isub B (h.Isub B hB)
  frame := fun B hB hn => by
    have hs := h.size
    rw [k.frame B (by omega) ?_]
    · exact h.frame B hB hn
    · rintro ⟨b, hb, hι⟩
      rcases h.own b B hb hι with h1 | h1
      · omega
      · exact hn h1
  Inew := fun B hB => by
    have hs := h.size
    rcases k.Inew B hB with h1 | h1 | ⟨b, hb, hι⟩
    · exact h.Inew B h1
    · exact .inr (.inl (by omega))
    · rcases h.own b B hb hι with h2 | h2
      · exact .inr (.inl h2)
      · exact .inr (.inr h2)
  own := fun b B hb hι => by
    have hs := h.size
    rcases k.own b B hb hι with h1 | ⟨b1, hb1, hι1⟩
    · exact .inl (by omega)
    · exact h.own b1 B hb1 hι1

/-- The blocks that may not be written while one reads: what is immutable is none of the live ones. -/
theorem SimH.notI {w : World} {I : Nat → Prop} {ι : Nat → Option Nat} {H : List ABlk} (h : SimH w I ι H) {b B : Nat} (hb : live H b) (hι : ι b = some B) : ¬ I B := by
  obtain ⟨k, hk, hl⟩ := hb
  have hB := h.blk b k hk
  cases k with
  | dead => simp [ABlk.live] at hl
  | cells t l =>
    obtain ⟨B', cs, h1, _, h3, _⟩ := hB
    rw [hι] at h1; obtain rfl := Option.some.inj h1; exact h3
  | lp q st pe l =>
    obtain ⟨B', cs, h1, _, h3, _⟩ := hB
    rw [hι] at h1; obtain rfl := Option.some.inj h1; exact h3
  | row t sz xs =>
    rcases hB with ⟨_, h1⟩ | ⟨B', cs, h1, _, h3, _⟩
    · rw [hι] at h1; exact absurd h1 (by simp)
    · rw [hι] at h1; obtain rfl := Option.some.inj h1; exact h3
  | obj o =>
    obtain ⟨_, B', h1, _, h3⟩ := hB
    rw [hι] at h1; obtain rfl := Option.some.inj h1; exact h3

theorem Ext.keepsI {w0 w : World} {I0 I : Nat → Prop} {ι0 ι : Nat → Option Nat} {H0 H : List ABlk} (s : SimH w0 I0 ι0 H0) (h : Ext w0 I0 ι0 H0 w I ι H) : ∀ B, I0 B → w.heap[B]? = w0.heap[B]? :=
  fun B hB => h.frame B (s.Ilt B hB) (fun ⟨_, hb, hι⟩ => s.notI hb hι hB)

/-- A call of a round's end that an activation still owes: the block for it lies untouched. -/
def Mark (N : Nat) (w : World) (I : Nat → Prop) (ι : Nat → Option Nat) (H : List ABlk) (d : Deferred) : Prop :=
  ∃ D, d = { target := .collected D, args := #[] } ∧ N ≤ D ∧ w.heap[D]? = some (.deferred (some [])) ∧ ¬ I D ∧ ∀ b, live H b → ι b ≠ some D

theorem Mark.move {N : Nat} {w0 w : World} {I0 I : Nat → Prop} {ι0 ι : Nat → Option Nat} {H0 H : List ABlk} {d : Deferred} (h : Ext w0 I0 ι0 H0 w I ι H) (k : Mark N w0 I0 ι0 H0 d) : Mark N w I ι H d := by
  obtain ⟨D, rfl, hN, hh, hI, hl⟩ := k
  have hlt : D < w0.heap.size := (Array.getElem?_eq_some_iff.1 hh).1
  refine ⟨D, rfl, hN, ?_, fun hI' => ?_, fun b hb hι => ?_⟩
  · rw [h.frame D hlt (fun ⟨b, hb, hι⟩ => hl b hb hι)]; exact hh
  · rcases h.Inew D hI' with h1 | h1 | ⟨b, hb, hι⟩
    · exact hI h1
    · omega
    · exact hl b hb hι
  · rcases h.own b D hb hι with h1 | ⟨b0, hb0, hι0⟩
    · omega
    · exact hl b0 hb0 hι0

end Go.Proofs.YtinfbclgkghgaaaGreat.AL

/- The abstract layer (second make), part b: what a call and a piece of code do, by abstract states; the rules of the code's forms. -/
namespace Go.Proofs.YtinfbclgkghgaaaGreat.AL
open Go

/-- A frame: how many slots, and what is known of some; what stands further ahead counts. -/
structure Fr where
  n : Nat
  l : List (Nat × AV)

structure St where
  fr : Fr
  H : List ABlk

def look : List (Nat × AV) → Nat → Option AV
  | [], _ => none
  | (k, u) :: r, t => match Nat.beq k t with
    | true => some u
    | false => look r t

theorem look_self (k : Nat) (u : AV) (r : List (Nat × AV)) : look ((k, u) :: r) k = some u := by simp [look]
theorem look_other {k t : Nat} (u : AV) (r : List (Nat × AV)) (h : k ≠ t) : look ((k, u) :: r) t = look r t := by
  have : Nat.beq k t = false := by
    cases e : Nat.beq k t with
    | false => rfl
    | true => exact absurd (Nat.eq_of_beq_eq_true e) h
  simp [look, this]

def FrOk (w : World) (I : Nat → Prop) (ι : Nat → Option Nat) (fr : Fr) (tmps : Array Value) : Prop :=
  tmps.size = fr.n ∧ ∀ t u, look fr.l t = some u → ARep w I ι u (tmps.getD t undef)

/-- N: where the heap ended when the activation began; ro: the loop in whose round it is. -/
structure Sim (N : Nat) (w : World) (I : Nat → Prop) (ι : Nat → Option Nat) (s : St) (a : Act) : Prop where
  fr : FrOk w I ι s.fr a.tmps
  H : SimH w I ι s.H
  hN : N ≤ w.heap.size
  d : ∀ d ∈ a.defers, Mark N w I ι s.H d
  nd : a.defers.Pairwise (fun x y => x.target ≠ y.target)

def fen : Option Nat → Fence
  | none => Fence.wide
  | some l => Fence.wide.inRound l
theorem fen_fn (ro : Option Nat) (f : FuncId) : (fen ro).fn f := by cases ro <;> exact trivial
theorem fen_depth (ro : Option Nat) : (fen ro).depth = none := by cases ro <;> rfl
/-- m: the first blocks came in; their places stay. -/
structure Ex (m : Nat) (w0 : World) (I0 : Nat → Prop) (ι0 : Nat → Option Nat) (H0 : List ABlk) (w : World) (I : Nat → Prop) (ι : Nat → Option Nat) (H : List ABlk) : Prop where
  ext : Ext w0 I0 ι0 H0 w I ι H
  keep : ∀ b, b < m → ι b = ι0 b
  len : m ≤ H.length

theorem Ex.refl {m : Nat} {w : World} {I : Nat → Prop} {ι : Nat → Option Nat} {H : List ABlk} (h : m ≤ H.length) : Ex m w I ι H w I ι H := ⟨Ext.refl _ _ _ _, fun _ _ => rfl, h⟩
theorem Ex.trans {m : Nat} {w0 w1 w2 : World} {I0 I1 I2 : Nat → Prop} {ι0 ι1 ι2 : Nat → Option Nat} {H0 H1 H2 : List ABlk}
    (h : Ex m w0 I0 ι0 H0 w1 I1 ι1 H1) (k : Ex m w1 I1 ι1 H1 w2 I2 ι2 H2) : Ex m w0 I0 ι0 H0 w2 I2 ι2 H2 :=
  ⟨h.ext.trans k.ext, fun b hb => (k.keep b hb).trans (h.keep b hb), k.len⟩
theorem Ex.less {m k : Nat} {w0 w : World} {I0 I : Nat → Prop} {ι0 ι : Nat → Option Nat} {H0 H : List ABlk} (h : Ex m w0 I0 ι0 H0 w I ι H) (hk : k ≤ m) : Ex k w0 I0 ι0 H0 w I ι H :=
  ⟨h.ext, fun b hb => h.keep b (by omega), Nat.le_trans hk h.len⟩

/-- What a call of function f at abstract arguments and blocks comes to. -/
def AF (P : Program) (f : FuncId) (args : List AV) (H : List ABlk) (R : AV → List ABlk → Prop) : Prop :=
  (∃ fn, P.funcs[f]? = some fn ∧ fn.body.isNone = false ∧ (fn.name == "runtime.NumGoroutine") = false) ∧
  ∀ (w : World) (I : Nat → Prop) (ι : Nat → Option Nat) (vals : Array Value), vals.size = args.length → (∀ i u, args[i]? = some u → ARep w I ι u (vals.getD i undef)) → SimH w I ι H →
    Calls P f vals w (fun e w' => ∃ v r H' I' ι', e = .returned v ∧ R r H' ∧ ARep w' I' ι' r v ∧ SimH w' I' ι' H' ∧ Ex H.length w I ι H w' I' ι' H')

theorem AF.mono {P : Program} {f : FuncId} {args : List AV} {H : List ABlk} {R R' : AV → List ABlk → Prop} (h : AF P f args H R) (hR : ∀ r H', R r H' → R' r H') : AF P f args H R' :=
  ⟨h.1, fun w I ι vals hn ha hs => (h.2 w I ι vals hn ha hs).mono fun _ _ ⟨v, r, H', I', ι', e, hr, k⟩ => ⟨v, r, H', I', ι', e, hR _ _ hr, k⟩⟩

/-- What a call of yield comes to: the round of the loop whose record block b is. -/
def AY (P : Program) (b : Nat) (args : List AV) (H : List ABlk) (R : AV → List ABlk → Prop) : Prop :=
  ∀ (w : World) (I : Nat → Prop) (ι : Nat → Option Nat) (vals : Array Value) (B : Nat), vals.size = args.length → (∀ i u, args[i]? = some u → ARep w I ι u (vals.getD i undef)) → SimH w I ι H → ι b = some B →
    ∃ fn tmps assign body, (Instr.yield B vals).run P w = .ok (.round B fn tmps assign body) w ∧
      RoundIn Fence.wide 0 P B fn tmps assign body w (fun e w' => ∃ v r H' I' ι', e = .returned v ∧ R r H' ∧ ARep w' I' ι' r v ∧ SimH w' I' ι' H' ∧ Ex H.length w I ι H w' I' ι' H')

theorem AY.mono {P : Program} {b : Nat} {args : List AV} {H : List ABlk} {R R' : AV → List ABlk → Prop} (h : AY P b args H R) (hR : ∀ r H', R r H' → R' r H') : AY P b args H R' :=
  fun w I ι vals B hn ha hs hb => let ⟨fn, tmps, assign, body, h1, h2⟩ := h w I ι vals B hn ha hs hb
    ⟨fn, tmps, assign, body, h1, h2.mono fun _ _ ⟨v, r, H', I', ι', e, hr, k⟩ => ⟨v, r, H', I', ι', e, hR _ _ hr, k⟩⟩

def After (N m : Nat) (w : World) (I : Nat → Prop) (ι : Nat → Option Nat) (H : List ABlk) (Q : Exit → St → Prop) : Exit → Act → World → Prop :=
  fun e a' w' => ∃ s' I' ι', Q e s' ∧ Sim N w' I' ι' s' a' ∧ Ex m w I ι H w' I' ι' s'.H

/-- What a piece of code does, from an abstract state on. -/
def AW (P : Program) (ro : Option Nat) (m : Nat) (c : Code) (s : St) (Q : Exit → St → Prop) : Prop :=
  ∀ (N : Nat) (w : World) (I : Nat → Prop) (ι : Nat → Option Nat) (a : Act), Sim N w I ι s a → m ≤ s.H.length → c.wpIn (fen ro) 0 P (After N m w I ι s.H Q) a w

section
variable {P : Program} {ro : Option Nat} {m : Nat} {s : St} {Q : Exit → St → Prop}

theorem AW.mono {c : Code} {Q' : Exit → St → Prop} (h : AW P ro m c s Q) (hq : ∀ e s, Q e s → Q' e s) : AW P ro m c s Q' :=
  fun N w I ι a hs hm => wpIn_mono (h N w I ι a hs hm) fun _ _ _ ⟨s', I', ι', q, r⟩ => ⟨s', I', ι', hq _ _ q, r⟩

def thenA (N : St → Prop) (Q : Exit → St → Prop) : Exit → St → Prop
  | .normal, s => N s
  | e, s => Q e s

theorem After.step {N : Nat} {w : World} {I : Nat → Prop} {ι : Nat → Option Nat} {H : List ABlk} {w1 : World} {I1 : Nat → Prop} {ι1 : Nat → Option Nat} {H1 : List ABlk} (hx : Ex m w I ι H w1 I1 ι1 H1) {Q : Exit → St → Prop}
    {e : Exit} {a' : Act} {w' : World} (h : After N m w1 I1 ι1 H1 Q e a' w') : After N m w I ι H Q e a' w' := by
  obtain ⟨s', I', ι', q, hs, k⟩ := h
  exact ⟨s', I', ι', q, hs, hx.trans k⟩

theorem aw_seq {x y : Code} (h : AW P ro m x s (thenA (fun s' => AW P ro m y s' Q) Q)) : AW P ro m (.seq x y) s Q := fun N w I ι a hs hm => by
  refine wpIn_seq (wpIn_mono (h N w I ι a hs hm) ?_)
  rintro e a1 w1 ⟨s1, I1, ι1, q, hs1, hx⟩
  cases e with
  | normal => exact wpIn_mono (q N w1 I1 ι1 a1 hs1 hx.len) fun _ _ _ hh => hh.step hx
  | _ => exact ⟨s1, I1, ι1, q, hs1, hx⟩

theorem aw_skip (h : Q .normal s) : AW P ro m .skip s Q := fun _ _ I ι _ hs hm => wpIn_skip ⟨s, I, ι, h, hs, Ex.refl hm⟩
theorem aw_exit {id : Nat} (h : Q (.exit id) s) : AW P ro m (.exit id) s Q := fun _ _ I ι _ hs hm => wpIn_exit ⟨s, I, ι, h, hs, Ex.refl hm⟩
theorem aw_ret (h : Q .ret s) : AW P ro m .ret s Q := fun _ _ I ι _ hs hm => wpIn_ret ⟨s, I, ι, h, hs, Ex.refl hm⟩

def inBlockA (id : Nat) (Q : Exit → St → Prop) : Exit → St → Prop
  | .exit id', s => if id' = id then Q .normal s else Q (.exit id') s
  | e, s => Q e s

theorem aw_block {id : Nat} {c : Code} (h : AW P ro m c s (inBlockA id Q)) : AW P ro m (.block id c) s Q := fun N w I ι a hs hm => by
  refine wpIn_block (wpIn_mono (h N w I ι a hs hm) ?_)
  rintro e a1 w1 ⟨s1, I1, ι1, q, hs1, hx⟩
  cases e with
  | exit id' =>
    simp only [inBlockA] at q
    simp only [Exit.inBlock]
    split at q
    · rename_i he; rw [if_pos he]; exact ⟨s1, I1, ι1, q, hs1, hx⟩
    · rename_i he; rw [if_neg he]; exact ⟨s1, I1, ι1, q, hs1, hx⟩
  | _ => exact ⟨s1, I1, ι1, q, hs1, hx⟩

def evX (fr : Fr) : Operand → Option AV
  | .tmp t => look fr.l t
  | .const v => match v.oneCell' with | true => some (.p (.raw v)) | false => some .top
  | .func f => some (.clo (.func f) [])
  | .global _ => none
def evalA (fr : Fr) (x : Operand) : AV := (evX fr x).getD .top

theorem const_ok {w : World} {I : Nat → Prop} {ι : Nat → Option Nat} (v : Value) : ARep w I ι ((match v.oneCell' with | true => some (AV.p (.raw v)) | false => some AV.top).getD AV.top) v := by
  split
  · rename_i h1; exact .p (.raw v h1)
  · exact .top v

theorem evalA_ok {w : World} {I : Nat → Prop} {ι : Nat → Option Nat} {fr : Fr} {a : Act} (h : FrOk w I ι fr a.tmps) (x : Operand) : ARep w I ι (evalA fr x) (a.eval x) := by
  cases x with
  | tmp t =>
    show ARep w I ι ((look fr.l t).getD .top) (a.tmps.getD t undef)
    cases hf : look fr.l t with
    | none => exact .top _
    | some u => exact h.2 t u hf
  | const v => exact const_ok v
  | global g => exact .top _
  | func f => exact .clo (.func f) [] #[] rfl (fun i u h => by simp at h)

/-- A test. -/
def boolK (b : Bool) (t f : Prop) : Prop := match b with | true => t | false => f
theorem boolI {b : Bool} {t f : Prop} (ht : b = true → t) (hf : b = false → f) : boolK b t f := by
  cases b
  · exact hf rfl
  · exact ht rfl

def condA (x : Option AV) (K : Bool → Prop) : Prop :=
  match x with
  | some (.p (.raw (.bool b))) => boolK b (K true) (K false)
  | _ => False

theorem aw_cond {c : Operand} {x y : Code} (h : condA (evX s.fr c) (fun b => match b with | true => AW P ro m x s Q | false => AW P ro m y s Q)) : AW P ro m (.cond c x y) s Q := fun N w I ι a hs hm => by
  have he := evalA_ok hs.fr c
  unfold evalA at he
  generalize hx : evX s.fr c = z at he h
  unfold condA at h
  split at h
  · rename_i b
    replace he : ARep w I ι (.p (.raw (.bool b))) (a.eval c) := he
    cases he with
    | p hp =>
      generalize hv : a.eval c = v at hp
      cases hp
      refine wpIn_cond hv ?_
      cases b
      · exact h N w I ι a hs hm
      · exact h N w I ι a hs hm
  · exact h.elim

theorem exists_least {p : Nat → Prop} (h : ∃ n, p n) : ∃ n, p n ∧ ∀ k, p k → n ≤ k := by
  obtain ⟨n, hn⟩ := h
  induction n using Nat.strongRecOn with
  | _ n ih =>
    by_cases hk : ∃ k, k < n ∧ p k
    · obtain ⟨k, hk1, hk2⟩ := hk
      exact ih k hk1 hk2
    · exact ⟨n, hn, fun k hpk => Nat.le_of_not_lt fun hlt => hk ⟨k, hlt, hpk⟩⟩

theorem aw_loop {c : Code} (Inv : Nat → St → Prop) (n : Nat) (h0 : Inv n s)
    (round : ∀ n s, Inv n s → AW P ro m c s (thenA (fun s' => ∃ k, k < n ∧ Inv k s') Q)) : AW P ro m (.loop c) s Q := fun N w I ι a hs hm => by
  classical
  let J : Nat → Act → World → Prop := fun n a1 w1 => ∃ s1 I1 ι1, Inv n s1 ∧ Sim N w1 I1 ι1 s1 a1 ∧ Ex m w I ι s.H w1 I1 ι1 s1.H
  refine wpIn_loop (fun a1 w1 => ∃ n, J n a1 w1) (fun a1 w1 => if h : ∃ n, J n a1 w1 then (exists_least h).choose else 0) ⟨n, s, I, ι, h0, hs, Ex.refl hm⟩ ?_
  intro a1 w1 hJ
  obtain ⟨s1, I1, ι1, hI, hs1, hx⟩ := (exists_least hJ).choose_spec.1
  refine wpIn_mono (round _ s1 hI N w1 I1 ι1 a1 hs1 hx.len) ?_
  rintro e a2 w2 ⟨s2, I2, ι2, q, hs2, hx2⟩
  cases e with
  | normal =>
    obtain ⟨k, hk, hI2⟩ := q
    have hJ2 : J k a2 w2 := ⟨s2, I2, ι2, hI2, hs2, hx.trans hx2⟩
    refine ⟨⟨k, hJ2⟩, ?_⟩
    show (if h : ∃ n, J n a2 w2 then (exists_least h).choose else 0) < (if h : ∃ n, J n a1 w1 then (exists_least h).choose else 0)
    rw [dif_pos ⟨k, hJ2⟩, dif_pos hJ]
    exact Nat.lt_of_le_of_lt ((exists_least (p := fun n => J n a2 w2) ⟨k, hJ2⟩).choose_spec.2 k hJ2) hk
  | _ => exact ⟨s2, I2, ι2, q, hs2, hx.trans hx2⟩

end
end Go.Proofs.YtinfbclgkghgaaaGreat.AL

/- The abstract layer (second make), part c: a new block, and a block that is written. -/
namespace Go.Proofs.YtinfbclgkghgaaaGreat.AL
open Go Go.RowKit

def upd (ι : Nat → Option Nat) (b : Nat) (B : Nat) : Nat → Option Nat := fun x => if x = b then some B else ι x

theorem live_lt {H : List ABlk} {b : Nat} (h : live H b) : b < H.length := by
  obtain ⟨k, hk, _⟩ := h
  exact (List.getElem?_eq_some_iff.1 hk).1

theorem live_append {H : List ABlk} {b : Nat} {k : ABlk} (h : live (H ++ [k]) b) : live H b ∨ b = H.length := by
  obtain ⟨k', hk, hl⟩ := h
  rcases Nat.lt_or_ge b H.length with hb | hb
  · rw [List.getElem?_append_left hb] at hk
    exact .inl ⟨k', hk, hl⟩
  · have := (List.getElem?_eq_some_iff.1 hk).1
    simp only [List.length_append, List.length_cons, List.length_nil] at this
    exact .inr (by omega)

theorem getElem?_append_len {α : Type} (l : List α) (x : α) : (l ++ [x])[l.length]? = some x := by simp

/-- The world has one more block; what was there is as it was. -/
structure Grew (w w' : World) (o : Obj) : Prop where
  os : w'.os = w.os
  tape : w'.tape = w.tape
  output : w'.output = w.output
  size : w'.heap.size = w.heap.size + 1
  old : ∀ k, k < w.heap.size → w'.heap[k]? = w.heap[k]?
  new : w'.heap[w.heap.size]? = some o

theorem grew_alloc (w : World) (o : Obj) : Grew w (w.alloc o) o :=
  ⟨rfl, rfl, rfl, by show (w.heap.push o).size = _; simp, fun k hk => Below.heap_alloc w o k hk, heap_alloc_new w o⟩
theorem grew_drew_alloc (w : World) (o : Obj) : Grew w (w.drew.alloc o) o :=
  ⟨rfl, rfl, rfl, by show (w.heap.push o).size = _; simp, fun k hk => Below.heap_alloc w.drew o k hk, heap_alloc_new w.drew o⟩

theorem Grew.shape {w w' : World} {o : Obj} (g : Grew w w' o) : Shape w w' := fun B cs t fr h => by
  have hlt : B < w.heap.size := (Array.getElem?_eq_some_iff.1 h).1
  exact ⟨cs, by rw [g.old B hlt]; exact h, rfl⟩

/-- A new block comes to the list's end. -/
theorem Grew.sim {w w' : World} {I : Nat → Prop} {ι : Nat → Option Nat} {H : List ABlk} {o : Obj} (g : Grew w w' o) (hs : SimH w I ι H) (k : ABlk)
    (hk : BlkOk w' I (upd ι H.length w.heap.size) H.length k) :
    SimH w' I (upd ι H.length w.heap.size) (H ++ [k]) ∧ Ex H.length w I ι H w' I (upd ι H.length w.heap.size) (H ++ [k]) := by
  have hI : ∀ B, I B → w'.heap[B]? = w.heap[B]? := fun B hB => g.old B (hs.Ilt B hB)
  have hι : ∀ b B, ι b = some B → upd ι H.length w.heap.size b = some B := fun b B hb => by
    have hlt : b < H.length := by
      rcases Nat.lt_or_ge b H.length with h | h
      · exact h
      · rw [hs.dom b h] at hb; exact absurd hb (by simp)
    unfold upd; rw [if_neg (by omega)]; exact hb
  have hnew : upd ι H.length w.heap.size H.length = some w.heap.size := by simp [upd]
  have hold : ∀ b, b < H.length → upd ι H.length w.heap.size b = ι b := fun b hb => by unfold upd; rw [if_neg (by omega)]
  constructor
  · refine ⟨?_, ?_, ?_, ?_, ?_⟩
    · intro b kb hb
      rcases Nat.lt_or_ge b H.length with hlt | hge
      · rw [List.getElem?_append_left hlt] at hb
        have h0 := hs.blk b kb hb
        cases kb with
        | dead => trivial
        | cells t l =>
          obtain ⟨B, cs, h1, h2, h3, h4, h5⟩ := h0
          exact ⟨B, cs, hι b B h1, by rw [g.old B (hs.rng b B h1)]; exact h2, h3, h4, fun i u hu => (h5 i u hu).move hI (fun _ h => h) hι g.shape⟩
        | lp q st pe l =>
          obtain ⟨B, cs, h1, h2, h3, h4, h5⟩ := h0
          exact ⟨B, cs, hι b B h1, by rw [g.old B (hs.rng b B h1)]; exact h2, h3, h4, fun i u hu => (h5 i u hu).move hI (fun _ h => h) hι g.shape⟩
        | row t sz xs =>
          rcases h0 with ⟨h1, h2⟩ | ⟨B, cs, h1, h2, h3, h4, h5, h6⟩
          · exact .inl ⟨h1, by rw [hold b hlt]; exact h2⟩
          · exact .inr ⟨B, cs, hι b B h1, by rw [g.old B (hs.rng b B h1)]; exact h2, h3, h4, h5, fun j e hj => ⟨(h6 j e hj).1, fun i u hu => ((h6 j e hj).2 i u hu).move hI (fun _ h => h)⟩⟩
        | obj o =>
          obtain ⟨h0', B, h1, h2, h3⟩ := h0
          exact ⟨h0', B, hι b B h1, by rw [g.old B (hs.rng b B h1)]; exact h2, h3⟩
      · have : b = H.length := by
          have := (List.getElem?_eq_some_iff.1 hb).1
          simp only [List.length_append, List.length_cons, List.length_nil] at this
          omega
        subst this
        rw [getElem?_append_len] at hb
        obtain rfl := Option.some.inj hb
        exact hk
    · intro b b' B hb hb' h1 h2
      rcases live_append hb with hb | rfl <;> rcases live_append hb' with hb' | rfl
      · rw [hold b (live_lt hb)] at h1; rw [hold b' (live_lt hb')] at h2; exact hs.inj b b' B hb hb' h1 h2
      · rw [hold b (live_lt hb)] at h1; rw [hnew] at h2
        have := hs.rng b B h1
        obtain rfl := Option.some.inj h2; omega
      · rw [hold b' (live_lt hb')] at h2; rw [hnew] at h1
        have := hs.rng b' B h2
        obtain rfl := Option.some.inj h1; omega
      · rfl
    · intro B hB; have := hs.Ilt B hB; have := g.size; omega
    · intro b hb
      simp only [List.length_append, List.length_cons, List.length_nil] at hb
      unfold upd; rw [if_neg (by omega)]; exact hs.dom b (by omega)
    · intro b B hb
      have hsz := g.size
      unfold upd at hb
      split at hb
      · obtain rfl := Option.some.inj hb; omega
      · have := hs.rng b B hb; omega
  · refine ⟨⟨g.os, g.tape, g.output, by have := g.size; omega, g.shape, fun _ h => h, fun B hB _ => g.old B hB, fun B hB => .inl hB, ?_⟩, fun b hb => hold b hb, by simp⟩
    intro b B hb h1
    rcases live_append hb with hb | rfl
    · rw [hold b (live_lt hb)] at h1; exact .inr ⟨b, hb, h1⟩
    · rw [hnew] at h1; obtain rfl := Option.some.inj h1; exact .inl (Nat.le_refl _)

/-- One block has been written. -/
structure Wrote (w w' : World) (B : Nat) : Prop where
  os : w'.os = w.os
  tape : w'.tape = w.tape
  output : w'.output = w.output
  size : w'.heap.size = w.heap.size
  old : ∀ k, k ≠ B → w'.heap[k]? = w.heap[k]?

theorem live_set {H : List ABlk} {b c : Nat} {k : ABlk} (h : live (H.set c k) b) (hc : live H c) : live H b := by
  by_cases e : b = c
  · subst e; exact hc
  · obtain ⟨k', hk, hl⟩ := h
    rw [List.getElem?_set_ne (by omega)] at hk
    exact ⟨k', hk, hl⟩

theorem Wrote.simS {w w' : World} {I : Nat → Prop} {ι : Nat → Option Nat} {H : List ABlk} {b B : Nat} (g : Wrote w w' B) (hs : SimH w I ι H) (hb : live H b) (hι : ι b = some B)
    (hsh : Shape w w') (k : ABlk) (hk : BlkOk w' I ι b k) :
    SimH w' I ι (H.set b k) ∧ Ex H.length w I ι H w' I ι (H.set b k) := by
  have hnI : ¬ I B := hs.notI hb hι
  have hI : ∀ C, I C → w'.heap[C]? = w.heap[C]? := fun C hC => g.old C (fun e => hnI (e ▸ hC))
  constructor
  · refine ⟨?_, ?_, ?_, ?_, ?_⟩
    · intro c kc hc
      by_cases e : c = b
      · subst e
        rw [List.getElem?_set_self (live_lt hb)] at hc
        obtain rfl := Option.some.inj hc
        exact hk
      · rw [List.getElem?_set_ne (by omega)] at hc
        have h2 := hs.blk c kc hc
        cases kc with
        | dead => trivial
        | cells t l =>
          obtain ⟨C, ds, g1, g2, g3, g4, g5⟩ := h2
          have hne : C ≠ B := fun e' => e (hs.inj c b B ⟨_, hc, rfl⟩ hb (e' ▸ g1) hι)
          exact ⟨C, ds, g1, by rw [g.old C hne]; exact g2, g3, g4, fun i u hu => (g5 i u hu).move hI (fun _ h => h) (fun _ _ h => h) hsh⟩
        | lp q st pe l =>
          obtain ⟨C, ds, g1, g2, g3, g4, g5⟩ := h2
          have hne : C ≠ B := fun e' => e (hs.inj c b B ⟨_, hc, rfl⟩ hb (e' ▸ g1) hι)
          exact ⟨C, ds, g1, by rw [g.old C hne]; exact g2, g3, g4, fun i u hu => (g5 i u hu).move hI (fun _ h => h) (fun _ _ h => h) hsh⟩
        | row t sz xs =>
          rcases h2 with g0 | ⟨C, ds, g1, g2, g3, g4, g5, g6⟩
          · exact .inl g0
          · have hne : C ≠ B := fun e' => e (hs.inj c b B ⟨_, hc, rfl⟩ hb (e' ▸ g1) hι)
            exact .inr ⟨C, ds, g1, by rw [g.old C hne]; exact g2, g3, g4, g5, fun j e hj => ⟨(g6 j e hj).1, fun i u hu => ((g6 j e hj).2 i u hu).move hI (fun _ h => h)⟩⟩
        | obj o =>
          obtain ⟨g0, C, g1, g2, g3⟩ := h2
          have hne : C ≠ B := fun e' => e (hs.inj c b B ⟨_, hc, rfl⟩ hb (e' ▸ g1) hι)
          exact ⟨g0, C, g1, by rw [g.old C hne]; exact g2, g3⟩
    · intro c c' C hc hc' h2 h3
      exact hs.inj c c' C (live_set hc hb) (live_set hc' hb) h2 h3
    · intro C hC; rw [g.size]; exact hs.Ilt C hC
    · intro c hc; exact hs.dom c (by simpa using hc)
    · intro c C hc; rw [g.size]; exact hs.rng c C hc
  · refine ⟨⟨g.os, g.tape, g.output, by rw [g.size]; exact Nat.le_refl _, hsh, fun _ h => h, fun C hC hn => g.old C (fun e => hn ⟨b, hb, e ▸ hι⟩), fun C hC => .inl hC, ?_⟩, fun _ _ => rfl, by simp⟩
    intro c C hc h2
    exact .inr ⟨c, live_set hc hb, h2⟩

theorem Wrote.sim {w w' : World} {I : Nat → Prop} {ι : Nat → Option Nat} {H : List ABlk} {b B : Nat} {t : TypeId} {cs cs' : Array Value} (g : Wrote w w' B) (hs : SimH w I ι H) (hb : live H b) (hι : ι b = some B)
    (h0 : w.heap[B]? = some (.cells cs t (0, 0))) (h1 : w'.heap[B]? = some (.cells cs' t (0, 0))) (hsz : cs'.size = cs.size) (k : ABlk) (hk : BlkOk w' I ι b k) :
    SimH w' I ι (H.set b k) ∧ Ex H.length w I ι H w' I ι (H.set b k) :=
  g.simS hs hb hι (fun C cs0 t0 fr h => by
    by_cases e : C = B
    · subst e
      rw [h0] at h
      injection h with h; injection h with h1' h2' h3'
      subst h1' h2' h3'
      exact ⟨cs', h1, hsz⟩
    · exact ⟨cs0, by rw [g.old C e]; exact h, rfl⟩) k hk

/-- An object that is no cells has become another one. -/
theorem Wrote.simO {w w' : World} {I : Nat → Prop} {ι : Nat → Option Nat} {H : List ABlk} {b B : Nat} {o : Obj} (g : Wrote w w' B) (hs : SimH w I ι H) (hb : live H b) (hι : ι b = some B)
    (h0 : w.heap[B]? = some o) (hno : o.noCells) (k : ABlk) (hk : BlkOk w' I ι b k) :
    SimH w' I ι (H.set b k) ∧ Ex H.length w I ι H w' I ι (H.set b k) :=
  g.simS hs hb hι (fun C cs0 t0 fr h => by
    by_cases e : C = B
    · subst e
      rw [h0] at h
      exact absurd (Option.some.inj h) (hno cs0 t0 fr)
    · exact ⟨cs0, by rw [g.old C e]; exact h, rfl⟩) k hk

theorem wrote_setCells (w : World) (B : Nat) : ∀ (vs : List Value) (o : Nat), Wrote w (w.setCells B o vs) B
  | [], _ => ⟨rfl, rfl, rfl, rfl, fun _ _ => rfl⟩
  | v :: r, o => by
    have h := wrote_setCells (w.setCell ⟨B, o, none⟩ v) B r (o + 1)
    refine ⟨h.os, h.tape, h.output, h.size.trans (by simp [World.setCell]), fun k hk => (h.old k hk).trans ?_⟩
    exact Below.heap_setCell w ⟨B, o, none⟩ v k hk

/-- Cells o.. of a list are others. -/
def setL {α : Type} (l : List α) (o : Nat) (vs : List α) : List α := l.take o ++ vs ++ l.drop (o + vs.length)
theorem setL_length {α : Type} {l : List α} {o : Nat} {vs : List α} (h : o + vs.length ≤ l.length) : (setL l o vs).length = l.length := by
  simp only [setL, List.length_append, List.length_take, List.length_drop]; omega
theorem setL_get {α : Type} {l : List α} {o : Nat} {vs : List α} (h : o + vs.length ≤ l.length) (i : Nat) :
    (setL l o vs)[i]? = if o ≤ i ∧ i < o + vs.length then vs[i - o]? else l[i]? := by
  unfold setL
  by_cases h1 : i < o
  · rw [if_neg (by omega), List.append_assoc, List.getElem?_append_left (by rw [List.length_take]; omega), List.getElem?_take_of_lt h1]
  · by_cases h2 : i < o + vs.length
    · rw [if_pos ⟨by omega, h2⟩, List.append_assoc, List.getElem?_append_right (by rw [List.length_take]; omega), List.getElem?_append_left (by rw [List.length_take]; omega), List.length_take]
      congr 1; omega
    · rw [if_neg (by omega), List.getElem?_append_right (by rw [List.length_append, List.length_take]; omega), List.getElem?_drop, List.length_append, List.length_take]
      congr 1; omega

theorem heap_setCells (w : World) (B : Nat) (t : TypeId) : ∀ (vs : List Value) (o : Nat) (cs : Array Value), w.heap[B]? = some (.cells cs t (0, 0)) → o + vs.length ≤ cs.size →
    (w.setCells B o vs).heap[B]? = some (.cells (setL cs.toList o vs).toArray t (0, 0)) := by
  intro vs
  induction vs generalizing w with
  | nil => intro o cs h _; rw [World.setCells, h]; simp [setL]
  | cons v r ih =>
    intro o cs h hl
    simp only [List.length_cons] at hl
    have h1 := heap_setCell_same w B o cs t v h
    have := ih (w.setCell ⟨B, o, none⟩ v) (o + 1) (cs.setIfInBounds o v) h1 (by simp; omega)
    rw [World.setCells, this]
    congr 2
    apply congrArg
    apply List.ext_getElem?
    intro i
    have e1 : (setL (cs.setIfInBounds o v).toList (o + 1) r)[i]? = _ := setL_get (by simp; omega) i
    have e2 : (setL cs.toList o (v :: r))[i]? = _ := setL_get (by simp; omega) i
    rw [e1, e2]
    simp only [List.length_cons, Array.toList_setIfInBounds]
    by_cases c1 : i = o
    · subst c1
      rw [if_neg (by omega), if_pos (by omega), List.getElem?_set_self (by simp; omega)]
      simp
    · by_cases c2 : o + 1 ≤ i ∧ i < o + 1 + r.length
      · rw [if_pos c2, if_pos (by omega)]
        obtain ⟨j, rfl⟩ : ∃ j, i = o + 1 + j := ⟨i - (o + 1), by omega⟩
        rw [show o + 1 + j - o = j + 1 by omega, show o + 1 + j - (o + 1) = j by omega, List.getElem?_cons_succ]
      · rw [if_neg c2, if_neg (by omega), List.getElem?_set_ne (by omega)]

end Go.Proofs.YtinfbclgkghgaaaGreat.AL

/- The abstract layer (second make), part d: what each operation does to abstract values and blocks. -/
namespace Go.Proofs.YtinfbclgkghgaaaGreat.AL
open Go

inductive TD where
  | int (k : IntKind) | bool | string | slice (e : TypeId) | struct (fs : List (Nat × TypeId)) | array (n : Nat) (e : TypeId) | ptr (e : TypeId) | func | map (k e : TypeId) | other
structure TI where
  d : TD
  size : Nat
  bytes : Nat
  zero : List Value

def tdOf : TypeDesc → TD
  | .int k => .int k
  | .bool => .bool
  | .string => .string
  | .slice e => .slice e
  | .struct fs => .struct (fs.toList.map fun f => (f.offset, f.type))
  | .array n e => .array n e
  | .pointer e => .ptr e
  | .func _ _ _ => .func
  | .map k e => .map k e
  | _ => .other

def tiOf (P : Program) (t : TypeId) : Option TI :=
  match P.info? t, P.underlying t with
  | some i, some d => match i.zero with
    | some z => match z.cells.toList.all (·.oneCell') with | true => some ⟨tdOf d, i.size, i.bytes, z.cells.toList⟩ | false => none
    | none => none
  | _, _ => none

abbrev TTab := TypeId → Option TI
def TOk (P : Program) (T : TTab) : Prop := ∀ t i, T t = some i → tiOf P t = some i

def chk (b : Bool) (K : Prop) : Prop := match b with | true => K | false => False
theorem chkI {b : Bool} {K : Prop} (h : b = true) (k : K) : chk b K := by subst h; exact k
theorem chkE {b : Bool} {K : Prop} (h : chk b K) : b = true ∧ K := by cases b; exact h.elim; exact ⟨rfl, h⟩
def optK {α : Type} (o : Option α) (K : α → Prop) : Prop := match o with | some x => K x | none => False
theorem optI {α : Type} {o : Option α} {K : α → Prop} {x : α} (h : o = some x) (k : K x) : optK o K := by subst h; exact k
theorem optE {α : Type} {o : Option α} {K : α → Prop} (h : optK o K) : ∃ x, o = some x ∧ K x := by cases o with | none => exact h.elim | some x => exact ⟨x, rfl, h⟩

def AV.one : AV → Bool
  | .p (.raw v) => v.oneCell'
  | .p _ | .ref _ _ | .msl _ _ _ _ | .elr _ _ _ _ | .clo _ _ | .mth _ _ | .yld _ | .mp _ => true
  | _ => false
def AV.cells? : AV → Option (List AV)
  | .agg l => match l.all AV.one with | true => some l | false => none
  | .p (.raw v) => match v.oneCell' with | true => some [.p (.raw v)] | false => none
  | .p x => some [.p x]
  | .ref b o => some [.ref b o]
  | .msl b s o l => some [.msl b s o l]
  | .elr b s i o => some [.elr b s i o]
  | .clo f c => some [.clo f c]
  | .mth f c => some [.mth f c]
  | .yld b => some [.yld b]
  | .mp b => some [.mp b]
  | _ => none

def getPV : AV → Option PV | .p x => some x | _ => none
def pvs : List AV → Option (List PV)
  | [] => some []
  | u :: r => match getPV u, pvs r with | some x, some l => some (x :: l) | _, _ => none
def getRaw : AV → Option Value | .p (.raw v) => some v | _ => none
def raws : List AV → Option (List Value)
  | [] => some []
  | u :: r => match getRaw u, raws r with | some x, some l => some (x :: l) | _, _ => none

def mkVal (d : TD) (us : List AV) : AV :=
  match d with
  | .struct _ => .agg us
  | .array _ _ => .agg us
  | _ => us.headD .top

def isRowTD : TD → Bool | .struct _ => true | .array _ _ => true | _ => false

def loadK (H : List ABlk) (a : AV) (size : Nat) (K : List AV → Prop) : Prop :=
  match a with
  | .p (.box cs) => chk (decide (size ≤ cs.length)) (K ((cs.take size).map .p))
  | .ref b off => match H.getD b .dead with
    | .cells _ l => chk (decide (off + size ≤ l.length)) (K ((l.drop off).take size))
    | _ => False
  | .elr b sz i off => match H.getD b .dead with
    | .row _ sz' xs => chk (sz' == sz) (optK xs[i]? fun e => chk (decide (off + size ≤ e.length)) (K (((e.drop off).take size).map .p)))
    | .cells _ l => chk (decide (i * sz + off + size ≤ l.length)) (K ((l.drop (i * sz + off)).take size))
    | _ => False
  | _ => False

def storeK (H : List ABlk) (a : AV) (vs : List AV) (K : List ABlk → Prop) : Prop :=
  match a with
  | .ref b off => match H.getD b .dead with
    | .cells t l => chk (decide (off + vs.length ≤ l.length)) (K (H.set b (.cells t (setL l off vs))))
    | _ => False
  | .elr b sz i off => match H.getD b .dead with
    | .row t sz' xs => chk (sz' == sz) (optK xs[i]? fun e => chk (decide (off + vs.length ≤ e.length)) (optK (pvs vs) fun ps => K (H.set b (.row t sz' (xs.set i (setL e off ps))))))
    | .cells t l => chk (decide (i * sz + off + vs.length ≤ l.length)) (K (H.set b (.cells t (setL l (i * sz + off) vs))))
    | _ => False
  | _ => False

def shiftK (op : BinOp) (k : IntKind) (a b : Int) (K : Value → Prop) : Prop :=
  match op with
  | .shl => chk (decide (0 ≤ b)) (K (.int k (k.wrap (a * 2 ^ (min b.toNat k.bits)))))
  | .shr => chk (decide (0 ≤ b)) (K (.int k (a.fdiv (2 ^ (min b.toNat k.bits)))))
  | _ => False

def intK (op : BinOp) (k : IntKind) (a b : Int) (K : Value → Prop) : Prop :=
  match op with
  | .add => K (.int k (k.wrap (a + b)))
  | .sub => K (.int k (k.wrap (a - b)))
  | .mul => K (.int k (k.wrap (a * b)))
  | .quo => chk (decide (b ≠ 0)) (K (.int k (k.wrap (a.tdiv b))))
  | .rem => chk (decide (b ≠ 0)) (K (.int k (a.tmod b)))
  | .and => K (.int k (k.wrap ((BitVec.ofInt k.bits a &&& BitVec.ofInt k.bits b).toNat)))
  | .or => K (.int k (k.wrap ((BitVec.ofInt k.bits a ||| BitVec.ofInt k.bits b).toNat)))
  | .xor => K (.int k (k.wrap ((BitVec.ofInt k.bits a ^^^ BitVec.ofInt k.bits b).toNat)))
  | .andNot => K (.int k (k.wrap ((BitVec.ofInt k.bits a &&& ~~~BitVec.ofInt k.bits b).toNat)))
  | .eql => K (.bool (a == b))
  | .neq => K (.bool (a != b))
  | .lss => K (.bool (decide (a < b)))
  | .leq => K (.bool (decide (a ≤ b)))
  | .gtr => K (.bool (decide (a > b)))
  | .geq => K (.bool (decide (a ≥ b)))
  | _ => False

def isPtr : AV → Bool | .ref _ _ | .elr _ _ _ _ | .p (.box _) => true | _ => false
def binG (op : BinOp) (t : TypeId) (x y : Operand) (a b : Value) : Sem Value := do eqGuard op t x y a b; binOp op t a b

def binK (P : Program) (T : TTab) (op : BinOp) (t : TypeId) (xo yo : Operand) (x y : AV) (K : Value → Prop) : Prop :=
  match x, y with
  | .p (.raw (.int k a)), .p (.raw (.int k' b)) => match op with
    | .shl => shiftK .shl k a b K
    | .shr => shiftK .shr k a b K
    | op => chk (k == k') (intK op k a b K)
  | .p (.raw (.string a)), .p (.raw (.string b)) => match op with
    | .eql => ∃ c : Bool, c = (a.toList == b.toList) ∧ K (.bool c)
    | .neq => ∃ c : Bool, c = (!(a.toList == b.toList)) ∧ K (.bool c)
    | op => ∃ r, (∀ w, (binG op t xo yo (.string a) (.string b)).run P w = .ok r w) ∧ r.oneCell' = true ∧ K r
  | .p (.raw (.bool a)), .p (.raw (.bool b)) => match op, T t with
    | .eql, some ⟨.bool, _, _, _⟩ => K (.bool (a == b))
    | .neq, some ⟨.bool, _, _, _⟩ => K (.bool (!(a == b)))
    | _, _ => False
  | .agg l, .agg l' => optK (raws l) fun vs => optK (raws l') fun vs' => ∃ r, (∀ w, (binG op t xo yo (.agg vs.toArray) (.agg vs'.toArray)).run P w = .ok r w) ∧ r.oneCell' = true ∧ K r
  | x, .p (.raw (.pointer none)) => match op, T t with
    | .eql, some ⟨.ptr _, _, _, _⟩ => match x with
      | .p (.raw (.pointer none)) => K (.bool true)
      | _ => chk (isPtr x) (K (.bool false))
    | .neq, some ⟨.ptr _, _, _, _⟩ => match x with
      | .p (.raw (.pointer none)) => K (.bool false)
      | _ => chk (isPtr x) (K (.bool true))
    | _, _ => False
  | _, _ => False

def pickV (t : Bool) (x y : AV) : AV :=
  match x, y with
  | .p (.raw (.bool a)), .p (.raw (.bool b)) => .p (.raw (.bool (cond t a b)))
  | x, y => cond t x y

def unK (op : UnOp) (x : AV) (K : Value → Prop) : Prop :=
  match op, x with
  | .not, .p (.raw (.bool b)) => K (.bool !b)
  | .neg, .p (.raw (.int k n)) => K (.int k (k.wrap (0 - n)))
  | _, _ => False

/-- setL, without naming the list twice. -/
def setQ {α : Type} : List α → Nat → List α → List α
  | l, 0, r => r ++ l.drop r.length
  | [], _ + 1, r => r
  | x :: l, o + 1, r => x :: setQ l o r
theorem setQ_eq {α : Type} : ∀ (l : List α) (o : Nat) (r : List α), setQ l o r = setL l o r
  | l, 0, r => by simp [setQ, setL]
  | [], o + 1, r => by simp [setQ, setL]
  | x :: l, o + 1, r => by
    rw [setQ, setQ_eq l o r]
    simp only [setL, List.take_succ_cons, List.cons_append]
    rw [show o + 1 + r.length = (o + r.length) + 1 by omega, List.drop_succ_cons]
def fillA (T : TTab) (place : Nat → Option (Nat × Nat)) (cells : List AV) : List (Nat × AV) → Option (List AV)
  | [] => some cells
  | (i, v) :: rest => match place i, v.cells? with
    | some (off, size), some l => match l.length == size && Nat.ble (off + l.length) cells.length with
      | true => fillA T place (setQ cells off l) rest
      | false => none
    | _, _ => none

def fieldPlaces (T : TTab) : List (Nat × TypeId) → Option (List (Nat × Nat))
  | [] => some []
  | (o, t) :: r => match T t, fieldPlaces T r with | some i, some l => some ((o, i.size) :: l) | _, _ => none

def zeroA (ti : TI) : List AV := ti.zero.map fun v => .p (.raw v)
def zeroP (ti : TI) : List PV := ti.zero.map fun v => .raw v

def chunk {α : Type} (sz : Nat) : Nat → List α → List (List α)
  | 0, _ => []
  | n + 1, l => l.take sz :: chunk sz n (l.drop sz)

/-- A slice literal's block: of closed cells it is a row. -/
def litBlk (e : TypeId) (sz n : Nat) (l : List AV) : ABlk := match pvs l with | some ps => .row e sz (chunk sz n ps) | none => .cells e l

def boundOf (d : Nat) : Option AV → Option Int
  | none => some d
  | some (.p (.raw (.int _ n))) => some n
  | _ => none

def sliceK (sz : Nat) (x : AV) (lo hi : Option AV) (K : AV → Prop) : Prop :=
  match x with
  | .p (.sl sz' xs) => chk (sz' == sz) (optK (boundOf 0 lo) fun l => optK (boundOf xs.length hi) fun h => (0 ≤ l ∧ l ≤ h ∧ h ≤ xs.length) ∧ K (.p (.sl sz ((xs.take h.toNat).drop l.toNat))))
  | .msl b sz' off len => chk (sz' == sz) (optK (boundOf 0 lo) fun l => optK (boundOf len hi) fun h => (0 ≤ l ∧ l ≤ h ∧ h ≤ len) ∧ K (.msl b sz (off + l.toNat) (h.toNat - l.toNat)))
  | .p (.raw (.slice none 0 0)) => optK (boundOf 0 lo) fun l => optK (boundOf 0 hi) fun h => (l = 0 ∧ h = 0) ∧ K (.p (.raw (.slice none 0 0)))
  | _ => False

def addOff (x : AV) (o : Nat) (K : AV → Prop) : Prop :=
  match x with
  | .ref b off => K (.ref b (off + o))
  | .elr b sz i off => K (.elr b sz i (off + o))
  | .p (.box cs) => K (.p (.box (cs.drop o)))
  | _ => False

def indexK (d : TD) (sz : Nat) (x i : AV) (K : AV → Prop) : Prop :=
  match i with
  | .p (.raw (.int _ n)) => match d, x with
    | .slice _, .p (.sl sz' xs) => chk (sz' == sz) (0 ≤ n ∧ optK xs[n.toNat]? fun e => K (.p (.box e)))
    | .slice _, .msl b sz' off len => chk (sz' == sz) ((0 ≤ n ∧ n < len) ∧ K (.elr b sz (off + n.toNat) 0))
    | .array N _, .ref b off => (0 ≤ n ∧ n < N) ∧ K (.ref b (off + n.toNat * sz))
    | .array N _, .p (.box cs) => (0 ≤ n ∧ n < N) ∧ K (.p (.box (cs.drop (n.toNat * sz))))
    | .array N _, .elr b sz' r off => chk (sz' == sz && off == 0) ((0 ≤ n ∧ n < N) ∧ K (.elr b sz (r + n.toNat) 0))
    | _, _ => False
  | _ => False

def lenK (x : AV) (K : AV → Prop) : Prop :=
  match x with
  | .p (.sl _ xs) => K (.p (.raw (.int .i64 xs.length)))
  | .msl _ _ _ len => K (.p (.raw (.int .i64 len)))
  | .p (.raw (.slice none 0 0)) => K (.p (.raw (.int .i64 0)))
  | _ => False

/-- What is appended, as elements' cells. -/
def srcOf (H : List ABlk) (sz : Nat) : AV → Option (List (List PV))
  | .p (.sl sz' xs) => match sz' == sz with | true => some xs | false => none
  | .msl b sz' off len => match H.getD b .dead with
    | .row _ sz'' xs => match sz' == sz && sz'' == sz && Nat.ble (off + len) xs.length with | true => some ((xs.drop off).take len) | false => none
    | _ => none
  | .p (.raw (.slice none 0 0)) => some []
  | _ => none

/-- append: the old row is gone, a new one stands at the list's end. -/
def appendK (H : List ABlk) (e : TypeId) (ti : TI) (s x : AV) (K : AV → List ABlk → Prop) : Prop :=
  optK (srcOf H ti.size x) fun ys =>
  match s with
  | .p (.raw (.slice none 0 0)) => ((ys.length * ti.bytes ≤ 140737488355328 ∧ ys.length ≤ 140737488355328) ∧ K (.msl H.length ti.size 0 ys.length) (H ++ [.row e ti.size ys]))
  | .msl b sz off len => match H.getD b .dead with
    | .row e' sz' xs => chk (sz == ti.size && sz' == ti.size && e' == e && off == 0) (xs.length = len ∧ ((xs.length + ys.length) * ti.bytes ≤ 140737488355328 ∧ xs.length + ys.length ≤ 140737488355328) ∧
        K (.msl H.length ti.size 0 (xs ++ ys).length) (H.set b .dead ++ [.row e ti.size (xs ++ ys)]))
    | _ => False
  | _ => False

def minmaxK (mx : Bool) (x y : AV) (K : AV → Prop) : Prop :=
  match x, y with
  | .p (.raw (.int k a)), .p (.raw (.int _ b)) => K (.p (.raw (.int k (cond mx (if b > a then b else a) (if b < a then b else a)))))
  | _, _ => False

def lenT (d : TD) (x : AV) (K : AV → Prop) : Prop :=
  match d with
  | .slice _ => lenK x K
  | .string => match x with
    | .p (.raw (.string s)) => K (.p (.raw (.int .i64 s.size)))
    | _ => False
  | .array n _ => K (.p (.raw (.int .i64 n)))
  | _ => False

/-- clear: the elements of part of a row are noughts. -/
def clearK (H : List ABlk) (ti : TI) (x : AV) (K : List ABlk → Prop) : Prop :=
  match x with
  | .msl b sz off len => match H.getD b .dead with
    | .row e sz' xs => chk (sz == ti.size && sz' == ti.size) (off + len ≤ xs.length ∧ K (H.set b (.row e sz' (setL xs off (List.replicate len (zeroP ti))))))
    | _ => False
  | .p (.raw (.slice none 0 0)) => K H
  | _ => False

/-- copy: elements of a row are others; all of the source must have room. -/
def copyK (H : List ABlk) (ti : TI) (d x : AV) (K : AV → List ABlk → Prop) : Prop :=
  optK (srcOf H ti.size x) fun ys => match d with
  | .msl b sz off len => match H.getD b .dead with
    | .row e sz' xs => chk (sz == ti.size && sz' == ti.size) ((off + len ≤ xs.length ∧ ys.length ≤ len) ∧ K (.p (.raw (.int .i64 ys.length))) (H.set b (.row e sz' (setL xs off ys))))
    | _ => False
  | _ => False

/-- append of so many noughts to nil. -/
def appendZ (H : List ABlk) (e : TypeId) (ti : TI) (s x : AV) (K : AV → List ABlk → Prop) : Prop :=
  match s, x with
  | .p (.raw (.slice none 0 0)), .p (.raw (.int .i64 n)) => (0 ≤ n ∧ n * ti.bytes ≤ 140737488355328 ∧ n ≤ 140737488355328) ∧ K (.msl H.length ti.size 0 n.toNat) (H ++ [.row e ti.size (List.replicate n.toNat (zeroP ti))])
  | _, _ => False

def capT (d : TD) (x : AV) (K : AV → Prop) : Prop :=
  match d, x with
  | .slice _, .p (.raw (.slice none 0 0)) => K (.p (.raw (.int .i64 0)))
  | _, _ => False

def builtinK (T : TTab) (b : Builtin) (ts : List TypeId) (xs : List AV) (H : List ABlk) (K : AV → List ABlk → Prop) : Prop :=
  match b, xs with
  | .len, [x] => match ts with
    | [t] => optK (T t) fun ti => lenT ti.d x fun u => K u H
    | _ => False
  | .append, [s, x] => match ts with
    | [t, t'] => match t == t' with
      | true => optK (T t) fun ti => match ti.d with
        | .slice e => optK (T e) fun ei => chk (decide (0 < ei.size) && decide (0 < ei.bytes) && (ei.zero.length == ei.size)) (appendK H e ei s x K)
        | _ => False
      | false => optK (T t) fun ti => optK (T t') fun tj => match ti.d, tj.d with
        | .slice e, .int _ => optK (T e) fun ei => chk (decide (0 < ei.size) && (ei.zero.length == ei.size)) (appendZ H e ei s x K)
        | _, _ => False
    | _ => False
  | .copy, [d, x] => match ts with
    | [t, t'] => chk (t == t') (optK (T t) fun ti => match ti.d with
      | .slice e => optK (T e) fun ei => chk (decide (0 < ei.size)) (copyK H ei d x K)
      | _ => False)
    | _ => False
  | .cap, [x] => match ts with
    | [t] => optK (T t) fun ti => capT ti.d x fun u => K u H
    | _ => False
  | .max, [x, y] => minmaxK true x y fun u => K u H
  | .min, [x, y] => minmaxK false x y fun u => K u H
  | .clear, [x] => match ts with
    | [t] => optK (T t) fun ti => match ti.d with
      | .slice e => optK (T e) fun ei => chk (decide (0 < ei.size) && (ei.zero.length == ei.size)) (clearK H ei x fun H' => K .top H')
      | _ => False
    | _ => False
  | _, _ => False

/-- The calls that an operation may make: of a function; of yield, by its loop's block. -/
structure CallA where
  fn : FuncId → List AV → List ABlk → (AV → List ABlk → Prop) → Prop
  yld : Nat → List AV → List ABlk → (AV → List ABlk → Prop) → Prop

def calleeK (C : CallA) (f : AV) (us : List AV) (H : List ABlk) (K : AV → List ABlk → Prop) : Prop :=
  match f with
  | .clo (.func k) caps => C.fn k (us ++ caps) H K
  | .mth (.func k) first => C.fn k (first ++ us) H K
  | .yld b => C.yld b us H K
  | .p (.raw (.func (.func k) ⟨[]⟩ ⟨[]⟩)) => C.fn k us H K
  | _ => False

/-- The operands, in their order. -/
def opsL : Op → List Operand
  | .move x | .assign x | .box _ x | .load _ x | .unOp _ _ x | .convert _ _ x | .fieldAddr _ x _ | .field _ x _ | .extract x _ | .nilCheck x => [x]
  | .pick c a b => [c, a, b]
  | .build _ ps | .buildSlice _ _ ps => ps.toList.map (·.2)
  | .store _ a x | .binOp _ _ a x _ | .makeSlice _ a x | .indexAddr _ a x | .index _ a x | .lookup _ a x _ => [a, x]
  | .insert _ m k v | .mapUpdate _ m k v => [m, k, v]
  | .makeFunc _ first caps => first.toList ++ caps.toList
  | .slice _ x lo hi _ => [x] ++ lo.toList ++ hi.toList
  | .call c => (match c.callee with | .value f => [f] | _ => []) ++ c.args.toList
  | _ => []

def on1 (us : List AV) (K : AV → Prop) : Prop := match us with | [a] => K a | _ => False
def on2 (us : List AV) (K : AV → AV → Prop) : Prop := match us with | [a, b] => K a b | _ => False
def on3 (us : List AV) (K : AV → AV → AV → Prop) : Prop := match us with | [a, b, c] => K a b c | _ => False
def onC (us : List AV) (K : AV → List AV → Prop) : Prop := match us with | a :: r => K a r | [] => False

def convK (s d : TI) (u : AV) (H : List ABlk) (T : TTab) (K : AV → List ABlk → Prop) : Prop :=
  match s.d, d.d, u with
  | .int _, .int k, .p (.raw (.int _ n)) => K (.p (.raw (.int k (k.wrap n)))) H
  | .slice e, .string, u => optK (T e) fun ei => match ei.d with
    | .int .u8 => chk (ei.size == 1) (optK (srcOf H 1 u) fun ys => ∃ bs : List UInt8, ys = bs.map (fun b => [PV.raw (.int .u8 b.toNat)]) ∧ K (.p (.raw (.string ⟨bs.toArray⟩))) H)
    | _ => False
  | _, _, _ => False

def indexV (ei : TI) (N : Nat) (d : TD) (x i : AV) (K : AV → Prop) : Prop :=
  match i, d, x with
  | .p (.raw (.int _ n)), .array _ _, .agg l => (0 ≤ n ∧ n < N) ∧ chk (decide (n.toNat * ei.size + ei.size ≤ l.length) && (isRowTD ei.d || ei.size == 1)) (K (mkVal ei.d ((l.drop (n.toNat * ei.size)).take ei.size)))
  | _, _, _ => False

def indexS (x i : AV) (K : AV → Prop) : Prop :=
  match i, x with
  | .p (.raw (.int _ n)), .p (.raw (.string s)) => 0 ≤ n ∧ optK s.data[n.toNat]? fun b => K (.p (.raw (.int .u8 b.toNat)))
  | _, _ => False

/-- Keys of which the machine sees at once whether they are one. -/
def flatKey : TD → Bool | .int _ | .string => true | _ => false
def keyD : TD → TypeDesc | .int k => .int k | _ => .string

def putMap (es : Array MapEntry) (clock : Nat) (k v : Value) : Option (Option (Nat × Value)) → Option Obj
  | some none => some (.map (es.push { key := k, val := v, born := clock }) (clock + 1))
  | some (some (i, _)) => some (.map (es.modify i fun e => { e with key := k, val := v }) clock)
  | none => none

/-- A value that stands for itself: a plain one, or a function of the program. -/
def rawA : AV → Option Value
  | .p (.raw v) => some v
  | .clo fn [] => some (.func fn #[] #[])
  | _ => none
def mapPutK (T : TTab) (t : TypeId) (H : List ABlk) (m k v : AV) (K : List ABlk → Prop) : Prop :=
  match m, k with
  | .mp b, .p (.raw k) => optK (rawA v) fun v => optK (T t) fun ti => match ti.d with
    | .map kt _ => optK (T kt) fun ki => chk (flatKey ki.d) (match H.getD b .dead with
      | .obj (.map es clock) => optK (putMap es clock k v (Instr.findNow (keyD ki.d) k es.toList 0)) fun o => K (H.set b (.obj o))
      | _ => False)
    | _ => False
  | _, _ => False

def mapGetK (P : Program) (T : TTab) (t : TypeId) (ok : Bool) (H : List ABlk) (m k : AV) (K : AV → Prop) : Prop :=
  match m, k with
  | .mp b, .p (.raw k) => optK (T t) fun ti => match ti.d with
    | .map kt et => optK (T kt) fun ki => optK (T et) fun ei => chk (flatKey ki.d && (ei.size == 1) && !(isRowTD ei.d)) (match H.getD b .dead with
      | .obj (.map es _) => optK (Instr.findNow (keyD ki.d) k es.toList 0) fun r => match r with
        | some (_, v) => chk v.oneCell' (K (cond ok (.tup [.p (.raw v), .p (.raw (.bool true))]) (.p (.raw v))))
        | none => ∃ i v, P.info? et = some i ∧ i.zero = some v ∧ v.oneCell' = true ∧ K (cond ok (.tup [.p (.raw v), .p (.raw (.bool false))]) (.p (.raw v)))
      | _ => False)
    | _ => False
  | _, _ => False

/-- A slice is held against nil: one of no elements may be nil, or not. -/
def sliceNilK (T : TTab) (op : BinOp) (t : TypeId) (x : AV) (K : Value → Prop) : Prop :=
  optK (T t) fun ti => match ti.d with
  | .slice _ => match op, x with
    | .eql, .p (.sl _ xs) => ∀ b, (b = true → xs = []) → K (.bool b)
    | .neq, .p (.sl _ xs) => ∀ b, (b = false → xs = []) → K (.bool b)
    | .eql, .msl _ _ _ len => ∀ b, (b = true → len = 0) → K (.bool b)
    | .neq, .msl _ _ _ len => ∀ b, (b = false → len = 0) → K (.bool b)
    | .eql, .p (.raw (.slice none 0 0)) => K (.bool true)
    | .neq, .p (.raw (.slice none 0 0)) => K (.bool false)
    | _, _ => False
  | _ => False

def binV (P : Program) (T : TTab) (op : BinOp) (t : TypeId) (xo yo : Operand) (x y : AV) (K : Value → Prop) : Prop :=
  match yo with
  | .const (.slice none 0 0) => sliceNilK T op t x K
  | yo => binK P T op t xo yo x y K

/-- Does it come to one value? -/
def detK : Op → Bool
  | .binOp _ _ _ y _ => match y with | .const (.slice none 0 0) => false | _ => true
  | _ => true

/-- What an operation does, at its operands' values. -/
def opV (P : Program) (T : TTab) (C : CallA) (H : List ABlk) (K : AV → List ABlk → Prop) (o : Op) (us : List AV) : Prop :=
  match o with
  | .move _ => on1 us fun x => K x H
  | .assign _ => on1 us fun x => K x H
  | .pick _ _ _ => on3 us fun c a b => match c with
    | .p (.raw (.bool t)) => K (pickV t a b) H
    | _ => False
  | .alloc t => optK (T t) fun ti => K (.ref H.length 0) (H ++ [.cells t (zeroA ti)])
  | .box t _ => on1 us fun x => optK x.cells? fun l => K (.ref H.length 0) (H ++ [.cells t l])
  | .build t parts => optK (T t) fun ti => match ti.d with
    | .struct fs => optK (fieldPlaces T fs) fun pl => optK (fillA T (fun i => pl[i]?) (zeroA ti) ((parts.toList.map (·.1)).zip us)) fun l => K (.agg l) H
    | .array _ e => optK (T e) fun ei => optK (fillA T (fun i => some (i * ei.size, ei.size)) (zeroA ti) ((parts.toList.map (·.1)).zip us)) fun l => K (.agg l) H
    | _ => False
  | .buildSlice t n parts => optK (T t) fun ti => match ti.d with
    | .slice e => optK (T e) fun ei => chk (decide (n * ei.size ≤ 1000) && decide (0 < ei.size) && (ei.zero.length == ei.size)) (optK (fillA T (fun i => some (i * ei.size, ei.size)) (List.replicate n (zeroA ei)).flatten ((parts.toList.map (·.1)).zip us)) fun l =>
        K (.msl H.length ei.size 0 n) (H ++ [litBlk e ei.size n l]))
    | _ => False
  | .load t _ => on1 us fun a => optK (T t) fun ti => chk (isRowTD ti.d || ti.size == 1) <| loadK H a ti.size fun us => K (mkVal ti.d us) H
  | .store t _ _ => on2 us fun a x => optK (T t) fun ti => optK x.cells? fun vs => chk (vs.length == ti.size) (storeK H a vs fun H' => K .top H')
  | .binOp op t xo yo _ => on2 us fun x y => binV P T op t xo yo x y fun v => K (.p (.raw v)) H
  | .unOp op _ _ => on1 us fun x => unK op x fun v => K (.p (.raw v)) H
  | .convert src dst _ => on1 us fun x => optK (T src) fun s => optK (T dst) fun d => convK s d x H T K
  | .makeFunc fn first _ => match first.isEmpty with
    | true => K (.clo fn us) H
    | false => chk (us.length == first.size) (K (.mth fn us) H)
  | .makeMap _ r => chk r.isNone (K (.mp H.length) (H ++ [.obj (.map #[] 0)]))
  | .insert t _ _ _ => on3 us fun m k v => mapPutK T t H m k v fun H' => K .top H'
  | .mapUpdate t _ _ _ => on3 us fun m k v => mapPutK T t H m k v fun H' => K .top H'
  | .lookup t _ _ ok => on2 us fun m k => mapGetK P T t ok H m k fun u => K u H
  | .makeSlice t _ _ => on2 us fun l c => optK (T t) fun ti => match ti.d with
    | .slice e => optK (T e) fun ei => chk (decide (0 < ei.size) && (ei.zero.length == ei.size)) (match l, c with
      | .p (.raw (.int .i64 n)), .p (.raw (.int .i64 n')) => (n' = n ∧ 0 ≤ n ∧ n * ei.bytes ≤ 140737488355328 ∧ n ≤ 140737488355328) ∧ K (.msl H.length ei.size 0 n.toNat) (H ++ [.row e ei.size (List.replicate n.toNat (zeroP ei))])
      | _, _ => False)
    | _ => False
  | .slice t _ lo hi mx => onC us fun x r => chk mx.isNone (optK (T t) fun ti => match ti.d with
    | .slice e => optK (T e) fun ei => sliceK ei.size x (match lo with | some _ => r.head? | none => none) (match lo, hi with | some _, some _ => r.tail.head? | none, some _ => r.head? | _, none => none) fun u => K u H
    | .string => match x with
      | .p (.raw (.string s)) => optK (boundOf 0 (match lo with | some _ => r.head? | none => none)) fun l => optK (boundOf s.size (match lo, hi with | some _, some _ => r.tail.head? | none, some _ => r.head? | _, none => none)) fun h =>
          (0 ≤ l ∧ l ≤ h ∧ h ≤ s.size) ∧ K (.p (.raw (.string (s.extract l.toNat h.toNat)))) H
      | _ => False
    | _ => False)
  | .fieldAddr s _ f => on1 us fun x => optK (T s) fun ti => match ti.d with
    | .struct fs => optK fs[f]? fun p => optK (T p.2) fun fi => chk (decide (0 < fi.size)) (addOff x p.1 fun u => K u H)
    | _ => False
  | .field s _ f => on1 us fun x => optK (T s) fun ti => match ti.d with
    | .struct fs => optK fs[f]? fun p => optK (T p.2) fun fi => match x with
      | .agg l => chk (decide (p.1 + fi.size ≤ l.length) && (isRowTD fi.d || fi.size == 1)) (K (mkVal fi.d ((l.drop p.1).take fi.size)) H)
      | _ => False
    | _ => False
  | .indexAddr t _ _ => on2 us fun x i => optK (T t) fun ti => match ti.d with
    | .slice e => optK (T e) fun ei => indexK (.slice e) ei.size x i fun u => K u H
    | .array n e => optK (T e) fun ei => indexK (.array n e) ei.size x i fun u => K u H
    | _ => False
  | .index t _ _ => on2 us fun x i => optK (T t) fun ti => match ti.d with
    | .array n e => optK (T e) fun ei => indexV ei n (.array n e) x i fun u => K u H
    | .string => indexS x i fun u => K u H
    | _ => False
  | .extract _ i => on1 us fun x => match x with
    | .tup l => optK l[i]? fun u => K u H
    | _ => False
  | .nilCheck _ => on1 us fun x => chk (isPtr x) (K x H)
  | .call c => match c.callee with
    | .value _ => onC us fun f r => calleeK C f r H K
    | .builtin b => builtinK T b c.argTypes.toList us H K
    | .invoke _ _ => False
  | _ => False

def aop (P : Program) (T : TTab) (C : CallA) (ev : Operand → AV) (H : List ABlk) (K : AV → List ABlk → Prop) (o : Op) : Prop := opV P T C H K o ((opsL o).map ev)

end Go.Proofs.YtinfbclgkghgaaaGreat.AL

/- The abstract layer (second make), part e: loads, stores, values and cells, proved against the machine. -/
namespace Go.Proofs.YtinfbclgkghgaaaGreat.AL
open Go Go.RowKit

theorem tok {P : Program} {T : TTab} (hT : TOk P T) {t : TypeId} {ti : TI} (h : T t = some ti) :
    ∃ i d z, P.info? t = some i ∧ P.underlying t = some d ∧ i.zero = some z ∧ ti.d = tdOf d ∧ ti.size = i.size ∧ ti.bytes = i.bytes ∧ ti.zero = z.cells.toList ∧ ∀ v ∈ z.cells.toList, v.oneCell' = true := by
  have h1 := hT t ti h
  unfold tiOf at h1
  split at h1
  · rename_i i d hi hd
    split at h1
    · rename_i z hz
      split at h1
      · rename_i hall
        obtain rfl := Option.some.inj h1
        exact ⟨i, d, z, hi, hd, hz, rfl, rfl, rfl, rfl, fun v hv => List.all_eq_true.1 hall v hv⟩
      · exact absurd h1 (by simp)
    · exact absurd h1 (by simp)
  · exact absurd h1 (by simp)

section
variable {w : World} {I : Nat → Prop} {ι : Nat → Option Nat}

theorem rep_raw {x v : Value} (h : ARep w I ι (.p (.raw x)) v) : v = x := by cases h with | p h => cases h; rfl

theorem one_ok {x : AV} {v : Value} (h : ARep w I ι x v) (h1 : x.one = true) : v.oneCell' = true := by
  cases h with
  | p h => cases h with
    | raw v => exact h1
    | sl => rfl
    | box => rfl
  | top => simp [AV.one] at h1
  | agg => simp [AV.one] at h1
  | tup => simp [AV.one] at h1
  | ref => rfl
  | msl => rfl
  | msl0 => rfl
  | elr => rfl
  | clo => rfl
  | mth => rfl
  | yld => rfl
  | mp => rfl

theorem cells_one {v : Value} (h : v.oneCell' = true) : v.cells = #[v] := by cases v <;> first | rfl | simp [Value.oneCell'] at h

theorem cells_ok {x : AV} {v : Value} {l : List AV} (h : ARep w I ι x v) (hl : x.cells? = some l) :
    v.cells.size = l.length ∧ (∀ i u, l[i]? = some u → ARep w I ι u (v.cells.getD i undef)) ∧ (∀ y ∈ v.cells.toList, y.oneCell' = true) := by
  have single : ∀ (h1 : x.one = true) (h2 : l = [x]), v.cells.size = l.length ∧ (∀ i u, l[i]? = some u → ARep w I ι u (v.cells.getD i undef)) ∧ (∀ y ∈ v.cells.toList, y.oneCell' = true) := by
    intro h1 h2
    subst h2
    have hv := one_ok h h1
    rw [cells_one hv]
    refine ⟨rfl, fun i u hu => ?_, fun y hy => by simp at hy; subst hy; exact hv⟩
    cases i with
    | zero => simp at hu; subst hu; exact h
    | succ i => simp at hu
  cases x with
  | agg l0 =>
    simp only [AV.cells?] at hl
    split at hl
    · rename_i hall
      obtain rfl := Option.some.inj hl
      cases h with
      | agg l vs hn hr =>
        refine ⟨hn, hr, fun y hy => ?_⟩
        have hy' : y ∈ vs.toList := hy
        obtain ⟨i, hi, rfl⟩ := List.getElem_of_mem hy'
        have hi' : i < l0.length := by rw [← hn]; simpa using hi
        have hri := hr i l0[i] (List.getElem?_eq_getElem hi')
        have : vs.getD i undef = vs.toList[i] := by
          have : i < vs.size := by simpa using hi
          simp [Array.getD_eq_getD_getElem?, this]
        rw [this] at hri
        exact one_ok hri (List.all_eq_true.1 hall _ (List.getElem_mem hi'))
    · exact absurd hl (by simp)
  | p x =>
    cases x with
    | raw y =>
      simp only [AV.cells?] at hl
      split at hl
      · rename_i ho
        obtain rfl := Option.some.inj hl
        exact single ho rfl
      · exact absurd hl (by simp)
    | sl sz xs => exact single rfl (Option.some.inj hl).symm
    | box cs => exact single rfl (Option.some.inj hl).symm
  | ref b o => exact single rfl (Option.some.inj hl).symm
  | msl b s o n => exact single rfl (Option.some.inj hl).symm
  | elr b s i o => exact single rfl (Option.some.inj hl).symm
  | clo f c => exact single rfl (Option.some.inj hl).symm
  | mth f c => exact single rfl (Option.some.inj hl).symm
  | yld b => exact single rfl (Option.some.inj hl).symm
  | mp b => exact single rfl (Option.some.inj hl).symm
  | tup l0 => simp [AV.cells?] at hl
  | top => simp [AV.cells?] at hl

theorem pvs_ok : ∀ {l : List AV} {ps : List PV}, pvs l = some ps → l = ps.map .p
  | [], ps, h => by simp [pvs] at h; subst h; rfl
  | u :: r, ps, h => by
    cases u with
    | p x =>
      simp only [pvs, getPV] at h
      split at h
      · rename_i x' l' hx hl
        injection hx with hx; subst hx
        obtain rfl := Option.some.inj h
        rw [pvs_ok hl]; rfl
      · exact absurd h (by simp)
    | _ => simp [pvs, getPV] at h

theorem raws_ok : ∀ {l : List AV} {vs : List Value}, raws l = some vs → l = vs.map (fun v => .p (.raw v))
  | [], vs, h => by simp [raws] at h; subst h; rfl
  | u :: r, vs, h => by
    simp only [raws] at h
    split at h
    · rename_i x' l' hx hl
      obtain rfl := Option.some.inj h
      rw [raws_ok hl]
      cases u with
      | p y => cases y with
        | raw z => simp [getRaw] at hx; subst hx; rfl
        | _ => simp [getRaw] at hx
      | _ => simp [getRaw] at hx
    · exact absurd h (by simp)

theorem p_inv {x : PV} {v : Value} (h : ARep w I ι (.p x) v) : PRep w I x v := by cases h; assumption

theorem getD_of_getElem? {H : List ABlk} {b : Nat} {k : ABlk} (h : H.getD b .dead = k) (hk : k.live = true) : H[b]? = some k := by
  rw [List.getD_eq_getElem?_getD] at h
  cases hb : H[b]? with
  | none => rw [hb] at h; simp at h; subst h; simp [ABlk.live] at hk
  | some k' => rw [hb] at h; simp at h; subst h; rfl

/-- The cells that a load reads. -/
theorem load_ok {H : List ABlk} {a : AV} {size : Nat} {K : List AV → Prop} {v : Value} (hs : SimH w I ι H) (ha : ARep w I ι a v) (h : loadK H a size K) :
    ∃ us B o vs, K us ∧ v = .pointer (some ⟨B, o, none⟩) ∧ us.length = size ∧ vs.length = size ∧ w.rangeAt B o vs ∧ ∀ i u, us[i]? = some u → ARep w I ι u (vs.getD i undef) := by
  unfold loadK at h
  split at h
  · rename_i cs
    obtain ⟨h1, h2⟩ := chkE h
    have h1 := of_decide_eq_true h1
    cases p_inv ha with
    | box cs b o f hI hcell hr =>
      refine ⟨_, b, o, (List.range size).map f, h2, rfl, by simp; omega, by simp, ?_, ?_⟩
      · intro j x hj
        simp only [List.getElem?_map, Option.map_eq_some_iff] at hj
        obtain ⟨j', hj', rfl⟩ := hj
        have := List.getElem?_eq_some_iff.1 hj'
        obtain ⟨hlt, he⟩ := this
        simp at hlt he; subst he
        exact hcell j (by omega)
      · intro i u hu
        simp only [List.getElem?_map, Option.map_eq_some_iff] at hu
        obtain ⟨x, hx, rfl⟩ := hu
        have hlt : i < size := by
          have := (List.getElem?_eq_some_iff.1 hx).1
          simp at this; omega
        rw [List.getElem?_take_of_lt hlt] at hx
        rw [List.getD_eq_getElem?_getD, List.getElem?_map, List.getElem?_range hlt]
        exact .p (hr i x hx)
  · rename_i b off
    split at h
    · rename_i t l hb
      obtain ⟨h1, h2⟩ := chkE h
      have h1 := of_decide_eq_true h1
      obtain ⟨B, cs, g1, g2, _, g4, g5⟩ := hs.blk b _ (getD_of_getElem? hb rfl)
      cases ha with
      | ref _ _ B' hB =>
        rw [g1] at hB; obtain rfl := Option.some.inj hB
        refine ⟨_, B, off, (List.range size).map (fun i => cs.getD (off + i) undef), h2, rfl, by simp; omega, by simp, ?_, ?_⟩
        · intro j x hj
          simp only [List.getElem?_map, Option.map_eq_some_iff] at hj
          obtain ⟨j', hj', rfl⟩ := hj
          obtain ⟨hlt, he⟩ := List.getElem?_eq_some_iff.1 hj'
          simp at hlt he; subst he
          rw [cell_of_row w B (off + j) cs t (0, 0) g2]
          have : off + j < cs.size := by omega
          simp [Array.getD_eq_getD_getElem?, this]
        · intro i u hu
          have hlt : i < size := by
            have := (List.getElem?_eq_some_iff.1 hu).1
            simp at this; omega
          rw [List.getElem?_take_of_lt hlt, List.getElem?_drop] at hu
          rw [List.getD_eq_getElem?_getD, List.getElem?_map, List.getElem?_range hlt]
          exact g5 (off + i) u hu
    · exact h.elim
  · rename_i b sz i off
    split at h
    · rename_i t sz' xs hb
      obtain ⟨h1, h2⟩ := chkE h
      have h1 : sz = sz' := (of_decide_eq_true h1).symm
      subst h1
      obtain ⟨e, he, h3⟩ := optE h2
      obtain ⟨h4, h5⟩ := chkE h3
      have h4 := of_decide_eq_true h4
      cases ha with
      | elr _ _ _ _ B' hB =>
        rcases hs.blk b _ (getD_of_getElem? hb rfl) with ⟨g1, _⟩ | ⟨B, cs, g1, g2, _, g4, _, g6⟩
        · subst g1; simp at he
        · rw [g1] at hB; obtain rfl := Option.some.inj hB
          obtain ⟨ge, gr⟩ := g6 i e he
          have hil : i < xs.length := (List.getElem?_eq_some_iff.1 he).1
          have hmul : i * sz + sz ≤ xs.length * sz := by rw [← Nat.succ_mul]; exact Nat.mul_le_mul_right _ hil
          refine ⟨_, B, i * sz + off, (List.range size).map (fun j => cs.getD (i * sz + off + j) undef), h5, rfl, by simp; omega, by simp, ?_, ?_⟩
          · intro j x hj
            simp only [List.getElem?_map, Option.map_eq_some_iff] at hj
            obtain ⟨j', hj', rfl⟩ := hj
            obtain ⟨hlt, he'⟩ := List.getElem?_eq_some_iff.1 hj'
            simp at hlt he'; subst he'
            rw [cell_of_row w B (i * sz + off + j) cs t (0, 0) g2]
            have : i * sz + off + j < cs.size := by omega
            simp [Array.getD_eq_getD_getElem?, this]
          · intro j u hu
            simp only [List.getElem?_map, Option.map_eq_some_iff] at hu
            obtain ⟨x, hx, rfl⟩ := hu
            have hlt : j < size := by
              have := (List.getElem?_eq_some_iff.1 hx).1
              simp at this; omega
            rw [List.getElem?_take_of_lt hlt, List.getElem?_drop] at hx
            rw [List.getD_eq_getElem?_getD, List.getElem?_map, List.getElem?_range hlt]
            have := gr (off + j) x hx
            rw [← Nat.add_assoc] at this
            exact .p this
    · rename_i t l hb
      obtain ⟨h1, h2⟩ := chkE h
      have h1 := of_decide_eq_true h1
      obtain ⟨B, cs, g1, g2, _, g4, g5⟩ := hs.blk b _ (getD_of_getElem? hb rfl)
      cases ha with
      | elr _ _ _ _ B' hB =>
        rw [g1] at hB; obtain rfl := Option.some.inj hB
        refine ⟨_, B, i * sz + off, (List.range size).map (fun j => cs.getD (i * sz + off + j) undef), h2, rfl, by simp; omega, by simp, ?_, ?_⟩
        · intro j x hj
          simp only [List.getElem?_map, Option.map_eq_some_iff] at hj
          obtain ⟨j', hj', rfl⟩ := hj
          obtain ⟨hlt, he⟩ := List.getElem?_eq_some_iff.1 hj'
          simp at hlt he; subst he
          rw [cell_of_row w B (i * sz + off + j) cs t (0, 0) g2]
          have : i * sz + off + j < cs.size := by omega
          simp [Array.getD_eq_getD_getElem?, this]
        · intro j u hu
          have hlt : j < size := by
            have := (List.getElem?_eq_some_iff.1 hu).1
            simp at this; omega
          rw [List.getElem?_take_of_lt hlt, List.getElem?_drop] at hu
          rw [List.getD_eq_getElem?_getD, List.getElem?_map, List.getElem?_range hlt]
          exact g5 (i * sz + off + j) u hu
    · exact h.elim
  · exact h.elim

theorem there_of_block {B o n : Nat} {cs : Array Value} {t : TypeId} (h : w.heap[B]? = some (.cells cs t (0, 0))) (hn : o + n ≤ cs.size) : w.there B o n := fun j hj => by
  refine ⟨?_, frozen_of_row w B (o + j) cs t h⟩
  rw [cell_of_row w B (o + j) cs t (0, 0) h]
  simp; omega

theorem getD_setL (cs vs : List Value) (o i : Nat) (h : o + vs.length ≤ cs.length) : (setL cs o vs).toArray.getD i undef = if o ≤ i ∧ i < o + vs.length then vs.getD (i - o) undef else cs.getD i undef := by
  rw [Array.getD_eq_getD_getElem?, List.getElem?_toArray, setL_get h, List.getD_eq_getElem?_getD, List.getD_eq_getElem?_getD]
  split <;> rfl

theorem arr_getD (a : Array Value) (i : Nat) (d : Value) : a.getD i d = a.toList.getD i d := by
  rw [Array.getD_eq_getD_getElem?, List.getD_eq_getElem?_getD, Array.getElem?_toList]

/-- The cells that a store writes. -/
theorem store_ok {H : List ABlk} {a : AV} {vs : List AV} {K : List ABlk → Prop} {v : Value} {cv : List Value} (hs : SimH w I ι H) (ha : ARep w I ι a v) (h : storeK H a vs K)
    (hn : cv.length = vs.length) (hv : ∀ i u, vs[i]? = some u → ARep w I ι u (cv.getD i undef)) :
    ∃ H' B o, K H' ∧ v = .pointer (some ⟨B, o, none⟩) ∧ w.there B o cv.length ∧ SimH (w.setCells B o cv) I ι H' ∧ Ex H.length w I ι H (w.setCells B o cv) I ι H' := by
  have cellsCase : ∀ (b o B : Nat) (t : TypeId) (l : List AV), H[b]? = some (.cells t l) → ι b = some B → o + vs.length ≤ l.length → K (H.set b (.cells t (setL l o vs))) → v = .pointer (some ⟨B, o, none⟩) →
      ∃ H' B o, K H' ∧ v = .pointer (some ⟨B, o, none⟩) ∧ w.there B o cv.length ∧ SimH (w.setCells B o cv) I ι H' ∧ Ex H.length w I ι H (w.setCells B o cv) I ι H' := by
    intro b o B t l hb hB hle hK hv'
    obtain ⟨B', cs, g1, g2, g3, g4, g5⟩ := hs.blk b _ hb
    rw [hB] at g1; obtain rfl := Option.some.inj g1
    have hle' : o + cv.length ≤ cs.size := by omega
    have hw := heap_setCells w B t cv o cs g2 hle'
    have hsz : (setL cs.toList o cv).toArray.size = cs.size := by simp [setL_length (l := cs.toList) (o := o) (vs := cv) (by simpa using hle')]
    have hI : ∀ C, I C → (w.setCells B o cv).heap[C]? = w.heap[C]? := fun C hC => (wrote_setCells w B cv o).old C (fun e => g3 (e ▸ hC))
    have hsh : Shape w (w.setCells B o cv) := fun C cs0 t0 fr h => by
      by_cases e : C = B
      · subst e
        rw [g2] at h
        injection h with h; injection h with h1' h2' h3'
        subst h1' h2' h3'
        exact ⟨_, hw, hsz⟩
      · exact ⟨cs0, by rw [(wrote_setCells w B cv o).old C e]; exact h, rfl⟩
    have hlive : live H b := ⟨_, hb, rfl⟩
    have key := (wrote_setCells w B cv o).sim hs hlive hB g2 hw hsz (.cells t (setL l o vs)) (by
      refine ⟨B, _, hB, hw, g3, by rw [hsz, setL_length hle]; exact g4, fun i u hu => ?_⟩
      rw [getD_setL _ _ _ _ (by simpa using hle')]
      rw [setL_get hle] at hu
      split at hu
      · rename_i hc
        rw [if_pos (by omega)]
        exact (hv _ u hu).move hI (fun _ h => h) (fun _ _ h => h) hsh
      · rename_i hc
        rw [if_neg (by omega), ← arr_getD]
        exact (g5 i u hu).move hI (fun _ h => h) (fun _ _ h => h) hsh)
    exact ⟨_, B, o, hK, hv', there_of_block g2 hle', key.1, key.2⟩
  unfold storeK at h
  split at h
  · rename_i b off
    split at h
    · rename_i t l hb
      obtain ⟨h1, h2⟩ := chkE h
      have h1 := of_decide_eq_true h1
      cases ha with
      | ref _ _ B hB => exact cellsCase b off B t l (getD_of_getElem? hb rfl) hB h1 h2 rfl
    · exact h.elim
  · rename_i b sz i off
    split at h
    · rename_i t sz' xs hb
      obtain ⟨h1, h2⟩ := chkE h
      have h1 : sz = sz' := (of_decide_eq_true h1).symm
      subst h1
      obtain ⟨e, he, h3⟩ := optE h2
      obtain ⟨h4, h5⟩ := chkE h3
      have h4 := of_decide_eq_true h4
      obtain ⟨ps, hps, h6⟩ := optE h5
      have hvs := pvs_ok hps
      subst hvs
      simp only [List.length_map] at h4 hn
      have hb' := getD_of_getElem? hb rfl
      cases ha with
      | elr _ _ _ _ B' hB =>
        rcases hs.blk b _ hb' with ⟨g1, _⟩ | ⟨B, cs, g1, g2, g3, g4, gl, g6⟩
        · subst g1; simp at he
        · rw [g1] at hB; obtain rfl := Option.some.inj hB
          obtain ⟨ge, gr⟩ := g6 i e he
          have hil : i < xs.length := (List.getElem?_eq_some_iff.1 he).1
          have hmul : i * sz + sz ≤ xs.length * sz := by rw [← Nat.succ_mul]; exact Nat.mul_le_mul_right _ hil
          have hle' : i * sz + off + cv.length ≤ cs.size := by omega
          have hw := heap_setCells w B t cv (i * sz + off) cs g2 hle'
          have hsz : (setL cs.toList (i * sz + off) cv).toArray.size = cs.size := by simp [setL_length (l := cs.toList) (o := i * sz + off) (vs := cv) (by simpa using hle')]
          have hI : ∀ C, I C → (w.setCells B (i * sz + off) cv).heap[C]? = w.heap[C]? := fun C hC => (wrote_setCells w B cv (i * sz + off)).old C (fun e => g3 (e ▸ hC))
          have hlive : live H b := ⟨_, hb', rfl⟩
          have hel : (setL e off ps).length = e.length := setL_length (by omega)
          have key := (wrote_setCells w B cv (i * sz + off)).sim hs hlive g1 g2 hw hsz (.row t sz (xs.set i (setL e off ps))) (by
            refine .inr ⟨B, _, g1, hw, g3, by rw [hsz]; simpa using g4, by simpa using gl, fun j e' hj => ?_⟩
            by_cases hji : j = i
            · subst hji
              rw [List.getElem?_set_self hil] at hj
              obtain rfl := Option.some.inj hj
              refine ⟨hel.trans ge, fun k u hu => ?_⟩
              rw [getD_setL _ _ _ _ (by simpa using hle')]
              rw [setL_get (by omega)] at hu
              split at hu
              · rename_i hc
                rw [if_pos (by omega), show j * sz + k - (j * sz + off) = k - off by omega]
                exact (p_inv (hv (k - off) (.p u) (by rw [List.getElem?_map, hu]; rfl))).move hI (fun _ h => h)
              · rename_i hc
                have hk : k < e.length := (List.getElem?_eq_some_iff.1 hu).1
                rw [if_neg (by omega), ← arr_getD]
                exact (gr k u hu).move hI (fun _ h => h)
            · rw [List.getElem?_set_ne (by omega)] at hj
              obtain ⟨q1, q2⟩ := g6 j e' hj
              refine ⟨q1, fun k u hu => ?_⟩
              have hk : k < e'.length := (List.getElem?_eq_some_iff.1 hu).1
              have hne : ¬ (i * sz + off ≤ j * sz + k ∧ j * sz + k < i * sz + off + cv.length) := by
                rcases Nat.lt_or_ge j i with hlt | hge
                · have : j * sz + sz ≤ i * sz := by rw [← Nat.succ_mul]; exact Nat.mul_le_mul_right _ hlt
                  omega
                · have : i * sz + sz ≤ j * sz := by rw [← Nat.succ_mul]; exact Nat.mul_le_mul_right _ (by omega)
                  omega
              rw [getD_setL _ _ _ _ (by simpa using hle'), if_neg hne, ← arr_getD]
              exact (q2 k u hu).move hI (fun _ h => h))
          exact ⟨_, B, _, h6, rfl, there_of_block g2 hle', key.1, key.2⟩
    · rename_i t l hb
      obtain ⟨h1, h2⟩ := chkE h
      have h1 := of_decide_eq_true h1
      cases ha with
      | elr _ _ _ _ B hB => exact cellsCase b (i * sz + off) B t l (getD_of_getElem? hb rfl) hB h1 h2 rfl
    · exact h.elim
  · exact h.elim

end
end Go.Proofs.YtinfbclgkghgaaaGreat.AL

/- The abstract layer (second make), part f: each operation, proved against the machine (first half). -/
namespace Go.Proofs.YtinfbclgkghgaaaGreat.AL
open Go Go.RowKit

theorem wp_val {P : Program} {o : Oper} {a : Act} {w w' : World} {v : Value} {next : Act → World → Prop} {Q : Exit → Act → World → Prop}
    (h : (execOp a.eval o).run P w = .ok (.value v) w') (hn : next (a.put o.dst v) w') : o.wp P a w next Q := by
  unfold Oper.wp; rw [h]; exact hn
theorem wp_skp {P : Program} {o : Oper} {a : Act} {w w' : World} {next : Act → World → Prop} {Q : Exit → Act → World → Prop}
    (h : (execOp a.eval o).run P w = .ok .skip w') (hn : next (a.put o.dst undef) w') : o.wp P a w next Q := by
  unfold Oper.wp; rw [h]; exact hn

def Nx (w : World) (I : Nat → Prop) (ι : Nat → Option Nat) (H : List ABlk) (K : AV → List ABlk → Prop) (f : Value → World → Prop) : Prop :=
  ∀ v w' r H' I' ι', K r H' → ARep w' I' ι' r v → SimH w' I' ι' H' → Ex H.length w I ι H w' I' ι' H' → f v w'

section
variable {P : Program} {T : TTab} {w : World} {I : Nat → Prop} {ι : Nat → Option Nat} {H : List ABlk} {K : AV → List ABlk → Prop} {o : Oper} {a : Act} {next : Act → World → Prop} {Q : Exit → Act → World → Prop} {ev : Operand → AV}

theorem Nx.here {f : Value → World → Prop} (n : Nx w I ι H K f) (hs : SimH w I ι H) {r : AV} {v : Value} (hk : K r H) (hr : ARep w I ι r v) : f v w :=
  n v w r H I ι hk hr hs (Ex.refl (Nat.le_refl _))

theorem run_sizeOf {t : TypeId} {i : TypeInfo} (h : P.info? t = some i) (w : World) : (sizeOf t).run P w = .ok i.size w := by simp [sizeOf, typeInfo, h]
theorem run_zeroValue {t : TypeId} {i : TypeInfo} {z : Value} (h : P.info? t = some i) (hz : i.zero = some z) (w : World) : (zeroValue t).run P w = .ok z w := by simp [zeroValue, typeInfo, h, hz]
theorem run_newVar (t : TypeId) (v : Value) (w : World) : (newVar t v).run P w = .ok ⟨w.heap.size, 0, none⟩ (w.alloc (.cells v.cells t)) := by simp [newVar, newRow]

theorem op_move {x : Operand} (ho : o.op = .move x ∨ o.op = .assign x) (hs : SimH w I ι H) (hx : ARep w I ι (ev x) (a.eval x)) (h : K (ev x) H) (hn : Nx w I ι H K fun v w' => next (a.put o.dst v) w') : o.wp P a w next Q := by
  refine wp_val (v := a.eval x) (w' := w) ?_ (hn.here hs h hx)
  rcases ho with ho | ho <;> simp [execOp, ho]

theorem op_pick {c x y : Operand} (ho : o.op = .pick c x y) (hs : SimH w I ι H) (hc : ARep w I ι (ev c) (a.eval c)) (hx : ARep w I ι (ev x) (a.eval x)) (hy : ARep w I ι (ev y) (a.eval y))
    (h : match ev c with | .p (.raw (.bool t)) => K (pickV t (ev x) (ev y)) H | _ => False) (hn : Nx w I ι H K fun v w' => next (a.put o.dst v) w') : o.wp P a w next Q := by
  split at h
  · rename_i t e1
    rw [e1] at hc
    have h1 := rep_raw hc
    refine wp_val (v := cond t (a.eval x) (a.eval y)) (w' := w) ?_ (hn.here hs h ?_)
    · cases t <;> simp [execOp, ho, h1, asBool]
    · unfold pickV
      generalize ev x = xx at hx ⊢
      generalize ev y = xy at hy ⊢
      split
      · have v1 := rep_raw hx
        have v2 := rep_raw hy
        rw [v1, v2]
        cases t
        · exact .p (.raw _ rfl)
        · exact .p (.raw _ rfl)
      · cases t
        · exact hy
        · exact hx
  · exact h.elim

/-- A new block of cells. -/
theorem new_cells {cs : Array Value} {t : TypeId} {l : List AV} (hs : SimH w I ι H) (hn : l.length ≤ cs.size) (hr : ∀ i u, l[i]? = some u → ARep w I ι u (cs.getD i undef))
    {w' : World} (g : Grew w w' (.cells cs t)) : SimH w' I (upd ι H.length w.heap.size) (H ++ [.cells t l]) ∧ Ex H.length w I ι H w' I (upd ι H.length w.heap.size) (H ++ [.cells t l]) := by
  refine g.sim hs _ ⟨w.heap.size, cs, by simp [upd], g.new, fun h => by have := hs.Ilt _ h; omega, hn, fun i u hu => ?_⟩
  refine (hr i u hu).move (fun B hB => g.old B (hs.Ilt B hB)) (fun _ h => h) (fun b B hb => ?_) g.shape
  have hlt : b < H.length := by
    rcases Nat.lt_or_ge b H.length with h | h
    · exact h
    · rw [hs.dom b h] at hb; exact absurd hb (by simp)
  unfold upd; rw [if_neg (by omega)]; exact hb

theorem op_alloc {t : TypeId} (hT : TOk P T) (ho : o.op = .alloc t) (hs : SimH w I ι H) (h : optK (T t) fun ti => K (.ref H.length 0) (H ++ [.cells t (zeroA ti)])) (hn : Nx w I ι H K fun v w' => next (a.put o.dst v) w') : o.wp P a w next Q := by
  obtain ⟨ti, hti, hk⟩ := optE h
  obtain ⟨i, d, z, h1, h2, h3, h4, h5, h6, h7, h8⟩ := tok hT hti
  have g := grew_alloc w (.cells z.cells t)
  have k := new_cells (l := zeroA ti) hs (by simp [zeroA, h7]) (fun i u hu => by
    simp only [zeroA, h7, List.getElem?_map, Option.map_eq_some_iff] at hu
    obtain ⟨y, hy, rfl⟩ := hu
    rw [arr_getD, List.getD_eq_getElem?_getD, hy]
    exact .p (.raw y (h8 y (List.mem_of_getElem? hy)))) g
  refine wp_val (v := .pointer (some ⟨w.heap.size, 0, none⟩)) (w' := w.alloc (.cells z.cells t)) ?_ (hn _ _ _ _ _ _ hk (.ref _ _ _ (by simp [upd])) k.1 k.2)
  simp [execOp, ho, Instr.alloc, run_zeroValue h1 h3, run_newVar]

theorem op_box {t : TypeId} {x : Operand} (ho : o.op = .box t x) (hs : SimH w I ι H) (hx : ARep w I ι (ev x) (a.eval x)) (h : optK (ev x).cells? fun l => K (.ref H.length 0) (H ++ [.cells t l])) (hn : Nx w I ι H K fun v w' => next (a.put o.dst v) w') : o.wp P a w next Q := by
  obtain ⟨l, hl, hk⟩ := optE h
  obtain ⟨h1, h2, _⟩ := cells_ok hx hl
  have g := grew_alloc w (.cells (a.eval x).cells t)
  have k := new_cells (l := l) hs (by omega) h2 g
  refine wp_val (v := .pointer (some ⟨w.heap.size, 0, none⟩)) (w' := w.alloc (.cells (a.eval x).cells t)) ?_ (hn _ _ _ _ _ _ hk (.ref _ _ _ (by simp [upd])) k.1 k.2)
  simp [execOp, ho, Instr.box, run_newVar]

theorem isRow_tdOf (d : TypeDesc) : isRowTD (tdOf d) = d.isRow := by cases d <;> rfl

theorem op_load {t : TypeId} {x : Operand} (hT : TOk P T) (ho : o.op = .load t x) (hs : SimH w I ι H) (hx : ARep w I ι (ev x) (a.eval x))
    (h : optK (T t) fun ti => chk (isRowTD ti.d || ti.size == 1) <| loadK H (ev x) ti.size fun us => K (mkVal ti.d us) H) (hn : Nx w I ι H K fun v w' => next (a.put o.dst v) w') : o.wp P a w next Q := by
  obtain ⟨ti, hti, hk⟩ := optE h
  obtain ⟨i, d, z, h1, h2, h3, h4, h5, h6, h7, h8⟩ := tok hT hti
  obtain ⟨c1, c2⟩ := chkE hk
  obtain ⟨us, B, off, vs, k1, k2, k3, k4, k5, k6⟩ := load_ok hs hx c2
  cases hrow : isRowTD ti.d with
  | true =>
    have hd : d.isRow = true := by rw [← isRow_tdOf, ← h4]; exact hrow
    refine wp_val (v := .agg vs.toArray) (w' := w) ?_ (hn.here hs k1 ?_)
    · have hrun := run_loadAt_mid (P := P) w B off t vs d k5 h2 hd (by rw [h1, k4]; simp [h5])
      simp [execOp, ho, k2, hrun]
    · have : mkVal ti.d us = .agg us := by cases hdd : ti.d <;> simp [hdd, isRowTD] at hrow <;> rfl
      rw [this]
      exact .agg us vs.toArray (by simp [k3, k4]) (fun i u hu => by rw [arr_getD]; exact k6 i u hu)
  | false =>
    have hd : d.isRow = false := by rw [← isRow_tdOf, ← h4]; exact hrow
    rw [hrow] at c1
    have hsz : ti.size = 1 := by simpa using c1
    rw [hsz] at k3 k4
    obtain ⟨u, rfl⟩ := List.length_eq_one_iff.1 k3
    obtain ⟨v, rfl⟩ := List.length_eq_one_iff.1 k4
    have hcell : w.cell? ⟨B, off, none⟩ = some v := by simpa using k5 0 v rfl
    refine wp_val (v := v) (w' := w) ?_ (hn.here hs k1 ?_)
    · have hagg : (isAgg t).run P w = .ok false w := by
        unfold isAgg
        rw [Sem.run_bind, run_underlying h2 w]
        cases d <;> simp_all
      simp [execOp, ho, k2, Instr.loadAt, Instr.sureAddr, loadVar, hagg, load, Sem.run, hcell]
    · have : mkVal ti.d [u] = u := by cases hdd : ti.d <;> simp [hdd, isRowTD] at hrow <;> rfl
      rw [this]
      exact k6 0 u rfl

theorem op_store {t : TypeId} {p x : Operand} (hT : TOk P T) (ho : o.op = .store t p x) (hs : SimH w I ι H) (hp : ARep w I ι (ev p) (a.eval p)) (hx : ARep w I ι (ev x) (a.eval x))
    (h : optK (T t) fun ti => optK (ev x).cells? fun vs => chk (vs.length == ti.size) (storeK H (ev p) vs fun H' => K .top H')) (hn : Nx w I ι H K fun v w' => next (a.put o.dst v) w') : o.wp P a w next Q := by
  obtain ⟨ti, hti, hk⟩ := optE h
  obtain ⟨i, d, z, h1, h2, h3, h4, h5, h6, h7, h8⟩ := tok hT hti
  obtain ⟨vs, hvs, hk⟩ := optE hk
  obtain ⟨c1, c2⟩ := chkE hk
  have c1 : vs.length = ti.size := by simpa using c1
  obtain ⟨e1, e2, e3⟩ := cells_ok hx hvs
  obtain ⟨H', B, off, k1, k2, k3, k4, k5⟩ := store_ok (cv := (a.eval x).cells.toList) hs hp c2 (by simpa using e1) (fun i u hu => by rw [← arr_getD]; exact e2 i u hu)
  refine wp_skp (w' := w.setCells B off (a.eval x).cells.toList) ?_ (hn undef _ _ _ _ _ k1 (.top _) k4 k5)
  have hrun := run_storeCells_cells (P := P) B off (a.eval x).cells.toList 0 w (fun j hj => by simpa using (k3 j hj).1) (fun j hj => by simpa using (k3 j hj).2) e3
  simp only [Nat.add_zero] at hrun
  have hsz : (a.eval x).cells.size = i.size := by omega
  simp [execOp, ho, k2, Instr.storeAt, Instr.sureAddr, storeVar, run_sizeOf h1, hsz, hrun]

end
end Go.Proofs.YtinfbclgkghgaaaGreat.AL
