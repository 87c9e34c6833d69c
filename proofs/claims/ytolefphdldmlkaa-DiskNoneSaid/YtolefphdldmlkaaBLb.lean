/- The abstract layer (second make), part b: what a call and a piece of code do, by abstract states; the rules of the code's forms. -/
import Derived.Test.YtolefphdldmlkaaBLa
namespace Go.Proofs.Ytolefphdldmlkaa.AL
open Go

/-- A frame: how many slots, and what is known of some; what stands further ahead counts. -/
structure Fr where
  n : Nat
  l : List (Nat × AV)

structure St where
  fr : Fr
  H : List ABlk

def look : List (Nat × AV) → Nat → Option AV
  | [], _ => none
  | (k, u) :: r, t => match Nat.beq k t with
    | true => some u
    | false => look r t

theorem look_self (k : Nat) (u : AV) (r : List (Nat × AV)) : look ((k, u) :: r) k = some u := by simp [look]
theorem look_other {k t : Nat} (u : AV) (r : List (Nat × AV)) (h : k ≠ t) : look ((k, u) :: r) t = look r t := by
  have : Nat.beq k t = false := by
    cases e : Nat.beq k t with
    | false => rfl
    | true => exact absurd (Nat.eq_of_beq_eq_true e) h
  simp [look, this]

def FrOk (w : World) (I : Nat → Prop) (ι : Nat → Option Nat) (fr : Fr) (tmps : Array Value) : Prop :=
  tmps.size = fr.n ∧ ∀ t u, look fr.l t = some u → ARep w I ι u (tmps.getD t undef)

/-- N: where the heap ended when the activation began; ro: the loop in whose round it is. -/
structure Sim (N : Nat) (w : World) (I : Nat → Prop) (ι : Nat → Option Nat) (s : St) (a : Act) : Prop where
  fr : FrOk w I ι s.fr a.tmps
  H : SimH w I ι s.H
  hN : N ≤ w.heap.size
  d : ∀ d ∈ a.defers, Mark N w I ι s.H d
  nd : a.defers.Pairwise (fun x y => x.target ≠ y.target)

def fen : Option Nat → Fence
  | none => Fence.wide
  | some l => Fence.wide.inRound l
theorem fen_fn (ro : Option Nat) (f : FuncId) : (fen ro).fn f := by cases ro <;> exact trivial
theorem fen_depth (ro : Option Nat) : (fen ro).depth = none := by cases ro <;> rfl
theorem fen_round (ro : Option Nat) : (fen ro).round = ro := by cases ro <;> rfl

/-- m: the first blocks came in; their places stay. -/
structure Ex (m : Nat) (w0 : World) (I0 : Nat → Prop) (ι0 : Nat → Option Nat) (H0 : List ABlk) (w : World) (I : Nat → Prop) (ι : Nat → Option Nat) (H : List ABlk) : Prop where
  ext : Ext w0 I0 ι0 H0 w I ι H
  keep : ∀ b, b < m → ι b = ι0 b
  len : m ≤ H.length

theorem Ex.refl {m : Nat} {w : World} {I : Nat → Prop} {ι : Nat → Option Nat} {H : List ABlk} (h : m ≤ H.length) : Ex m w I ι H w I ι H := ⟨Ext.refl _ _ _ _, fun _ _ => rfl, h⟩
theorem Ex.trans {m : Nat} {w0 w1 w2 : World} {I0 I1 I2 : Nat → Prop} {ι0 ι1 ι2 : Nat → Option Nat} {H0 H1 H2 : List ABlk}
    (h : Ex m w0 I0 ι0 H0 w1 I1 ι1 H1) (k : Ex m w1 I1 ι1 H1 w2 I2 ι2 H2) : Ex m w0 I0 ι0 H0 w2 I2 ι2 H2 :=
  ⟨h.ext.trans k.ext, fun b hb => (k.keep b hb).trans (h.keep b hb), k.len⟩
theorem Ex.less {m k : Nat} {w0 w : World} {I0 I : Nat → Prop} {ι0 ι : Nat → Option Nat} {H0 H : List ABlk} (h : Ex m w0 I0 ι0 H0 w I ι H) (hk : k ≤ m) : Ex k w0 I0 ι0 H0 w I ι H :=
  ⟨h.ext, fun b hb => h.keep b (by omega), Nat.le_trans hk h.len⟩

/-- What a call of function f at abstract arguments and blocks comes to. -/
def AF (P : Program) (f : FuncId) (args : List AV) (H : List ABlk) (R : AV → List ABlk → Prop) : Prop :=
  (∃ fn, P.funcs[f]? = some fn ∧ fn.body.isNone = false ∧ (fn.name == "runtime.NumGoroutine") = false) ∧
  ∀ (w : World) (I : Nat → Prop) (ι : Nat → Option Nat) (vals : Array Value), vals.size = args.length → (∀ i u, args[i]? = some u → ARep w I ι u (vals.getD i undef)) → SimH w I ι H →
    Calls P f vals w (fun e w' => ∃ v r H' I' ι', e = .returned v ∧ R r H' ∧ ARep w' I' ι' r v ∧ SimH w' I' ι' H' ∧ Ex H.length w I ι H w' I' ι' H')

theorem AF.mono {P : Program} {f : FuncId} {args : List AV} {H : List ABlk} {R R' : AV → List ABlk → Prop} (h : AF P f args H R) (hR : ∀ r H', R r H' → R' r H') : AF P f args H R' :=
  ⟨h.1, fun w I ι vals hn ha hs => (h.2 w I ι vals hn ha hs).mono fun _ _ ⟨v, r, H', I', ι', e, hr, k⟩ => ⟨v, r, H', I', ι', e, hR _ _ hr, k⟩⟩

/-- What a call of yield comes to: the round of the loop whose record block b is. -/
def AY (P : Program) (b : Nat) (args : List AV) (H : List ABlk) (R : AV → List ABlk → Prop) : Prop :=
  ∀ (w : World) (I : Nat → Prop) (ι : Nat → Option Nat) (vals : Array Value) (B : Nat), vals.size = args.length → (∀ i u, args[i]? = some u → ARep w I ι u (vals.getD i undef)) → SimH w I ι H → ι b = some B →
    ∃ fn tmps assign body, (Instr.yield B vals).run P w = .ok (.round B fn tmps assign body) w ∧
      RoundIn Fence.wide 0 P B fn tmps assign body w (fun e w' => ∃ v r H' I' ι', e = .returned v ∧ R r H' ∧ ARep w' I' ι' r v ∧ SimH w' I' ι' H' ∧ Ex H.length w I ι H w' I' ι' H')

theorem AY.mono {P : Program} {b : Nat} {args : List AV} {H : List ABlk} {R R' : AV → List ABlk → Prop} (h : AY P b args H R) (hR : ∀ r H', R r H' → R' r H') : AY P b args H R' :=
  fun w I ι vals B hn ha hs hb => let ⟨fn, tmps, assign, body, h1, h2⟩ := h w I ι vals B hn ha hs hb
    ⟨fn, tmps, assign, body, h1, h2.mono fun _ _ ⟨v, r, H', I', ι', e, hr, k⟩ => ⟨v, r, H', I', ι', e, hR _ _ hr, k⟩⟩

def After (N m : Nat) (w : World) (I : Nat → Prop) (ι : Nat → Option Nat) (H : List ABlk) (Q : Exit → St → Prop) : Exit → Act → World → Prop :=
  fun e a' w' => ∃ s' I' ι', Q e s' ∧ Sim N w' I' ι' s' a' ∧ Ex m w I ι H w' I' ι' s'.H

/-- What a piece of code does, from an abstract state on. -/
def AW (P : Program) (ro : Option Nat) (m : Nat) (c : Code) (s : St) (Q : Exit → St → Prop) : Prop :=
  ∀ (N : Nat) (w : World) (I : Nat → Prop) (ι : Nat → Option Nat) (a : Act), Sim N w I ι s a → m ≤ s.H.length → c.wpIn (fen ro) 0 P (After N m w I ι s.H Q) a w

section
variable {P : Program} {ro : Option Nat} {m : Nat} {s : St} {Q : Exit → St → Prop}

theorem AW.mono {c : Code} {Q' : Exit → St → Prop} (h : AW P ro m c s Q) (hq : ∀ e s, Q e s → Q' e s) : AW P ro m c s Q' :=
  fun N w I ι a hs hm => wpIn_mono (h N w I ι a hs hm) fun _ _ _ ⟨s', I', ι', q, r⟩ => ⟨s', I', ι', hq _ _ q, r⟩

def thenA (N : St → Prop) (Q : Exit → St → Prop) : Exit → St → Prop
  | .normal, s => N s
  | e, s => Q e s

theorem After.step {N : Nat} {w : World} {I : Nat → Prop} {ι : Nat → Option Nat} {H : List ABlk} {w1 : World} {I1 : Nat → Prop} {ι1 : Nat → Option Nat} {H1 : List ABlk} (hx : Ex m w I ι H w1 I1 ι1 H1) {Q : Exit → St → Prop}
    {e : Exit} {a' : Act} {w' : World} (h : After N m w1 I1 ι1 H1 Q e a' w') : After N m w I ι H Q e a' w' := by
  obtain ⟨s', I', ι', q, hs, k⟩ := h
  exact ⟨s', I', ι', q, hs, hx.trans k⟩

theorem aw_seq {x y : Code} (h : AW P ro m x s (thenA (fun s' => AW P ro m y s' Q) Q)) : AW P ro m (.seq x y) s Q := fun N w I ι a hs hm => by
  refine wpIn_seq (wpIn_mono (h N w I ι a hs hm) ?_)
  rintro e a1 w1 ⟨s1, I1, ι1, q, hs1, hx⟩
  cases e with
  | normal => exact wpIn_mono (q N w1 I1 ι1 a1 hs1 hx.len) fun _ _ _ hh => hh.step hx
  | _ => exact ⟨s1, I1, ι1, q, hs1, hx⟩

theorem aw_skip (h : Q .normal s) : AW P ro m .skip s Q := fun _ _ I ι _ hs hm => wpIn_skip ⟨s, I, ι, h, hs, Ex.refl hm⟩
theorem aw_exit {id : Nat} (h : Q (.exit id) s) : AW P ro m (.exit id) s Q := fun _ _ I ι _ hs hm => wpIn_exit ⟨s, I, ι, h, hs, Ex.refl hm⟩
theorem aw_ret (h : Q .ret s) : AW P ro m .ret s Q := fun _ _ I ι _ hs hm => wpIn_ret ⟨s, I, ι, h, hs, Ex.refl hm⟩

def inBlockA (id : Nat) (Q : Exit → St → Prop) : Exit → St → Prop
  | .exit id', s => if id' = id then Q .normal s else Q (.exit id') s
  | e, s => Q e s

theorem aw_block {id : Nat} {c : Code} (h : AW P ro m c s (inBlockA id Q)) : AW P ro m (.block id c) s Q := fun N w I ι a hs hm => by
  refine wpIn_block (wpIn_mono (h N w I ι a hs hm) ?_)
  rintro e a1 w1 ⟨s1, I1, ι1, q, hs1, hx⟩
  cases e with
  | exit id' =>
    simp only [inBlockA] at q
    simp only [Exit.inBlock]
    split at q
    · rename_i he; rw [if_pos he]; exact ⟨s1, I1, ι1, q, hs1, hx⟩
    · rename_i he; rw [if_neg he]; exact ⟨s1, I1, ι1, q, hs1, hx⟩
  | _ => exact ⟨s1, I1, ι1, q, hs1, hx⟩

def evX (fr : Fr) : Operand → Option AV
  | .tmp t => look fr.l t
  | .const v => match v.oneCell' with | true => some (.p (.raw v)) | false => some .top
  | .func f => some (.clo (.func f) [])
  | .global _ => none
def evalA (fr : Fr) (x : Operand) : AV := (evX fr x).getD .top

theorem const_ok {w : World} {I : Nat → Prop} {ι : Nat → Option Nat} (v : Value) : ARep w I ι ((match v.oneCell' with | true => some (AV.p (.raw v)) | false => some AV.top).getD AV.top) v := by
  split
  · rename_i h1; exact .p (.raw v h1)
  · exact .top v

theorem evalA_ok {w : World} {I : Nat → Prop} {ι : Nat → Option Nat} {fr : Fr} {a : Act} (h : FrOk w I ι fr a.tmps) (x : Operand) : ARep w I ι (evalA fr x) (a.eval x) := by
  cases x with
  | tmp t =>
    show ARep w I ι ((look fr.l t).getD .top) (a.tmps.getD t undef)
    cases hf : look fr.l t with
    | none => exact .top _
    | some u => exact h.2 t u hf
  | const v => exact const_ok v
  | global g => exact .top _
  | func f => exact .clo (.func f) [] #[] rfl (fun i u h => by simp at h)

/-- A test. -/
def boolK (b : Bool) (t f : Prop) : Prop := match b with | true => t | false => f
theorem boolI {b : Bool} {t f : Prop} (ht : b = true → t) (hf : b = false → f) : boolK b t f := by
  cases b
  · exact hf rfl
  · exact ht rfl

def condA (x : Option AV) (K : Bool → Prop) : Prop :=
  match x with
  | some (.p (.raw (.bool b))) => boolK b (K true) (K false)
  | _ => False

theorem aw_cond {c : Operand} {x y : Code} (h : condA (evX s.fr c) (fun b => match b with | true => AW P ro m x s Q | false => AW P ro m y s Q)) : AW P ro m (.cond c x y) s Q := fun N w I ι a hs hm => by
  have he := evalA_ok hs.fr c
  unfold evalA at he
  generalize hx : evX s.fr c = z at he h
  unfold condA at h
  split at h
  · rename_i b
    replace he : ARep w I ι (.p (.raw (.bool b))) (a.eval c) := he
    cases he with
    | p hp =>
      generalize hv : a.eval c = v at hp
      cases hp
      refine wpIn_cond hv ?_
      cases b
      · exact h N w I ι a hs hm
      · exact h N w I ι a hs hm
  · exact h.elim

theorem exists_least {p : Nat → Prop} (h : ∃ n, p n) : ∃ n, p n ∧ ∀ k, p k → n ≤ k := by
  obtain ⟨n, hn⟩ := h
  induction n using Nat.strongRecOn with
  | _ n ih =>
    by_cases hk : ∃ k, k < n ∧ p k
    · obtain ⟨k, hk1, hk2⟩ := hk
      exact ih k hk1 hk2
    · exact ⟨n, hn, fun k hpk => Nat.le_of_not_lt fun hlt => hk ⟨k, hlt, hpk⟩⟩

theorem aw_loop {c : Code} (Inv : Nat → St → Prop) (n : Nat) (h0 : Inv n s)
    (round : ∀ n s, Inv n s → AW P ro m c s (thenA (fun s' => ∃ k, k < n ∧ Inv k s') Q)) : AW P ro m (.loop c) s Q := fun N w I ι a hs hm => by
  classical
  let J : Nat → Act → World → Prop := fun n a1 w1 => ∃ s1 I1 ι1, Inv n s1 ∧ Sim N w1 I1 ι1 s1 a1 ∧ Ex m w I ι s.H w1 I1 ι1 s1.H
  refine wpIn_loop (fun a1 w1 => ∃ n, J n a1 w1) (fun a1 w1 => if h : ∃ n, J n a1 w1 then (exists_least h).choose else 0) ⟨n, s, I, ι, h0, hs, Ex.refl hm⟩ ?_
  intro a1 w1 hJ
  obtain ⟨s1, I1, ι1, hI, hs1, hx⟩ := (exists_least hJ).choose_spec.1
  refine wpIn_mono (round _ s1 hI N w1 I1 ι1 a1 hs1 hx.len) ?_
  rintro e a2 w2 ⟨s2, I2, ι2, q, hs2, hx2⟩
  cases e with
  | normal =>
    obtain ⟨k, hk, hI2⟩ := q
    have hJ2 : J k a2 w2 := ⟨s2, I2, ι2, hI2, hs2, hx.trans hx2⟩
    refine ⟨⟨k, hJ2⟩, ?_⟩
    show (if h : ∃ n, J n a2 w2 then (exists_least h).choose else 0) < (if h : ∃ n, J n a1 w1 then (exists_least h).choose else 0)
    rw [dif_pos ⟨k, hJ2⟩, dif_pos hJ]
    exact Nat.lt_of_le_of_lt ((exists_least (p := fun n => J n a2 w2) ⟨k, hJ2⟩).choose_spec.2 k hJ2) hk
  | _ => exact ⟨s2, I2, ι2, q, hs2, hx.trans hx2⟩

end
end Go.Proofs.Ytolefphdldmlkaa.AL
