/- The abstract layer (second make), part m: operations that are told step by step; regions in the text's order. -/
import Derived.Test.YtolefphdldmlkaaBLl2
namespace Go.Proofs.Ytolefphdldmlkaa.AL
open Go Go.RowKit

def putA (fr : Fr) : Option Tmp → AV → Fr
  | some d, u => ⟨fr.n, (d, u) :: fr.l⟩
  | none, _ => fr
def litB (b : Bool) : AV := .p (.raw (.bool b))
def dstOk (n : Nat) : Option Tmp → Bool | some d => Nat.blt d n | none => true

/-! Lists, numbers, values, told out. -/
def forceL {α : Type} : List α → (List α → Prop) → Prop
  | [], K => K []
  | x :: r, K => forceL r fun l => K (x :: l)
theorem forceL_eq {α : Type} : ∀ (l : List α) (K : List α → Prop), forceL l K = K l
  | [], _ => rfl
  | x :: r, K => by rw [forceL, forceL_eq r]
def natK : Nat → (Nat → Prop) → Prop
  | 0, K => K 0
  | n + 1, K => natK n fun m => K (m + 1)
theorem natK_eq : ∀ (n : Nat) (K : Nat → Prop), natK n K = K n
  | 0, _ => rfl
  | n + 1, K => by rw [natK, natK_eq n]
def forceV (u : AV) (K : AV → Prop) : Prop :=
  match u with
  | .agg l => forceL l fun l => K (.agg l)
  | .tup l => forceL l fun l => K (.tup l)
  | .clo f l => forceL l fun l => K (.clo f l)
  | .ref b o => natK b fun b => K (.ref b o)
  | .msl b s o n => natK b fun b => K (.msl b s o n)
  | .elr b s i o => natK b fun b => K (.elr b s i o)
  | .mth f l => forceL l fun l => K (.mth f l)
  | .yld b => natK b fun b => K (.yld b)
  | .mp b => natK b fun b => K (.mp b)
  | .p x => K (.p x)
  | .top => K .top
theorem forceV_eq (u : AV) (K : AV → Prop) : forceV u K = K u := by cases u <;> simp only [forceV, forceL_eq, natK_eq]
def forceB (k : ABlk) (K : ABlk → Prop) : Prop :=
  match k with
  | .dead => K .dead
  | .cells t l => forceL l fun l => K (.cells t l)
  | .row t sz xs => K (.row t sz xs)
  | .obj o => K (.obj o)
  | .lp q st pe l => K (.lp q st pe l)
theorem forceB_eq (k : ABlk) (K : ABlk → Prop) : forceB k K = K k := by cases k <;> simp only [forceB, forceL_eq]
def forceH : List ABlk → (List ABlk → Prop) → Prop
  | [], K => K []
  | x :: r, K => forceB x fun x => forceH r fun l => K (x :: l)
theorem forceH_eq : ∀ (l : List ABlk) (K : List ABlk → Prop), forceH l K = K l
  | [], _ => rfl
  | x :: r, K => by rw [forceH, forceB_eq, forceH_eq r]

def valsK (ev : Operand → Option AV) : List Operand → (List AV → Prop) → Prop
  | [], K => K []
  | x :: r, K => optK (ev x) fun u => valsK ev r fun us => K (u :: us)
theorem valsK_ok {ev : Operand → Option AV} : ∀ {l : List Operand} {K : List AV → Prop}, valsK ev l K → K (l.map fun x => (ev x).getD .top)
  | [], _, h => h
  | x :: r, K, h => by
    obtain ⟨u, hu, h⟩ := optE h
    have := valsK_ok h
    simp only [List.map_cons, hu, Option.getD_some]
    exact this

/-- The operands' values first: then the operation at these. -/
def aopX (P : Program) (T : TTab) (C : CallA) (ev : Operand → Option AV) (H : List ABlk) (K : AV → List ABlk → Prop) (o : Op) : Prop :=
  valsK ev (opsL o) fun us => opV P T C H K o us

theorem aopX_ok {P : Program} {T : TTab} {C : CallA} {ev : Operand → Option AV} {H : List ABlk} {K : AV → List ABlk → Prop} {o : Op} (h : aopX P T C ev H K o) : aop P T C (fun x => (ev x).getD .top) H K o :=
  valsK_ok h

mutual
def belowB (n : Nat) : AV → Bool
  | .p _ => true
  | .agg l => belowL n l
  | .tup l => belowL n l
  | .ref b _ => Nat.blt b n
  | .msl b _ _ _ => Nat.blt b n
  | .elr b _ _ _ => Nat.blt b n
  | .clo _ l => belowL n l
  | .mth _ l => belowL n l
  | .yld b => Nat.blt b n
  | .mp b => Nat.blt b n
  | .top => true
def belowL (n : Nat) : List AV → Bool
  | [] => true
  | u :: r => belowB n u && belowL n r
end

def belowK (n : Nat) : ABlk → Bool
  | .cells _ l => belowL n l
  | .lp _ _ _ l => belowL n l
  | _ => true
def belowH (n : Nat) : List ABlk → Bool
  | [] => true
  | k :: r => belowK n k && belowH n r
theorem belowH_get {n : Nat} : ∀ {H : List ABlk}, belowH n H = true → ∀ (b : Nat) (k : ABlk), H[b]? = some k → belowK n k = true
  | [], _, b, k, hb => by simp at hb
  | x :: r, h, b, k, hb => by
    simp only [belowH, Bool.and_eq_true] at h
    cases b with
    | zero => simp at hb; subst hb; exact h.1
    | succ b => exact belowH_get h.2 b k (by simpa using hb)

mutual
theorem below_move {w : World} {I : Nat → Prop} {ι ι' : Nat → Option Nat} {n : Nat} (hι : ∀ b, b < n → ι' b = ι b) : ∀ (u : AV) {v : Value}, belowB n u = true → ARep w I ι u v → ARep w I ι' u v
  | .p _, _, _, .p h => .p h
  | .agg l, _, hb, .agg _ vs hn hr => .agg l vs hn fun i u hu => below_moveL hι l i u hu (by simpa [belowB] using hb) (hr i u hu)
  | .tup l, _, hb, .tup _ vs hn hr => .tup l vs hn fun i u hu => below_moveL hι l i u hu (by simpa [belowB] using hb) (hr i u hu)
  | .ref b o, _, hb, .ref _ _ B h => .ref b o B (by rw [hι b (by simpa [belowB, Nat.blt_eq] using hb)]; exact h)
  | .msl b s o k, _, hb, .msl _ _ _ _ B c h hc hs => .msl b s o k B c (by rw [hι b (by simpa [belowB, Nat.blt_eq] using hb)]; exact h) hc hs
  | .msl b s o _, _, _, .msl0 _ _ _ A => .msl0 b s o A
  | .elr b s i o, _, hb, .elr _ _ _ _ B h => .elr b s i o B (by rw [hι b (by simpa [belowB, Nat.blt_eq] using hb)]; exact h)
  | .clo f l, _, hb, .clo _ _ vs hn hr => .clo f l vs hn fun i u hu => below_moveL hι l i u hu (by simpa [belowB] using hb) (hr i u hu)
  | .mth f l, _, hb, .mth _ _ vs hn hr => .mth f l vs hn fun i u hu => below_moveL hι l i u hu (by simpa [belowB] using hb) (hr i u hu)
  | .yld b, _, hb, .yld _ B h => .yld b B (by rw [hι b (by simpa [belowB, Nat.blt_eq] using hb)]; exact h)
  | .mp b, _, hb, .mp _ B h => .mp b B (by rw [hι b (by simpa [belowB, Nat.blt_eq] using hb)]; exact h)
  | .top, v, _, _ => .top v
theorem below_moveL {w : World} {I : Nat → Prop} {ι ι' : Nat → Option Nat} {n : Nat} (hι : ∀ b, b < n → ι' b = ι b) : ∀ (l : List AV) (i : Nat) (u : AV), l[i]? = some u → ∀ {v : Value}, belowL n l = true → ARep w I ι u v → ARep w I ι' u v
  | [], i, u, h => by simp at h
  | x :: r, 0, u, h => fun hb hr => by
    simp at h; subst h
    simp only [belowL, Bool.and_eq_true] at hb
    exact below_move hι x hb.1 hr
  | x :: r, i + 1, u, h => fun hb hr => by
    simp only [belowL, Bool.and_eq_true] at hb
    exact below_moveL hι r i u (by simpa using h) hb.2 hr
end

theorem row_sl {w : World} {I : Nat → Prop} {B : Nat} {t : TypeId} {sz : Nat} {xs : List (List PV)} {cs : Array Value} {I2 : Nat → Prop} (hsub : ∀ C, I C → I2 C) (hB : I2 B) (g2 : w.heap[B]? = some (.cells cs t (0, 0))) (g4 : xs.length * sz ≤ cs.size) (gl : xs.length ≤ 140737488355328)
    (g6 : ∀ j e, xs[j]? = some e → e.length = sz ∧ ∀ i u, e[i]? = some u → PRep w I u (cs.getD (j * sz + i) undef)) {off len c : Nat} (hle : off + len ≤ xs.length) (hc : len ≤ c) :
    PRep w I2 (.sl sz ((xs.drop off).take len)) (.slice (some ⟨B, off * sz, none⟩) len c) := by
  have hl : ((xs.drop off).take len).length = len := by simp; omega
  have := PRep.sl (w := w) (I := I2) sz ((xs.drop off).take len) (some ⟨B, off * sz, none⟩) c (fun j i => cs.getD ((off + j) * sz + i) undef) (by omega) (by omega) (.inr ⟨B, off * sz, rfl, hB, fun j e hj => ?_⟩) (fun j e i u hj hu => ?_)
  · rw [hl] at this; exact this
  · obtain ⟨hjl, hj⟩ := drop_take_get _ _ _ _ _ hj
    refine ⟨(g6 _ e hj).1, fun i hi => ?_⟩
    rw [cell_of_row w B _ cs t (0, 0) g2]
    have hjx : off + j < xs.length := (List.getElem?_eq_some_iff.1 hj).1
    have hmul : (off + j) * sz + sz ≤ xs.length * sz := by rw [← Nat.succ_mul]; exact Nat.mul_le_mul_right _ hjx
    rw [Nat.add_mul] at hmul ⊢
    have : off * sz + j * sz + i < cs.size := by omega
    simp [Array.getD_eq_getD_getElem?, this]
  · obtain ⟨_, hj⟩ := drop_take_get _ _ _ _ _ hj
    exact ((g6 _ e hj).2 i u hu).move (fun _ _ => rfl) hsub

/-- A block of closed cells becomes immutable. -/
def Closed : ABlk → Prop
  | .row _ _ _ => True
  | .cells _ l => ∃ ps : List PV, l = ps.map .p
  | _ => False

theorem SimH.freeze {w : World} {I : Nat → Prop} {ι : Nat → Option Nat} {H : List ABlk} (hs : SimH w I ι H) (b : Nat) (hlive : live H b) :
    SimH w (fun C => I C ∨ ι b = some C) ι (H.set b .dead) ∧ Ex H.length w I ι H w (fun C => I C ∨ ι b = some C) ι (H.set b .dead) := by
  obtain ⟨k1, k2⟩ := hs.kill b
  constructor
  · refine ⟨fun c kc hc => ?_, k1.inj, fun C hC => ?_, k1.dom, k1.rng⟩
    · have h0 := k1.blk c kc hc
      have hne : ∀ C, live (H.set b .dead) c → ι c = some C → ¬ (I C ∨ ι b = some C) := fun C hl h1 h2 => by
        rcases h2 with h2 | h2
        · exact k1.notI hl h1 h2
        · have hcb : c ≠ b := fun e => by
            subst e
            obtain ⟨k', hk', hl'⟩ := hl
            rw [List.getElem?_set_self (live_lt hlive)] at hk'
            obtain rfl := Option.some.inj hk'
            simp [ABlk.live] at hl'
          have hlc : live H c := live_set hl hlive
          exact hcb (hs.inj c b C hlc hlive h1 h2)
      cases kc with
      | dead => trivial
      | cells t l =>
        obtain ⟨C, cs, g1, g2, g3, g4, g5⟩ := h0
        exact ⟨C, cs, g1, g2, hne C ⟨_, hc, rfl⟩ g1, g4, fun i u hu => (g5 i u hu).move (fun _ _ => rfl) (fun _ h => .inl h) (fun _ _ h => h) (Shape.refl w)⟩
      | lp q st pe l =>
        obtain ⟨C, cs, g1, g2, g3, g4, g5⟩ := h0
        exact ⟨C, cs, g1, g2, hne C ⟨_, hc, rfl⟩ g1, g4, fun i u hu => (g5 i u hu).move (fun _ _ => rfl) (fun _ h => .inl h) (fun _ _ h => h) (Shape.refl w)⟩
      | row t sz xs =>
        rcases h0 with g0 | ⟨C, cs, g1, g2, g3, g4, g5, g6⟩
        · exact .inl g0
        · exact .inr ⟨C, cs, g1, g2, hne C ⟨_, hc, rfl⟩ g1, g4, g5, fun j e hj => ⟨(g6 j e hj).1, fun i u hu => ((g6 j e hj).2 i u hu).move (fun _ _ => rfl) (fun _ h => .inl h)⟩⟩
      | obj o =>
        obtain ⟨g0, C, g1, g2, g3⟩ := h0
        exact ⟨g0, C, g1, g2, hne C ⟨_, hc, rfl⟩ g1⟩
    · rcases hC with hC | hC
      · exact hs.Ilt C hC
      · exact hs.rng b C hC
  · have x := k2.ext
    exact ⟨⟨x.os, x.tape, x.output, x.size, x.shape, fun _ h => .inl h, fun C hC hn => x.frame C hC hn, fun C hC => by
      rcases hC with hC | hC
      · exact .inl hC
      · exact .inr (.inr ⟨b, hlive, hC⟩), x.own⟩, fun _ _ => rfl, k2.len⟩

/-- The last blocks are forgotten. -/
theorem SimH.trunc {w : World} {I : Nat → Prop} {ι : Nat → Option Nat} {H : List ABlk} (hs : SimH w I ι H) (n : Nat) (hn : n ≤ H.length) (hb : belowH n (H.take n) = true) :
    SimH w I (fun b => if b < n then ι b else none) (H.take n) ∧ Ex n w I ι H w I (fun b => if b < n then ι b else none) (H.take n) := by
  have hι : ∀ b, b < n → (fun b => if b < n then ι b else none) b = ι b := fun b h => by simp [h]
  have hget : ∀ (b : Nat) (k : ABlk), (H.take n)[b]? = some k → b < n ∧ H[b]? = some k := fun b k h => by
    have hlt : b < n := by have := (List.getElem?_eq_some_iff.1 h).1; simp at this; omega
    rw [List.getElem?_take_of_lt hlt] at h
    exact ⟨hlt, h⟩
  have hlive : ∀ b, live (H.take n) b → live H b ∧ b < n := fun b ⟨k, hk, hl⟩ => ⟨⟨k, (hget b k hk).2, hl⟩, (hget b k hk).1⟩
  constructor
  · refine ⟨fun b k hk => ?_, fun b b' B h h' e e' => ?_, hs.Ilt, fun b h => ?_, fun b B h => ?_⟩
    · obtain ⟨hlt, hk'⟩ := hget b k hk
      have h0 := hs.blk b k hk'
      have hbk := belowH_get hb b k hk
      cases k with
      | dead => trivial
      | cells t l =>
        obtain ⟨B, cs, g1, g2, g3, g4, g5⟩ := h0
        exact ⟨B, cs, by rw [hι b hlt]; exact g1, g2, g3, g4, fun i u hu => below_moveL hι l i u hu hbk (g5 i u hu)⟩
      | lp q st pe l =>
        obtain ⟨B, cs, g1, g2, g3, g4, g5⟩ := h0
        exact ⟨B, cs, by rw [hι b hlt]; exact g1, g2, g3, g4, fun i u hu => below_moveL hι l i u hu hbk (g5 i u hu)⟩
      | row t sz xs =>
        rcases h0 with ⟨g0, g1⟩ | ⟨B, cs, g1, g2⟩
        · exact .inl ⟨g0, by rw [hι b hlt]; exact g1⟩
        · exact .inr ⟨B, cs, by rw [hι b hlt]; exact g1, g2⟩
      | obj o =>
        obtain ⟨g0, B, g1, g2⟩ := h0
        exact ⟨g0, B, by rw [hι b hlt]; exact g1, g2⟩
    · obtain ⟨k1, k2⟩ := hlive b h
      obtain ⟨k1', k2'⟩ := hlive b' h'
      rw [if_pos k2] at e; rw [if_pos k2'] at e'
      exact hs.inj b b' B k1 k1' e e'
    · simp only [List.length_take] at h
      simp [show ¬ b < n by omega]
    · split at h
      · exact hs.rng b B h
      · exact absurd h (by simp)
  · refine ⟨⟨rfl, rfl, rfl, Nat.le_refl _, Shape.refl w, fun _ h => h, fun _ _ _ => rfl, fun _ h => .inl h, fun b B h e => ?_⟩, fun b h => hι b h, by simp; omega⟩
    obtain ⟨k1, k2⟩ := hlive b h
    rw [if_pos k2] at e
    exact .inr ⟨b, k1, e⟩

/-- The block just made becomes immutable: it is held as a value. n: so many blocks there were. -/
def frzK (n : Nat) (H : List ABlk) (u : AV) (K : AV → List ABlk → Prop) : Prop :=
  match u with
  | .msl b sz off len => match H.getD b .dead with
    | .row _ sz' xs => chk (Nat.beq (b + 1) H.length && Nat.ble n b && Nat.beq sz' sz && belowH b (H.take b)) ((off = 0 ∧ len = xs.length) ∧ K (.p (.sl sz xs)) (H.take b))
    | _ => False
  | .ref b off => match H.getD b .dead with
    | .cells _ l => chk (Nat.beq (b + 1) H.length && Nat.ble n b && belowH b (H.take b)) (optK (pvs l) fun ps => K (.p (.box (ps.drop off))) (H.take b))
    | _ => False
  | _ => False

theorem frz_ok {w : World} {I : Nat → Prop} {ι : Nat → Option Nat} {H : List ABlk} {n : Nat} {u : AV} {v : Value} {K : AV → List ABlk → Prop} (hs : SimH w I ι H) (hu : ARep w I ι u v) (h : frzK n H u K) :
    ∃ u' H' I' ι', K u' H' ∧ ARep w I' ι' u' v ∧ SimH w I' ι' H' ∧ Ex n w I ι H w I' ι' H' := by
  have core : ∀ (b : Nat), H.length = b + 1 → n ≤ b → live H b → belowH b (H.take b) = true →
      ∃ ι', SimH w (fun C => I C ∨ ι b = some C) ι' (H.take b) ∧ Ex n w I ι H w (fun C => I C ∨ ι b = some C) ι' (H.take b) := by
    intro b hb hn hl hbel
    obtain ⟨f1, f2⟩ := hs.freeze b hl
    have htake : (H.set b .dead).take b = H.take b := by rw [List.take_set_of_le (Nat.le_refl _)]
    obtain ⟨g1, g2⟩ := f1.trunc b (by simp; omega) (by rw [htake]; exact hbel)
    rw [htake] at g1 g2
    exact ⟨_, g1, (f2.less (by omega)).trans (g2.less hn)⟩
  unfold frzK at h
  split at h
  · rename_i b sz off len
    split at h
    · rename_i e sz' xs hb
      replace h := chkE h
      obtain ⟨c, ⟨rfl, hlen⟩, h⟩ := h
      simp only [Bool.and_eq_true, Nat.beq_eq, Nat.ble_eq] at c
      obtain ⟨⟨⟨c1, c2⟩, rfl⟩, c4⟩ := c
      have hbk := getD_of_getElem? hb rfl
      obtain ⟨ι', k1, k2⟩ := core b c1.symm c2 ⟨_, hbk, rfl⟩ c4
      refine ⟨_, _, _, ι', h, .p ?_, k1, k2⟩
      cases hu with
      | msl _ _ _ _ B c hB hc hsz =>
        rcases hs.blk b _ hbk with ⟨_, g1⟩ | ⟨B', cs, g1, g2, g3, g4, gl, g6⟩
        · rw [g1] at hB; exact absurd hB (by simp)
        · rw [g1] at hB; obtain rfl := Option.some.inj hB
          have := row_sl (I2 := fun C => I C ∨ ι b = some C) (fun _ h => .inl h) (.inr g1) g2 g4 gl g6 (off := 0) (len := len) (c := c) (by omega) hc
          rw [hlen] at this ⊢
          simpa using this
      | msl0 _ _ _ A =>
        have hx : xs = [] := List.length_eq_zero_iff.1 hlen.symm
        subst hx
        exact .sl _ [] A 0 (fun _ _ => undef) (by simp) (by simp) (.inl rfl) (fun j e i u h => by simp at h)
    · exact h.elim
  · rename_i b off
    split at h
    · rename_i t l hb
      replace h := chkE h
      obtain ⟨c, h⟩ := h
      replace h := optE h
      obtain ⟨ps, hps, h⟩ := h
      have hl := pvs_ok hps
      subst hl
      simp only [Bool.and_eq_true, Nat.beq_eq, Nat.ble_eq] at c
      obtain ⟨⟨c1, c2⟩, c4⟩ := c
      have hbk := getD_of_getElem? hb rfl
      obtain ⟨ι', k1, k2⟩ := core b c1.symm c2 ⟨_, hbk, rfl⟩ c4
      refine ⟨_, _, _, ι', h, .p ?_, k1, k2⟩
      cases hu with
      | ref _ _ B hB =>
        obtain ⟨B', cs, g1, g2, g3, g4, g5⟩ := hs.blk b _ hbk
        rw [hB] at g1; obtain rfl := Option.some.inj g1
        simp only [List.length_map] at g4
        refine .box _ B off (fun i => cs.getD (off + i) undef) (.inr hB) (fun i hi => ?_) (fun i u hu => ?_)
        · rw [List.length_drop] at hi
          rw [cell_of_row w B (off + i) cs t (0, 0) g2]
          have : off + i < cs.size := by omega
          simp [Array.getD_eq_getD_getElem?, this]
        · rw [List.getElem?_drop] at hu
          exact (p_inv (g5 (off + i) (.p u) (by rw [List.getElem?_map, hu]; rfl))).move (fun _ _ => rfl) (fun _ h => .inl h)
    · exact h.elim
  · exact h.elim

section
variable {P : Program} {T : TTab} {m : Nat} {w : World} {I : Nat → Prop} {ι : Nat → Option Nat}

/-- What stands in the slot of an operation that was not wanted. -/
def undA : AV := .tup []
def guardA (ops : Array Oper) (fr : Fr) (g : Option (Nat × Bool)) (K : Bool → Fr → Prop) : Prop :=
  match g with
  | none => K true fr
  | some (j, want) => match (ops[j]?).bind (·.dst) with
    | some d => match look fr.l d with
      | some (.p (.raw (.bool b))) => boolK b (K want ⟨fr.n, (d, litB true) :: fr.l⟩) (K (!want) ⟨fr.n, (d, litB false) :: fr.l⟩)
      | some (.tup []) => K false fr
      | _ => False
    | none => False

/-- fz: the operations whose new block becomes immutable at once. -/
def aOps (P : Program) (T : TTab) (ops : Array Oper) (fz : Nat → Bool) : List Oper → Nat → Fr → List ABlk → (Fr → List ABlk → Prop) → Prop
  | [], _, fr, H, K => K fr H
  | o :: r, k, fr, H, K => chk (dstOk fr.n o.dst) (guardA ops fr o.guard fun c fr => match c with
    | true => aopX P T (callA P) (evX fr) H (fun u H' => match fz k with
      | true => frzK H.length H' u fun u H' => forceV u fun u => forceH H' fun H' => aOps P T ops fz r (k + 1) (putA fr o.dst u) H' K
      | false => forceV u fun u => forceH H' fun H' => aOps P T ops fz r (k + 1) (putA fr o.dst u) H' K) o.op
    | false => aOps P T ops fz r (k + 1) (putA fr o.dst undA) H K)

theorem FrOk.put {fr : Fr} {a : Act} (h : FrOk w I ι fr a.tmps) (d : Option Tmp) (hd : dstOk fr.n d = true) {u : AV} {v : Value} (hu : ARep w I ι u v) : FrOk w I ι (putA fr d u) (a.put d v).tmps := by
  cases d with
  | none => exact h
  | some d =>
    have hlt : d < fr.n := by simpa [dstOk, Nat.blt_eq] using hd
    refine ⟨by simp [Act.put, putA, h.1], fun i x hx => ?_⟩
    simp only [putA, Act.put] at hx ⊢
    by_cases e : d = i
    · subst e
      rw [look_self] at hx
      obtain rfl := Option.some.inj hx
      rw [Array.getD_eq_getD_getElem?, Array.getElem?_setIfInBounds_self_of_lt (by rw [h.1]; exact hlt)]
      exact hu
    · rw [look_other _ _ e] at hx
      rw [Array.getD_eq_getD_getElem?, Array.getElem?_setIfInBounds_ne e, ← Array.getD_eq_getD_getElem?]
      exact h.2 i x hx

theorem FrOk.move {w' : World} {I' : Nat → Prop} {ι' : Nat → Option Nat} {H H' : List ABlk} {fr : Fr} {tmps : Array Value} (hs : SimH w I ι H) (hx : Ex H.length w I ι H w' I' ι' H') (h : FrOk w I ι fr tmps) : FrOk w' I' ι' fr tmps :=
  ⟨h.1, fun i u hu => (h.2 i u hu).move (hx.ext.keepsI hs) hx.ext.Isub (fun b B hb => by
    rw [hx.keep b]; exact hb
    rcases Nat.lt_or_ge b H.length with h | h
    · exact h
    · rw [hs.dom b h] at hb; exact absurd hb (by simp)) hx.ext.shape⟩

theorem put_defers (a : Act) (d : Option Tmp) (v : Value) : (a.put d v).defers = a.defers := by cases d <;> rfl

def guardIs (ops : Array Oper) (fr : Fr) (g : Option (Nat × Bool)) (c : Bool) : Prop :=
  match g with
  | none => c = true
  | some (j, want) => ∃ d, (ops[j]?).bind (·.dst) = some d ∧ ((∃ b, look fr.l d = some (litB b) ∧ c = (b == want)) ∨ (look fr.l d = some undA ∧ c = false))

/-- Two frames say the same. -/
def Alike (fr fr' : Fr) : Prop := fr'.n = fr.n ∧ ∀ t, look fr'.l t = look fr.l t

theorem alike_push {fr : Fr} {d : Nat} {u : AV} (h : look fr.l d = some u) : Alike fr ⟨fr.n, (d, u) :: fr.l⟩ := by
  refine ⟨rfl, fun t => ?_⟩
  by_cases e : d = t
  · subst e; rw [look_self, h]
  · rw [look_other _ _ e]

theorem guard_abs {ops : Array Oper} {fr : Fr} {g : Option (Nat × Bool)} {K : Bool → Fr → Prop} (h : guardA ops fr g K) : ∃ c fr', K c fr' ∧ guardIs ops fr g c ∧ Alike fr fr' := by
  unfold guardA at h
  split at h
  · exact ⟨true, fr, h, rfl, rfl, fun _ => rfl⟩
  · rename_i j want
    split at h
    · rename_i d hd
      split at h
      · rename_i b hb
        refine ⟨b == want, ⟨fr.n, (d, litB b) :: fr.l⟩, ?_, ⟨d, hd, .inl ⟨b, hb, rfl⟩⟩, alike_push hb⟩
        cases b <;> cases want <;> exact h
      · rename_i hb
        exact ⟨false, fr, h, ⟨d, hd, .inr ⟨hb, rfl⟩⟩, rfl, fun _ => rfl⟩
      · exact h.elim
    · exact h.elim

theorem rep_und {v : Value} (h : ARep w I ι undA v) : v = .tuple #[] := by
  cases h with
  | tup _ vs hn h =>
    have : vs = #[] := Array.eq_empty_of_size_eq_zero (by simpa using hn)
    rw [this]

theorem want_of {ops : Array Oper} {fr : Fr} {o : Oper} {c : Bool} {a : Act} (hr : ∀ d u, look fr.l d = some u → (∃ j want, o.guard = some (j, want) ∧ (ops[j]?).bind (·.dst) = some d) → ARep w I ι u (a.tmps.getD d undef)) (h : guardIs ops fr o.guard c) :
    Region.wanted o (yielded ops a.tmps) = c := by
  unfold guardIs at h
  split at h
  · rename_i hg; simp [Region.wanted, hg, h]
  · rename_i j want hg
    obtain ⟨d, g1, ⟨b, g2, g3⟩ | ⟨g2, g3⟩⟩ := h
    · have hv := rep_raw (hr d _ g2 ⟨j, want, hg, g1⟩)
      rw [g3]
      rcases Nat.lt_or_ge d a.tmps.size with hds | hds
      · rw [Array.getD_eq_getD_getElem?, Array.getElem?_eq_getElem hds] at hv
        simp at hv
        simp only [Region.wanted, hg, yielded, g1, Option.bind_some, Array.getElem?_eq_getElem hds, hv]
        cases b <;> cases want <;> rfl
      · rw [Array.getD_eq_getD_getElem?, Array.getElem?_eq_none hds] at hv
        simp [undef] at hv
    · have hv := rep_und (hr d _ g2 ⟨j, want, hg, g1⟩)
      rw [g3]
      rcases Nat.lt_or_ge d a.tmps.size with hds | hds
      · rw [Array.getD_eq_getD_getElem?, Array.getElem?_eq_getElem hds] at hv
        simp at hv
        simp only [Region.wanted, hg, yielded, g1, Option.bind_some, Array.getElem?_eq_getElem hds, hv]
        cases want <;> rfl
      · simp only [Region.wanted, hg, yielded, g1, Option.bind_some, Array.getElem?_eq_none hds]
        cases want <;> rfl

theorem FrOk.alike {fr fr' : Fr} {tmps : Array Value} (h : FrOk w I ι fr tmps) (k : Alike fr fr') : FrOk w I ι fr' tmps := ⟨h.1.trans k.1.symm, fun t u hu => h.2 t u (by rw [← k.2]; exact hu)⟩
theorem _root_.Go.Proofs.Ytolefphdldmlkaa.AL.Sim.alike {N : Nat} {fr fr' : Fr} {H : List ABlk} {a : Act} (h : Sim N w I ι ⟨fr, H⟩ a) (k : Alike fr fr') : Sim N w I ι ⟨fr', H⟩ a := ⟨FrOk.alike h.fr k, h.H, h.hN, h.d, h.nd⟩

/-- A guard's answer is the machine's. -/
theorem guard_ok {ops : Array Oper} {fr : Fr} {o : Oper} {K : Bool → Fr → Prop} {a : Act} (hf : FrOk w I ι fr a.tmps) (h : guardA ops fr o.guard K) :
    ∃ c fr', K c fr' ∧ Region.wanted o (yielded ops a.tmps) = c ∧ Alike fr fr' := by
  obtain ⟨c, fr', h1, h2, h3⟩ := guard_abs h
  exact ⟨c, fr', h1, want_of (fun d u hd _ => hf.2 d u hd) h2, h3⟩

theorem aOps_sound {ro : Option Nat} {N : Nat} (hT : TOk P T) {ops : Array Oper} {fz : Nat → Bool} {Q : Exit → Act → World → Prop} {K : Fr → List ABlk → Prop} {w0 : World} {I0 : Nat → Prop} {ι0 : Nat → Option Nat} {H0 : List ABlk} (l : List Oper) :
    ∀ (k : Nat) (fr : Fr) (H : List ABlk) (a : Act) (w : World) (I : Nat → Prop) (ι : Nat → Option Nat), aOps P T ops fz l k fr H K → Sim N w I ι ⟨fr, H⟩ a → Ex m w0 I0 ι0 H0 w I ι H →
      (∀ fr' H' a' w' I' ι', K fr' H' → Sim N w' I' ι' ⟨fr', H'⟩ a' → Ex m w0 I0 ι0 H0 w' I' ι' H' → Q .normal a' w') → wpListIn (fen ro) 0 P ops Q l a w := by
  induction l with
  | nil => intro k fr H a w I ι h hs hx hk; exact hk _ _ _ _ _ _ h hs hx
  | cons o r ih =>
    intro k fr H a w I ι h hs hx hk
    obtain ⟨hd, h⟩ := chkE h
    obtain ⟨c, fr', h1, h2, h3⟩ := guard_ok hs.fr h
    unfold wpListIn
    rw [h2]
    have hs' := hs.alike h3
    clear hs
    have hs := hs'
    clear hs'
    rw [← h3.1] at hd
    cases c with
    | true =>
      rw [if_pos rfl]
      refine aop_sound hT hs.H (fun x _ => evalA_ok hs.fr x) (aopX_ok h1) ?_
      intro v w' r' H' I' ι' hK hr hs' hx'
      split at hK
      · obtain ⟨u2, H2, I2, ι2, hK, hr2, hs2, hx2⟩ := frz_ok hs' hr hK
        rw [forceV_eq, forceH_eq] at hK
        have hx3 := hx'.trans hx2
        exact ih _ _ _ _ _ _ _ hK ⟨(hs.fr.move hs.H hx3).put o.dst hd hr2, hs2, Nat.le_trans hs.hN hx3.ext.size, by rw [put_defers]; exact fun d hd => (hs.d d hd).move hx3.ext, by rw [put_defers]; exact hs.nd⟩ (hx.trans (hx3.less hx.len)) hk
      · rw [forceV_eq, forceH_eq] at hK
        exact ih _ _ _ _ _ _ _ hK ⟨(hs.fr.move hs.H hx').put o.dst hd hr, hs', Nat.le_trans hs.hN hx'.ext.size, by rw [put_defers]; exact fun d hd => (hs.d d hd).move hx'.ext, by rw [put_defers]; exact hs.nd⟩ (hx.trans (hx'.less hx.len)) hk
    | false =>
      rw [if_neg (by simp)]
      exact ⟨fun f _ => fen_fn ro f, ih _ _ _ _ _ _ _ h1 ⟨hs.fr.put o.dst hd (.tup [] #[] rfl (fun i u h => by simp at h)), hs.H, hs.hN, by rw [put_defers]; exact hs.d, by rw [put_defers]; exact hs.nd⟩ hx hk⟩

theorem aw_regionF {ro : Option Nat} (fz : Nat → Bool) (hT : TOk P T) {id : Nat} {ops : Array Oper} {s : St} {Q : Exit → St → Prop} (h : aOps P T ops fz ops.toList 0 s.fr s.H (fun fr H => Q .normal ⟨fr, H⟩)) : AW P ro m (.region id ops false) s Q := fun N w I ι a hs hm => by
  refine wpIn_region_list (aOps_sound (m := m) hT ops.toList 0 s.fr s.H a w I ι h hs (Ex.refl hm) ?_)
  intro fr' H' a' w' I' ι' hK hs' hx'
  exact ⟨⟨fr', H'⟩, I', ι', hK, hs', hx'⟩

theorem aw_region {ro : Option Nat} (hT : TOk P T) {id : Nat} {ops : Array Oper} {s : St} {Q : Exit → St → Prop} (h : aOps P T ops (fun _ => false) ops.toList 0 s.fr s.H (fun fr H => Q .normal ⟨fr, H⟩)) : AW P ro m (.region id ops false) s Q :=
  aw_regionF _ hT h

end
end Go.Proofs.Ytolefphdldmlkaa.AL
