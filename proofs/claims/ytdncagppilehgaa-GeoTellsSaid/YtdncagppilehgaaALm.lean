/- The abstract layer, part m: operations that are told step by step; regions in the text's order. -/
import Derived.Test.YtdncagppilehgaaALl
namespace Go.Proofs.Ytdncagppilehgaa.AL
open Go Go.RowKit

def putA (fr : Fr) : Option Tmp → AV → Fr
  | some d, u => ⟨fr.n, (d, u) :: fr.l⟩
  | none, _ => fr
def litB (b : Bool) : AV := .p (.raw (.bool b))
def dstOk (n : Nat) : Option Tmp → Bool | some d => Nat.blt d n | none => true

/-! Lists, numbers, values, told out. -/
def forceL {α : Type} : List α → (List α → Prop) → Prop
  | [], K => K []
  | x :: r, K => forceL r fun l => K (x :: l)
theorem forceL_eq {α : Type} : ∀ (l : List α) (K : List α → Prop), forceL l K = K l
  | [], _ => rfl
  | x :: r, K => by rw [forceL, forceL_eq r]
def natK : Nat → (Nat → Prop) → Prop
  | 0, K => K 0
  | n + 1, K => natK n fun m => K (m + 1)
theorem natK_eq : ∀ (n : Nat) (K : Nat → Prop), natK n K = K n
  | 0, _ => rfl
  | n + 1, K => by rw [natK, natK_eq n]
def forceV (u : AV) (K : AV → Prop) : Prop :=
  match u with
  | .agg l => forceL l fun l => K (.agg l)
  | .tup l => forceL l fun l => K (.tup l)
  | .clo f l => forceL l fun l => K (.clo f l)
  | .ref b o => natK b fun b => K (.ref b o)
  | .msl b s o n => natK b fun b => K (.msl b s o n)
  | .elr b s i o => natK b fun b => K (.elr b s i o)
  | .p x => K (.p x)
  | .top => K .top
theorem forceV_eq (u : AV) (K : AV → Prop) : forceV u K = K u := by cases u <;> simp only [forceV, forceL_eq, natK_eq]
def forceB (k : ABlk) (K : ABlk → Prop) : Prop :=
  match k with
  | .dead => K .dead
  | .cells t l => forceL l fun l => K (.cells t l)
  | .row t sz xs => K (.row t sz xs)
theorem forceB_eq (k : ABlk) (K : ABlk → Prop) : forceB k K = K k := by cases k <;> simp only [forceB, forceL_eq]
def forceH : List ABlk → (List ABlk → Prop) → Prop
  | [], K => K []
  | x :: r, K => forceB x fun x => forceH r fun l => K (x :: l)
theorem forceH_eq : ∀ (l : List ABlk) (K : List ABlk → Prop), forceH l K = K l
  | [], _ => rfl
  | x :: r, K => by rw [forceH, forceB_eq, forceH_eq r]

def valsK (ev : Operand → Option AV) : List Operand → (List AV → Prop) → Prop
  | [], K => K []
  | x :: r, K => optK (ev x) fun u => valsK ev r fun us => K (u :: us)
theorem valsK_ok {ev : Operand → Option AV} : ∀ {l : List Operand} {K : List AV → Prop}, valsK ev l K → K (l.map fun x => (ev x).getD .top)
  | [], _, h => h
  | x :: r, K, h => by
    obtain ⟨u, hu, h⟩ := optE h
    have := valsK_ok h
    simp only [List.map_cons, hu, Option.getD_some]
    exact this

/-- The operands' values first: then the operation at these. -/
def aopX (P : Program) (T : TTab) (call : FuncId → List AV → List ABlk → (AV → List ABlk → Prop) → Prop) (ev : Operand → Option AV) (H : List ABlk) (K : AV → List ABlk → Prop) (o : Op) : Prop :=
  match o with
  | .move x => optK (ev x) fun u => K u H
  | .assign x => optK (ev x) fun u => K u H
  | .pick c a b => optK (ev c) fun uc => optK (ev a) fun ua => optK (ev b) fun ub => match uc with
    | .p (.raw (.bool t)) => K (pickV t ua ub) H
    | _ => False
  | .alloc t => aop P T call (fun _ => .top) H K (.alloc t)
  | .box t x => optK (ev x) fun u => optK u.cells? fun l => K (.ref H.length 0) (H ++ [.cells t l])
  | .build t parts => valsK ev (parts.toList.map (·.2)) fun us => optK (T t) fun ti => match ti.d with
    | .struct fs => optK (fieldPlaces T fs) fun pl => optK (fillA T (fun i => pl[i]?) (zeroA ti) ((parts.toList.map (·.1)).zip us)) fun l => K (.agg l) H
    | _ => False
  | .buildSlice t n parts => valsK ev (parts.toList.map (·.2)) fun us => optK (T t) fun ti => match ti.d with
    | .slice e => optK (T e) fun ei => chk (decide (n * ei.size ≤ 1000) && decide (0 < ei.size) && (ei.zero.length == ei.size)) (optK (fillA T (fun i => some (i * ei.size, ei.size)) (List.replicate n (zeroA ei)).flatten ((parts.toList.map (·.1)).zip us)) fun l =>
        K (.msl H.length ei.size 0 n) (H ++ [litBlk e ei.size n l]))
    | _ => False
  | .load t a => optK (ev a) fun ua => optK (T t) fun ti => chk (isRowTD ti.d || ti.size == 1) <| loadK H ua ti.size fun us => K (mkVal ti.d us) H
  | .store t a x => optK (ev a) fun ua => optK (ev x) fun ux => optK (T t) fun ti => optK ux.cells? fun vs => chk (vs.length == ti.size) (storeK H ua vs fun H' => K .top H')
  | .binOp op t x y _ => optK (ev x) fun ux => optK (ev y) fun uy => binK P T op t x y ux uy fun v => K (.p (.raw v)) H
  | .unOp op _ x => optK (ev x) fun ux => unK op ux fun v => K (.p (.raw v)) H
  | .convert src dst x => optK (ev x) fun ux => match T src, T dst, ux with
    | some ⟨.int _, _, _, _⟩, some ⟨.int k, _, _, _⟩, .p (.raw (.int _ n)) => K (.p (.raw (.int k (k.wrap n)))) H
    | _, _, _ => False
  | .makeFunc fn first caps => chk first.isEmpty (valsK ev caps.toList fun us => K (.clo fn us) H)
  | .makeSlice t l c => optK (ev l) fun ul => optK (ev c) fun uc => optK (T t) fun ti => match ti.d with
    | .slice e => optK (T e) fun ei => chk (decide (0 < ei.size) && (ei.zero.length == ei.size)) (match ul, uc with
      | .p (.raw (.int .i64 n)), .p (.raw (.int .i64 n')) => (n' = n ∧ 0 ≤ n ∧ n * ei.bytes ≤ 140737488355328 ∧ n ≤ 140737488355328) ∧ K (.msl H.length ei.size 0 n.toNat) (H ++ [.row e ei.size (List.replicate n.toNat (zeroP ei))])
      | _, _ => False)
    | _ => False
  | .slice t x lo hi mx => optK (ev x) fun ux => valsK ev lo.toList fun ul => valsK ev hi.toList fun uh => chk mx.isNone (optK (T t) fun ti => match ti.d with
    | .slice e => optK (T e) fun ei => sliceK ei.size ux ul.head? uh.head? fun u => K u H
    | _ => False)
  | .fieldAddr s x f => optK (ev x) fun ux => optK (T s) fun ti => match ti.d with
    | .struct fs => optK fs[f]? fun p => optK (T p.2) fun fi => chk (decide (0 < fi.size)) (addOff ux p.1 fun u => K u H)
    | _ => False
  | .field s x f => optK (ev x) fun ux => optK (T s) fun ti => match ti.d with
    | .struct fs => optK fs[f]? fun p => optK (T p.2) fun fi => match ux with
      | .agg l => chk (decide (p.1 + fi.size ≤ l.length) && (isRowTD fi.d || fi.size == 1)) (K (mkVal fi.d ((l.drop p.1).take fi.size)) H)
      | _ => False
    | _ => False
  | .indexAddr t x i => optK (ev x) fun ux => optK (ev i) fun ui => optK (T t) fun ti => match ti.d with
    | .slice e => optK (T e) fun ei => indexK (.slice e) ei.size ux ui fun u => K u H
    | .array n e => optK (T e) fun ei => indexK (.array n e) ei.size ux ui fun u => K u H
    | _ => False
  | .extract x i => optK (ev x) fun ux => match ux with
    | .tup l => optK l[i]? fun u => K u H
    | _ => False
  | .nilCheck x => optK (ev x) fun ux => chk (isPtr ux) (K ux H)
  | .call c => match c.callee with
    | .value f => optK (ev f) fun uf => valsK ev c.args.toList fun us => match uf with
      | .clo (.func k) caps => call k (us ++ caps) H K
      | _ => False
    | .builtin b => valsK ev c.args.toList fun us => builtinK T b c.argTypes.toList us H K
    | .invoke _ _ => False
  | _ => False

section
variable {P : Program} {T : TTab} {m : Nat} {w : World} {I : Nat → Prop} {ι : Nat → Option Nat}

theorem zip_map {α β γ : Type} (l : List (α × β)) (g : β → γ) : (l.map (·.1)).zip ((l.map (·.2)).map g) = l.map fun p => (p.1, g p.2) := by
  induction l with
  | nil => rfl
  | cons p r ih => simp only [List.map_cons, List.zip_cons_cons, ih]

theorem head_map {α β : Type} (o : Option α) (g : α → β) : (o.toList.map g).head? = o.map g := by cases o <;> rfl

theorem aopX_ok {call : FuncId → List AV → List ABlk → (AV → List ABlk → Prop) → Prop} {ev : Operand → Option AV} {H : List ABlk} {K : AV → List ABlk → Prop} {o : Op} (h : aopX P T call ev H K o) : aop P T call (fun x => (ev x).getD .top) H K o := by
  cases o <;> simp only [aopX] at h <;> try exact h.elim
  case move x => obtain ⟨u, hu, h⟩ := optE h; simp only [aop, hu]; exact h
  case assign x => obtain ⟨u, hu, h⟩ := optE h; simp only [aop, hu]; exact h
  case pick c x y =>
    obtain ⟨u, hu, h⟩ := optE h
    obtain ⟨v, hv, h⟩ := optE h
    obtain ⟨z, hz, h⟩ := optE h
    simp only [aop, hu, hv, hz, Option.getD_some]; exact h
  case alloc t => exact h
  case box t x => obtain ⟨u, hu, h⟩ := optE h; simp only [aop, hu]; exact h
  case build t ps =>
    have h := valsK_ok h
    rw [zip_map] at h
    exact h
  case buildSlice t n ps =>
    have h := valsK_ok h
    rw [zip_map] at h
    exact h
  case load t x => obtain ⟨u, hu, h⟩ := optE h; simp only [aop, hu]; exact h
  case store t p x =>
    obtain ⟨u, hu, h⟩ := optE h
    obtain ⟨v, hv, h⟩ := optE h
    simp only [aop, hu, hv]; exact h
  case binOp op t x y yt =>
    obtain ⟨u, hu, h⟩ := optE h
    obtain ⟨v, hv, h⟩ := optE h
    simp only [aop, hu, hv]; exact h
  case unOp op t x => obtain ⟨u, hu, h⟩ := optE h; simp only [aop, hu]; exact h
  case convert s d x => obtain ⟨u, hu, h⟩ := optE h; simp only [aop, hu]; exact h
  case makeFunc fn first caps =>
    obtain ⟨h1, h⟩ := chkE h
    have h := valsK_ok h
    simp only [aop, h1]; exact h
  case makeSlice t l c =>
    obtain ⟨u, hu, h⟩ := optE h
    obtain ⟨v, hv, h⟩ := optE h
    simp only [aop, hu, hv]; exact h
  case slice t x lo hi mx =>
    obtain ⟨u, hu, h⟩ := optE h
    have h := valsK_ok (valsK_ok h)
    rw [head_map, head_map] at h
    simp only [aop, hu]; exact h
  case fieldAddr s x f => obtain ⟨u, hu, h⟩ := optE h; simp only [aop, hu]; exact h
  case field s x f => obtain ⟨u, hu, h⟩ := optE h; simp only [aop, hu]; exact h
  case indexAddr t x y =>
    obtain ⟨u, hu, h⟩ := optE h
    obtain ⟨v, hv, h⟩ := optE h
    simp only [aop, hu, hv]; exact h
  case extract x i => obtain ⟨u, hu, h⟩ := optE h; simp only [aop, hu]; exact h
  case nilCheck x => obtain ⟨u, hu, h⟩ := optE h; simp only [aop, hu]; exact h
  case call c =>
    simp only [aop]
    split at h
    · rename_i f hf
      obtain ⟨u, hu, h⟩ := optE h
      have h := valsK_ok h
      simp only [hf, hu, Option.getD_some]; exact h
    · rename_i b hb
      simp only [hb]; exact valsK_ok h
    · exact h.elim

/-- What stands in the slot of an operation that was not wanted. -/
def undA : AV := .tup []
def guardA (ops : Array Oper) (fr : Fr) (g : Option (Nat × Bool)) (K : Bool → Fr → Prop) : Prop :=
  match g with
  | none => K true fr
  | some (j, want) => match (ops[j]?).bind (·.dst) with
    | some d => match look fr.l d with
      | some (.p (.raw (.bool b))) => boolK b (K want ⟨fr.n, (d, litB true) :: fr.l⟩) (K (!want) ⟨fr.n, (d, litB false) :: fr.l⟩)
      | some (.tup []) => K false fr
      | _ => False
    | none => False

def aOps (P : Program) (T : TTab) (ops : Array Oper) : List Oper → Fr → List ABlk → (Fr → List ABlk → Prop) → Prop
  | [], fr, H, K => K fr H
  | o :: r, fr, H, K => chk (dstOk fr.n o.dst) (guardA ops fr o.guard fun c fr => match c with
    | true => aopX P T (callK P) (evX fr) H (fun u H' => forceV u fun u => forceH H' fun H' => aOps P T ops r (putA fr o.dst u) H' K) o.op
    | false => aOps P T ops r (putA fr o.dst undA) H K)

theorem FrOk.put {fr : Fr} {a : Act} (h : FrOk w I ι fr a.tmps) (d : Option Tmp) (hd : dstOk fr.n d = true) {u : AV} {v : Value} (hu : ARep w I ι u v) : FrOk w I ι (putA fr d u) (a.put d v).tmps := by
  cases d with
  | none => exact h
  | some d =>
    have hlt : d < fr.n := by simpa [dstOk, Nat.blt_eq] using hd
    refine ⟨by simp [Act.put, putA, h.1], fun i x hx => ?_⟩
    simp only [putA, Act.put] at hx ⊢
    by_cases e : d = i
    · subst e
      rw [look_self] at hx
      obtain rfl := Option.some.inj hx
      rw [Array.getD_eq_getD_getElem?, Array.getElem?_setIfInBounds_self_of_lt (by rw [h.1]; exact hlt)]
      exact hu
    · rw [look_other _ _ e] at hx
      rw [Array.getD_eq_getD_getElem?, Array.getElem?_setIfInBounds_ne e, ← Array.getD_eq_getD_getElem?]
      exact h.2 i x hx

theorem FrOk.move {w' : World} {I' : Nat → Prop} {ι' : Nat → Option Nat} {H H' : List ABlk} {fr : Fr} {tmps : Array Value} (hs : SimH w I ι H) (hx : Ex H.length w I ι H w' I' ι' H') (h : FrOk w I ι fr tmps) : FrOk w' I' ι' fr tmps :=
  ⟨h.1, fun i u hu => (h.2 i u hu).move (hx.ext.keepsI hs) hx.ext.Isub (fun b B hb => by
    rw [hx.keep b]; exact hb
    rcases Nat.lt_or_ge b H.length with h | h
    · exact h
    · rw [hs.dom b h] at hb; exact absurd hb (by simp)) hx.ext.shape⟩

theorem put_defers (a : Act) (d : Option Tmp) (v : Value) : (a.put d v).defers = a.defers := by cases d <;> rfl

def guardIs (ops : Array Oper) (fr : Fr) (g : Option (Nat × Bool)) (c : Bool) : Prop :=
  match g with
  | none => c = true
  | some (j, want) => ∃ d, (ops[j]?).bind (·.dst) = some d ∧ ((∃ b, look fr.l d = some (litB b) ∧ c = (b == want)) ∨ (look fr.l d = some undA ∧ c = false))

/-- Two frames say the same. -/
def Alike (fr fr' : Fr) : Prop := fr'.n = fr.n ∧ ∀ t, look fr'.l t = look fr.l t

theorem alike_push {fr : Fr} {d : Nat} {u : AV} (h : look fr.l d = some u) : Alike fr ⟨fr.n, (d, u) :: fr.l⟩ := by
  refine ⟨rfl, fun t => ?_⟩
  by_cases e : d = t
  · subst e; rw [look_self, h]
  · rw [look_other _ _ e]

theorem guard_abs {ops : Array Oper} {fr : Fr} {g : Option (Nat × Bool)} {K : Bool → Fr → Prop} (h : guardA ops fr g K) : ∃ c fr', K c fr' ∧ guardIs ops fr g c ∧ Alike fr fr' := by
  unfold guardA at h
  split at h
  · exact ⟨true, fr, h, rfl, rfl, fun _ => rfl⟩
  · rename_i j want
    split at h
    · rename_i d hd
      split at h
      · rename_i b hb
        refine ⟨b == want, ⟨fr.n, (d, litB b) :: fr.l⟩, ?_, ⟨d, hd, .inl ⟨b, hb, rfl⟩⟩, alike_push hb⟩
        cases b <;> cases want <;> exact h
      · rename_i hb
        exact ⟨false, fr, h, ⟨d, hd, .inr ⟨hb, rfl⟩⟩, rfl, fun _ => rfl⟩
      · exact h.elim
    · exact h.elim

theorem rep_und {v : Value} (h : ARep w I ι undA v) : v = .tuple #[] := by
  cases h with
  | tup _ vs hn h =>
    have : vs = #[] := Array.eq_empty_of_size_eq_zero (by simpa using hn)
    rw [this]

theorem want_of {ops : Array Oper} {fr : Fr} {o : Oper} {c : Bool} {a : Act} (hr : ∀ d u, look fr.l d = some u → (∃ j want, o.guard = some (j, want) ∧ (ops[j]?).bind (·.dst) = some d) → ARep w I ι u (a.tmps.getD d undef)) (h : guardIs ops fr o.guard c) :
    Region.wanted o (yielded ops a.tmps) = c := by
  unfold guardIs at h
  split at h
  · rename_i hg; simp [Region.wanted, hg, h]
  · rename_i j want hg
    obtain ⟨d, g1, ⟨b, g2, g3⟩ | ⟨g2, g3⟩⟩ := h
    · have hv := rep_raw (hr d _ g2 ⟨j, want, hg, g1⟩)
      rw [g3]
      rcases Nat.lt_or_ge d a.tmps.size with hds | hds
      · rw [Array.getD_eq_getD_getElem?, Array.getElem?_eq_getElem hds] at hv
        simp at hv
        simp only [Region.wanted, hg, yielded, g1, Option.bind_some, Array.getElem?_eq_getElem hds, hv]
        cases b <;> cases want <;> rfl
      · rw [Array.getD_eq_getD_getElem?, Array.getElem?_eq_none hds] at hv
        simp [undef] at hv
    · have hv := rep_und (hr d _ g2 ⟨j, want, hg, g1⟩)
      rw [g3]
      rcases Nat.lt_or_ge d a.tmps.size with hds | hds
      · rw [Array.getD_eq_getD_getElem?, Array.getElem?_eq_getElem hds] at hv
        simp at hv
        simp only [Region.wanted, hg, yielded, g1, Option.bind_some, Array.getElem?_eq_getElem hds, hv]
        cases want <;> rfl
      · simp only [Region.wanted, hg, yielded, g1, Option.bind_some, Array.getElem?_eq_none hds]
        cases want <;> rfl

theorem FrOk.alike {fr fr' : Fr} {tmps : Array Value} (h : FrOk w I ι fr tmps) (k : Alike fr fr') : FrOk w I ι fr' tmps := ⟨h.1.trans k.1.symm, fun t u hu => h.2 t u (by rw [← k.2]; exact hu)⟩
theorem _root_.Go.Proofs.Ytdncagppilehgaa.AL.Sim.alike {fr fr' : Fr} {H : List ABlk} {a : Act} (h : Sim w I ι ⟨fr, H⟩ a) (k : Alike fr fr') : Sim w I ι ⟨fr', H⟩ a := ⟨FrOk.alike h.fr k, h.H, h.d⟩

/-- A guard's answer is the machine's. -/
theorem guard_ok {ops : Array Oper} {fr : Fr} {o : Oper} {K : Bool → Fr → Prop} {a : Act} (hf : FrOk w I ι fr a.tmps) (h : guardA ops fr o.guard K) :
    ∃ c fr', K c fr' ∧ Region.wanted o (yielded ops a.tmps) = c ∧ Alike fr fr' := by
  obtain ⟨c, fr', h1, h2, h3⟩ := guard_abs h
  exact ⟨c, fr', h1, want_of (fun d u hd _ => hf.2 d u hd) h2, h3⟩

theorem aOps_sound (hT : TOk P T) {ops : Array Oper} {Q : Exit → Act → World → Prop} {K : Fr → List ABlk → Prop} {w0 : World} {I0 : Nat → Prop} {ι0 : Nat → Option Nat} {H0 : List ABlk} (l : List Oper) :
    ∀ (fr : Fr) (H : List ABlk) (a : Act) (w : World) (I : Nat → Prop) (ι : Nat → Option Nat), aOps P T ops l fr H K → Sim w I ι ⟨fr, H⟩ a → Ex m w0 I0 ι0 H0 w I ι H →
      (∀ fr' H' a' w' I' ι', K fr' H' → Sim w' I' ι' ⟨fr', H'⟩ a' → Ex m w0 I0 ι0 H0 w' I' ι' H' → Q .normal a' w') → wpList P ops Q l a w := by
  induction l with
  | nil => intro fr H a w I ι h hs hx hk; exact hk _ _ _ _ _ _ h hs hx
  | cons o r ih =>
    intro fr H a w I ι h hs hx hk
    obtain ⟨hd, h⟩ := chkE h
    obtain ⟨c, fr', h1, h2, h3⟩ := guard_ok hs.fr h
    unfold wpList
    rw [h2]
    have hs' := hs.alike h3
    clear hs
    have hs := hs'
    clear hs'
    rw [← h3.1] at hd
    cases c with
    | true =>
      rw [if_pos rfl]
      refine .inl (aop_sound hT hs.H (fun x _ => evalA_ok hs.fr x) (aopX_ok h1) ?_)
      intro v w' r' H' I' ι' hK hr hs' hx'
      rw [forceV_eq, forceH_eq] at hK
      exact ih _ _ _ _ _ _ hK ⟨(hs.fr.move hs.H hx').put o.dst hd hr, hs', by rw [put_defers]; exact hs.d⟩ (hx.trans (hx'.less hx.len)) hk
    | false =>
      rw [if_neg (by simp)]
      exact ih _ _ _ _ _ _ h1 ⟨hs.fr.put o.dst hd (.tup [] #[] rfl (fun i u h => by simp at h)), hs.H, by rw [put_defers]; exact hs.d⟩ hx hk

theorem aw_region (hT : TOk P T) {id : Nat} {ops : Array Oper} {s : St} {Q : Exit → St → Prop} (h : aOps P T ops ops.toList s.fr s.H (fun fr H => Q .normal ⟨fr, H⟩)) : AW P m (.region id ops false) s Q := fun w I ι a hs hm => by
  refine wp_region_list (aOps_sound (m := m) hT ops.toList s.fr s.H a w I ι h hs (Ex.refl hm) ?_)
  intro fr' H' a' w' I' ι' hK hs' hx'
  exact ⟨⟨fr', H'⟩, I', ι', hK, hs', hx'⟩

end
end Go.Proofs.Ytdncagppilehgaa.AL
