/- The abstract layer (second make), part d: what each operation does to abstract values and blocks. -/
import Derived.Test.YtolefphdldmlkaaBLc
namespace Go.Proofs.Ytolefphdldmlkaa.AL
open Go

inductive TD where
  | int (k : IntKind) | bool | string | slice (e : TypeId) | struct (fs : List (Nat × TypeId)) | array (n : Nat) (e : TypeId) | ptr (e : TypeId) | func | map (k e : TypeId) | other
structure TI where
  d : TD
  size : Nat
  bytes : Nat
  zero : List Value

def tdOf : TypeDesc → TD
  | .int k => .int k
  | .bool => .bool
  | .string => .string
  | .slice e => .slice e
  | .struct fs => .struct (fs.toList.map fun f => (f.offset, f.type))
  | .array n e => .array n e
  | .pointer e => .ptr e
  | .func _ _ _ => .func
  | .map k e => .map k e
  | _ => .other

def tiOf (P : Program) (t : TypeId) : Option TI :=
  match P.info? t, P.underlying t with
  | some i, some d => match i.zero with
    | some z => match z.cells.toList.all (·.oneCell') with | true => some ⟨tdOf d, i.size, i.bytes, z.cells.toList⟩ | false => none
    | none => none
  | _, _ => none

abbrev TTab := TypeId → Option TI
def TOk (P : Program) (T : TTab) : Prop := ∀ t i, T t = some i → tiOf P t = some i

def chk (b : Bool) (K : Prop) : Prop := match b with | true => K | false => False
theorem chkI {b : Bool} {K : Prop} (h : b = true) (k : K) : chk b K := by subst h; exact k
theorem chkE {b : Bool} {K : Prop} (h : chk b K) : b = true ∧ K := by cases b; exact h.elim; exact ⟨rfl, h⟩
def optK {α : Type} (o : Option α) (K : α → Prop) : Prop := match o with | some x => K x | none => False
theorem optI {α : Type} {o : Option α} {K : α → Prop} {x : α} (h : o = some x) (k : K x) : optK o K := by subst h; exact k
theorem optE {α : Type} {o : Option α} {K : α → Prop} (h : optK o K) : ∃ x, o = some x ∧ K x := by cases o with | none => exact h.elim | some x => exact ⟨x, rfl, h⟩

def AV.one : AV → Bool
  | .p (.raw v) => v.oneCell'
  | .p _ | .ref _ _ | .msl _ _ _ _ | .elr _ _ _ _ | .clo _ _ | .mth _ _ | .yld _ | .mp _ => true
  | _ => false
def AV.cells? : AV → Option (List AV)
  | .agg l => match l.all AV.one with | true => some l | false => none
  | .p (.raw v) => match v.oneCell' with | true => some [.p (.raw v)] | false => none
  | .p x => some [.p x]
  | .ref b o => some [.ref b o]
  | .msl b s o l => some [.msl b s o l]
  | .elr b s i o => some [.elr b s i o]
  | .clo f c => some [.clo f c]
  | .mth f c => some [.mth f c]
  | .yld b => some [.yld b]
  | .mp b => some [.mp b]
  | _ => none

def getPV : AV → Option PV | .p x => some x | _ => none
def pvs : List AV → Option (List PV)
  | [] => some []
  | u :: r => match getPV u, pvs r with | some x, some l => some (x :: l) | _, _ => none
def getRaw : AV → Option Value | .p (.raw v) => some v | _ => none
def raws : List AV → Option (List Value)
  | [] => some []
  | u :: r => match getRaw u, raws r with | some x, some l => some (x :: l) | _, _ => none

def mkVal (d : TD) (us : List AV) : AV :=
  match d with
  | .struct _ => .agg us
  | .array _ _ => .agg us
  | _ => us.headD .top

def isRowTD : TD → Bool | .struct _ => true | .array _ _ => true | _ => false

def loadK (H : List ABlk) (a : AV) (size : Nat) (K : List AV → Prop) : Prop :=
  match a with
  | .p (.box cs) => chk (decide (size ≤ cs.length)) (K ((cs.take size).map .p))
  | .ref b off => match H.getD b .dead with
    | .cells _ l => chk (decide (off + size ≤ l.length)) (K ((l.drop off).take size))
    | _ => False
  | .elr b sz i off => match H.getD b .dead with
    | .row _ sz' xs => chk (sz' == sz) (optK xs[i]? fun e => chk (decide (off + size ≤ e.length)) (K (((e.drop off).take size).map .p)))
    | .cells _ l => chk (decide (i * sz + off + size ≤ l.length)) (K ((l.drop (i * sz + off)).take size))
    | _ => False
  | _ => False

def storeK (H : List ABlk) (a : AV) (vs : List AV) (K : List ABlk → Prop) : Prop :=
  match a with
  | .ref b off => match H.getD b .dead with
    | .cells t l => chk (decide (off + vs.length ≤ l.length)) (K (H.set b (.cells t (setL l off vs))))
    | _ => False
  | .elr b sz i off => match H.getD b .dead with
    | .row t sz' xs => chk (sz' == sz) (optK xs[i]? fun e => chk (decide (off + vs.length ≤ e.length)) (optK (pvs vs) fun ps => K (H.set b (.row t sz' (xs.set i (setL e off ps))))))
    | .cells t l => chk (decide (i * sz + off + vs.length ≤ l.length)) (K (H.set b (.cells t (setL l (i * sz + off) vs))))
    | _ => False
  | _ => False

def shiftK (op : BinOp) (k : IntKind) (a b : Int) (K : Value → Prop) : Prop :=
  match op with
  | .shl => chk (decide (0 ≤ b)) (K (.int k (k.wrap (a * 2 ^ (min b.toNat k.bits)))))
  | .shr => chk (decide (0 ≤ b)) (K (.int k (a.fdiv (2 ^ (min b.toNat k.bits)))))
  | _ => False

def intK (op : BinOp) (k : IntKind) (a b : Int) (K : Value → Prop) : Prop :=
  match op with
  | .add => K (.int k (k.wrap (a + b)))
  | .sub => K (.int k (k.wrap (a - b)))
  | .mul => K (.int k (k.wrap (a * b)))
  | .quo => chk (decide (b ≠ 0)) (K (.int k (k.wrap (a.tdiv b))))
  | .rem => chk (decide (b ≠ 0)) (K (.int k (a.tmod b)))
  | .and => K (.int k (k.wrap ((BitVec.ofInt k.bits a &&& BitVec.ofInt k.bits b).toNat)))
  | .or => K (.int k (k.wrap ((BitVec.ofInt k.bits a ||| BitVec.ofInt k.bits b).toNat)))
  | .xor => K (.int k (k.wrap ((BitVec.ofInt k.bits a ^^^ BitVec.ofInt k.bits b).toNat)))
  | .andNot => K (.int k (k.wrap ((BitVec.ofInt k.bits a &&& ~~~BitVec.ofInt k.bits b).toNat)))
  | .eql => K (.bool (a == b))
  | .neq => K (.bool (a != b))
  | .lss => K (.bool (decide (a < b)))
  | .leq => K (.bool (decide (a ≤ b)))
  | .gtr => K (.bool (decide (a > b)))
  | .geq => K (.bool (decide (a ≥ b)))
  | _ => False

def isPtr : AV → Bool | .ref _ _ | .elr _ _ _ _ | .p (.box _) => true | _ => false
def binG (op : BinOp) (t : TypeId) (x y : Operand) (a b : Value) : Sem Value := do eqGuard op t x y a b; binOp op t a b

def binK (P : Program) (T : TTab) (op : BinOp) (t : TypeId) (xo yo : Operand) (x y : AV) (K : Value → Prop) : Prop :=
  match x, y with
  | .p (.raw (.int k a)), .p (.raw (.int k' b)) => match op with
    | .shl => shiftK .shl k a b K
    | .shr => shiftK .shr k a b K
    | op => chk (k == k') (intK op k a b K)
  | .p (.raw (.string a)), .p (.raw (.string b)) => match op with
    | .eql => K (.bool (a.toList == b.toList))
    | .neq => K (.bool (!(a.toList == b.toList)))
    | op => ∃ r, (∀ w, (binG op t xo yo (.string a) (.string b)).run P w = .ok r w) ∧ r.oneCell' = true ∧ K r
  | .p (.raw (.bool a)), .p (.raw (.bool b)) => match op, T t with
    | .eql, some ⟨.bool, _, _, _⟩ => K (.bool (a == b))
    | .neq, some ⟨.bool, _, _, _⟩ => K (.bool (!(a == b)))
    | _, _ => False
  | .agg l, .agg l' => optK (raws l) fun vs => optK (raws l') fun vs' => ∃ r, (∀ w, (binG op t xo yo (.agg vs.toArray) (.agg vs'.toArray)).run P w = .ok r w) ∧ r.oneCell' = true ∧ K r
  | x, .p (.raw (.pointer none)) => match op, T t with
    | .eql, some ⟨.ptr _, _, _, _⟩ => match x with
      | .p (.raw (.pointer none)) => K (.bool true)
      | _ => chk (isPtr x) (K (.bool false))
    | .neq, some ⟨.ptr _, _, _, _⟩ => match x with
      | .p (.raw (.pointer none)) => K (.bool false)
      | _ => chk (isPtr x) (K (.bool true))
    | _, _ => False
  | _, _ => False

def pickV (t : Bool) (x y : AV) : AV :=
  match x, y with
  | .p (.raw (.bool a)), .p (.raw (.bool b)) => .p (.raw (.bool (cond t a b)))
  | x, y => cond t x y

def unK (op : UnOp) (x : AV) (K : Value → Prop) : Prop :=
  match op, x with
  | .not, .p (.raw (.bool b)) => K (.bool !b)
  | .neg, .p (.raw (.int k n)) => K (.int k (k.wrap (0 - n)))
  | _, _ => False

def fillA (T : TTab) (place : Nat → Option (Nat × Nat)) (cells : List AV) : List (Nat × AV) → Option (List AV)
  | [] => some cells
  | (i, v) :: rest => match place i, v.cells? with
    | some (off, size), some l => match l.length == size && Nat.ble (off + l.length) cells.length with
      | true => fillA T place (setL cells off l) rest
      | false => none
    | _, _ => none

def fieldPlaces (T : TTab) : List (Nat × TypeId) → Option (List (Nat × Nat))
  | [] => some []
  | (o, t) :: r => match T t, fieldPlaces T r with | some i, some l => some ((o, i.size) :: l) | _, _ => none

def zeroA (ti : TI) : List AV := ti.zero.map fun v => .p (.raw v)
def zeroP (ti : TI) : List PV := ti.zero.map fun v => .raw v

def chunk {α : Type} (sz : Nat) : Nat → List α → List (List α)
  | 0, _ => []
  | n + 1, l => l.take sz :: chunk sz n (l.drop sz)

/-- A slice literal's block: of closed cells it is a row. -/
def litBlk (e : TypeId) (sz n : Nat) (l : List AV) : ABlk := match pvs l with | some ps => .row e sz (chunk sz n ps) | none => .cells e l

def boundOf (d : Nat) : Option AV → Option Int
  | none => some d
  | some (.p (.raw (.int _ n))) => some n
  | _ => none

def sliceK (sz : Nat) (x : AV) (lo hi : Option AV) (K : AV → Prop) : Prop :=
  match x with
  | .p (.sl sz' xs) => chk (sz' == sz) (optK (boundOf 0 lo) fun l => optK (boundOf xs.length hi) fun h => (0 ≤ l ∧ l ≤ h ∧ h ≤ xs.length) ∧ K (.p (.sl sz ((xs.take h.toNat).drop l.toNat))))
  | .msl b sz' off len => chk (sz' == sz) (optK (boundOf 0 lo) fun l => optK (boundOf len hi) fun h => (0 ≤ l ∧ l ≤ h ∧ h ≤ len) ∧ K (.msl b sz (off + l.toNat) (h.toNat - l.toNat)))
  | .p (.raw (.slice none 0 0)) => optK (boundOf 0 lo) fun l => optK (boundOf 0 hi) fun h => (l = 0 ∧ h = 0) ∧ K (.p (.raw (.slice none 0 0)))
  | _ => False

def addOff (x : AV) (o : Nat) (K : AV → Prop) : Prop :=
  match x with
  | .ref b off => K (.ref b (off + o))
  | .elr b sz i off => K (.elr b sz i (off + o))
  | .p (.box cs) => K (.p (.box (cs.drop o)))
  | _ => False

def indexK (d : TD) (sz : Nat) (x i : AV) (K : AV → Prop) : Prop :=
  match i with
  | .p (.raw (.int _ n)) => match d, x with
    | .slice _, .p (.sl sz' xs) => chk (sz' == sz) (0 ≤ n ∧ optK xs[n.toNat]? fun e => K (.p (.box e)))
    | .slice _, .msl b sz' off len => chk (sz' == sz) ((0 ≤ n ∧ n < len) ∧ K (.elr b sz (off + n.toNat) 0))
    | .array N _, .ref b off => (0 ≤ n ∧ n < N) ∧ K (.ref b (off + n.toNat * sz))
    | .array N _, .p (.box cs) => (0 ≤ n ∧ n < N) ∧ K (.p (.box (cs.drop (n.toNat * sz))))
    | .array N _, .elr b sz' r off => chk (sz' == sz && off == 0) ((0 ≤ n ∧ n < N) ∧ K (.elr b sz (r + n.toNat) 0))
    | _, _ => False
  | _ => False

def lenK (x : AV) (K : AV → Prop) : Prop :=
  match x with
  | .p (.sl _ xs) => K (.p (.raw (.int .i64 xs.length)))
  | .msl _ _ _ len => K (.p (.raw (.int .i64 len)))
  | .p (.raw (.slice none 0 0)) => K (.p (.raw (.int .i64 0)))
  | _ => False

/-- What is appended, as elements' cells. -/
def srcOf (H : List ABlk) (sz : Nat) : AV → Option (List (List PV))
  | .p (.sl sz' xs) => match sz' == sz with | true => some xs | false => none
  | .msl b sz' off len => match H.getD b .dead with
    | .row _ sz'' xs => match sz' == sz && sz'' == sz && Nat.ble (off + len) xs.length with | true => some ((xs.drop off).take len) | false => none
    | _ => none
  | .p (.raw (.slice none 0 0)) => some []
  | _ => none

/-- append: the old row is gone, a new one stands at the list's end. -/
def appendK (H : List ABlk) (e : TypeId) (ti : TI) (s x : AV) (K : AV → List ABlk → Prop) : Prop :=
  optK (srcOf H ti.size x) fun ys =>
  match s with
  | .p (.raw (.slice none 0 0)) => ((ys.length * ti.bytes ≤ 140737488355328 ∧ ys.length ≤ 140737488355328) ∧ K (.msl H.length ti.size 0 ys.length) (H ++ [.row e ti.size ys]))
  | .msl b sz off len => match H.getD b .dead with
    | .row e' sz' xs => chk (sz == ti.size && sz' == ti.size && e' == e && off == 0) (xs.length = len ∧ ((xs.length + ys.length) * ti.bytes ≤ 140737488355328 ∧ xs.length + ys.length ≤ 140737488355328) ∧
        K (.msl H.length ti.size 0 (xs ++ ys).length) (H.set b .dead ++ [.row e ti.size (xs ++ ys)]))
    | _ => False
  | _ => False

def minmaxK (mx : Bool) (x y : AV) (K : AV → Prop) : Prop :=
  match x, y with
  | .p (.raw (.int k a)), .p (.raw (.int _ b)) => K (.p (.raw (.int k (cond mx (if b > a then b else a) (if b < a then b else a)))))
  | _, _ => False

def lenT (d : TD) (x : AV) (K : AV → Prop) : Prop :=
  match d with
  | .slice _ => lenK x K
  | .string => match x with
    | .p (.raw (.string s)) => K (.p (.raw (.int .i64 s.size)))
    | _ => False
  | .array n _ => K (.p (.raw (.int .i64 n)))
  | _ => False

/-- clear: the elements of part of a row are noughts. -/
def clearK (H : List ABlk) (ti : TI) (x : AV) (K : List ABlk → Prop) : Prop :=
  match x with
  | .msl b sz off len => match H.getD b .dead with
    | .row e sz' xs => chk (sz == ti.size && sz' == ti.size) (off + len ≤ xs.length ∧ K (H.set b (.row e sz' (setL xs off (List.replicate len (zeroP ti))))))
    | _ => False
  | .p (.raw (.slice none 0 0)) => K H
  | _ => False

def builtinK (T : TTab) (b : Builtin) (ts : List TypeId) (xs : List AV) (H : List ABlk) (K : AV → List ABlk → Prop) : Prop :=
  match b, xs with
  | .len, [x] => match ts with
    | [t] => optK (T t) fun ti => lenT ti.d x fun u => K u H
    | _ => False
  | .append, [s, x] => match ts with
    | [t, t'] => chk (t == t') (optK (T t) fun ti => match ti.d with
      | .slice e => optK (T e) fun ei => chk (decide (0 < ei.size) && decide (0 < ei.bytes) && (ei.zero.length == ei.size)) (appendK H e ei s x K)
      | _ => False)
    | _ => False
  | .max, [x, y] => minmaxK true x y fun u => K u H
  | .min, [x, y] => minmaxK false x y fun u => K u H
  | .clear, [x] => match ts with
    | [t] => optK (T t) fun ti => match ti.d with
      | .slice e => optK (T e) fun ei => chk (decide (0 < ei.size) && (ei.zero.length == ei.size)) (clearK H ei x fun H' => K .top H')
      | _ => False
    | _ => False
  | _, _ => False

/-- The calls that an operation may make: of a function; of yield, by its loop's block. -/
structure CallA where
  fn : FuncId → List AV → List ABlk → (AV → List ABlk → Prop) → Prop
  yld : Nat → List AV → List ABlk → (AV → List ABlk → Prop) → Prop

def calleeK (C : CallA) (f : AV) (us : List AV) (H : List ABlk) (K : AV → List ABlk → Prop) : Prop :=
  match f with
  | .clo (.func k) caps => C.fn k (us ++ caps) H K
  | .mth (.func k) first => C.fn k (first ++ us) H K
  | .yld b => C.yld b us H K
  | .p (.raw (.func (.func k) ⟨[]⟩ ⟨[]⟩)) => C.fn k us H K
  | _ => False

/-- The operands, in their order. -/
def opsL : Op → List Operand
  | .move x | .assign x | .box _ x | .load _ x | .unOp _ _ x | .convert _ _ x | .fieldAddr _ x _ | .field _ x _ | .extract x _ | .nilCheck x => [x]
  | .pick c a b => [c, a, b]
  | .build _ ps | .buildSlice _ _ ps => ps.toList.map (·.2)
  | .store _ a x | .binOp _ _ a x _ | .makeSlice _ a x | .indexAddr _ a x | .index _ a x | .lookup _ a x _ => [a, x]
  | .insert _ m k v | .mapUpdate _ m k v => [m, k, v]
  | .makeFunc _ first caps => first.toList ++ caps.toList
  | .slice _ x lo hi _ => [x] ++ lo.toList ++ hi.toList
  | .call c => (match c.callee with | .value f => [f] | _ => []) ++ c.args.toList
  | _ => []

def on1 (us : List AV) (K : AV → Prop) : Prop := match us with | [a] => K a | _ => False
def on2 (us : List AV) (K : AV → AV → Prop) : Prop := match us with | [a, b] => K a b | _ => False
def on3 (us : List AV) (K : AV → AV → AV → Prop) : Prop := match us with | [a, b, c] => K a b c | _ => False
def onC (us : List AV) (K : AV → List AV → Prop) : Prop := match us with | a :: r => K a r | [] => False

def convK (s d : TI) (u : AV) (H : List ABlk) (T : TTab) (K : AV → List ABlk → Prop) : Prop :=
  match s.d, d.d, u with
  | .int _, .int k, .p (.raw (.int _ n)) => K (.p (.raw (.int k (k.wrap n)))) H
  | .slice e, .string, u => optK (T e) fun ei => match ei.d with
    | .int .u8 => chk (ei.size == 1) (optK (srcOf H 1 u) fun ys => ∃ bs : List UInt8, ys = bs.map (fun b => [PV.raw (.int .u8 b.toNat)]) ∧ K (.p (.raw (.string ⟨bs.toArray⟩))) H)
    | _ => False
  | _, _, _ => False

def indexV (ei : TI) (N : Nat) (d : TD) (x i : AV) (K : AV → Prop) : Prop :=
  match i, d, x with
  | .p (.raw (.int _ n)), .array _ _, .agg l => (0 ≤ n ∧ n < N) ∧ chk (decide (n.toNat * ei.size + ei.size ≤ l.length) && (isRowTD ei.d || ei.size == 1)) (K (mkVal ei.d ((l.drop (n.toNat * ei.size)).take ei.size)))
  | _, _, _ => False

def indexS (x i : AV) (K : AV → Prop) : Prop :=
  match i, x with
  | .p (.raw (.int _ n)), .p (.raw (.string s)) => 0 ≤ n ∧ optK s.data[n.toNat]? fun b => K (.p (.raw (.int .u8 b.toNat)))
  | _, _ => False

/-- Keys of which the machine sees at once whether they are one. -/
def flatKey : TD → Bool | .int _ | .string => true | _ => false
def keyD : TD → TypeDesc | .int k => .int k | _ => .string

def putMap (es : Array MapEntry) (clock : Nat) (k v : Value) : Option (Option (Nat × Value)) → Option Obj
  | some none => some (.map (es.push { key := k, val := v, born := clock }) (clock + 1))
  | some (some (i, _)) => some (.map (es.modify i fun e => { e with key := k, val := v }) clock)
  | none => none

/-- A value that stands for itself: a plain one, or a function of the program. -/
def rawA : AV → Option Value
  | .p (.raw v) => some v
  | .clo fn [] => some (.func fn #[] #[])
  | _ => none
def mapPutK (T : TTab) (t : TypeId) (H : List ABlk) (m k v : AV) (K : List ABlk → Prop) : Prop :=
  match m, k with
  | .mp b, .p (.raw k) => optK (rawA v) fun v => optK (T t) fun ti => match ti.d with
    | .map kt _ => optK (T kt) fun ki => chk (flatKey ki.d) (match H.getD b .dead with
      | .obj (.map es clock) => optK (putMap es clock k v (Instr.findNow (keyD ki.d) k es.toList 0)) fun o => K (H.set b (.obj o))
      | _ => False)
    | _ => False
  | _, _ => False

def mapGetK (P : Program) (T : TTab) (t : TypeId) (ok : Bool) (H : List ABlk) (m k : AV) (K : AV → Prop) : Prop :=
  match m, k with
  | .mp b, .p (.raw k) => optK (T t) fun ti => match ti.d with
    | .map kt et => optK (T kt) fun ki => optK (T et) fun ei => chk (flatKey ki.d && (ei.size == 1) && !(isRowTD ei.d)) (match H.getD b .dead with
      | .obj (.map es _) => optK (Instr.findNow (keyD ki.d) k es.toList 0) fun r => match r with
        | some (_, v) => chk v.oneCell' (K (cond ok (.tup [.p (.raw v), .p (.raw (.bool true))]) (.p (.raw v))))
        | none => ∃ i v, P.info? et = some i ∧ i.zero = some v ∧ v.oneCell' = true ∧ K (cond ok (.tup [.p (.raw v), .p (.raw (.bool false))]) (.p (.raw v)))
      | _ => False)
    | _ => False
  | _, _ => False

/-- A slice is held against nil: one of no elements may be nil, or not. -/
def sliceNilK (T : TTab) (op : BinOp) (t : TypeId) (x : AV) (K : Value → Prop) : Prop :=
  optK (T t) fun ti => match ti.d with
  | .slice _ => match op, x with
    | .eql, .p (.sl _ xs) => ∀ b, (b = true → xs = []) → K (.bool b)
    | .neq, .p (.sl _ xs) => ∀ b, (b = false → xs = []) → K (.bool b)
    | .eql, .msl _ _ _ len => ∀ b, (b = true → len = 0) → K (.bool b)
    | .neq, .msl _ _ _ len => ∀ b, (b = false → len = 0) → K (.bool b)
    | .eql, .p (.raw (.slice none 0 0)) => K (.bool true)
    | .neq, .p (.raw (.slice none 0 0)) => K (.bool false)
    | _, _ => False
  | _ => False

def binV (P : Program) (T : TTab) (op : BinOp) (t : TypeId) (xo yo : Operand) (x y : AV) (K : Value → Prop) : Prop :=
  match yo with
  | .const (.slice none 0 0) => sliceNilK T op t x K
  | yo => binK P T op t xo yo x y K

/-- Does it come to one value? -/
def detK : Op → Bool
  | .binOp _ _ _ y _ => match y with | .const (.slice none 0 0) => false | _ => true
  | _ => true

/-- What an operation does, at its operands' values. -/
def opV (P : Program) (T : TTab) (C : CallA) (H : List ABlk) (K : AV → List ABlk → Prop) (o : Op) (us : List AV) : Prop :=
  match o with
  | .move _ => on1 us fun x => K x H
  | .assign _ => on1 us fun x => K x H
  | .pick _ _ _ => on3 us fun c a b => match c with
    | .p (.raw (.bool t)) => K (pickV t a b) H
    | _ => False
  | .alloc t => optK (T t) fun ti => K (.ref H.length 0) (H ++ [.cells t (zeroA ti)])
  | .box t _ => on1 us fun x => optK x.cells? fun l => K (.ref H.length 0) (H ++ [.cells t l])
  | .build t parts => optK (T t) fun ti => match ti.d with
    | .struct fs => optK (fieldPlaces T fs) fun pl => optK (fillA T (fun i => pl[i]?) (zeroA ti) ((parts.toList.map (·.1)).zip us)) fun l => K (.agg l) H
    | .array _ e => optK (T e) fun ei => optK (fillA T (fun i => some (i * ei.size, ei.size)) (zeroA ti) ((parts.toList.map (·.1)).zip us)) fun l => K (.agg l) H
    | _ => False
  | .buildSlice t n parts => optK (T t) fun ti => match ti.d with
    | .slice e => optK (T e) fun ei => chk (decide (n * ei.size ≤ 1000) && decide (0 < ei.size) && (ei.zero.length == ei.size)) (optK (fillA T (fun i => some (i * ei.size, ei.size)) (List.replicate n (zeroA ei)).flatten ((parts.toList.map (·.1)).zip us)) fun l =>
        K (.msl H.length ei.size 0 n) (H ++ [litBlk e ei.size n l]))
    | _ => False
  | .load t _ => on1 us fun a => optK (T t) fun ti => chk (isRowTD ti.d || ti.size == 1) <| loadK H a ti.size fun us => K (mkVal ti.d us) H
  | .store t _ _ => on2 us fun a x => optK (T t) fun ti => optK x.cells? fun vs => chk (vs.length == ti.size) (storeK H a vs fun H' => K .top H')
  | .binOp op t xo yo _ => on2 us fun x y => binV P T op t xo yo x y fun v => K (.p (.raw v)) H
  | .unOp op _ _ => on1 us fun x => unK op x fun v => K (.p (.raw v)) H
  | .convert src dst _ => on1 us fun x => optK (T src) fun s => optK (T dst) fun d => convK s d x H T K
  | .makeFunc fn first _ => match first.isEmpty with
    | true => K (.clo fn us) H
    | false => chk (us.length == first.size) (K (.mth fn us) H)
  | .makeMap _ r => chk r.isNone (K (.mp H.length) (H ++ [.obj (.map #[] 0)]))
  | .insert t _ _ _ => on3 us fun m k v => mapPutK T t H m k v fun H' => K .top H'
  | .mapUpdate t _ _ _ => on3 us fun m k v => mapPutK T t H m k v fun H' => K .top H'
  | .lookup t _ _ ok => on2 us fun m k => mapGetK P T t ok H m k fun u => K u H
  | .makeSlice t _ _ => on2 us fun l c => optK (T t) fun ti => match ti.d with
    | .slice e => optK (T e) fun ei => chk (decide (0 < ei.size) && (ei.zero.length == ei.size)) (match l, c with
      | .p (.raw (.int .i64 n)), .p (.raw (.int .i64 n')) => (n' = n ∧ 0 ≤ n ∧ n * ei.bytes ≤ 140737488355328 ∧ n ≤ 140737488355328) ∧ K (.msl H.length ei.size 0 n.toNat) (H ++ [.row e ei.size (List.replicate n.toNat (zeroP ei))])
      | _, _ => False)
    | _ => False
  | .slice t _ lo hi mx => onC us fun x r => chk mx.isNone (optK (T t) fun ti => match ti.d with
    | .slice e => optK (T e) fun ei => sliceK ei.size x (match lo with | some _ => r.head? | none => none) (match lo, hi with | some _, some _ => r.tail.head? | none, some _ => r.head? | _, none => none) fun u => K u H
    | .string => match x with
      | .p (.raw (.string s)) => optK (boundOf 0 (match lo with | some _ => r.head? | none => none)) fun l => optK (boundOf s.size (match lo, hi with | some _, some _ => r.tail.head? | none, some _ => r.head? | _, none => none)) fun h =>
          (0 ≤ l ∧ l ≤ h ∧ h ≤ s.size) ∧ K (.p (.raw (.string (s.extract l.toNat h.toNat)))) H
      | _ => False
    | _ => False)
  | .fieldAddr s _ f => on1 us fun x => optK (T s) fun ti => match ti.d with
    | .struct fs => optK fs[f]? fun p => optK (T p.2) fun fi => chk (decide (0 < fi.size)) (addOff x p.1 fun u => K u H)
    | _ => False
  | .field s _ f => on1 us fun x => optK (T s) fun ti => match ti.d with
    | .struct fs => optK fs[f]? fun p => optK (T p.2) fun fi => match x with
      | .agg l => chk (decide (p.1 + fi.size ≤ l.length) && (isRowTD fi.d || fi.size == 1)) (K (mkVal fi.d ((l.drop p.1).take fi.size)) H)
      | _ => False
    | _ => False
  | .indexAddr t _ _ => on2 us fun x i => optK (T t) fun ti => match ti.d with
    | .slice e => optK (T e) fun ei => indexK (.slice e) ei.size x i fun u => K u H
    | .array n e => optK (T e) fun ei => indexK (.array n e) ei.size x i fun u => K u H
    | _ => False
  | .index t _ _ => on2 us fun x i => optK (T t) fun ti => match ti.d with
    | .array n e => optK (T e) fun ei => indexV ei n (.array n e) x i fun u => K u H
    | .string => indexS x i fun u => K u H
    | _ => False
  | .extract _ i => on1 us fun x => match x with
    | .tup l => optK l[i]? fun u => K u H
    | _ => False
  | .nilCheck _ => on1 us fun x => chk (isPtr x) (K x H)
  | .call c => match c.callee with
    | .value _ => onC us fun f r => calleeK C f r H K
    | .builtin b => builtinK T b c.argTypes.toList us H K
    | .invoke _ _ => False
  | _ => False

def aop (P : Program) (T : TTab) (C : CallA) (ev : Operand → AV) (H : List ABlk) (K : AV → List ABlk → Prop) (o : Op) : Prop := opV P T C H K o ((opsL o).map ev)

end Go.Proofs.Ytolefphdldmlkaa.AL
