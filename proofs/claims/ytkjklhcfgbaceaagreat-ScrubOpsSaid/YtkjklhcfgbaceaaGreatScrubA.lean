/- A part of the proof. -/
import Derived.WalkKit
import Derived.OrdersIn
import Derived.RangeFuncCalls
import Derived.RangeFuncLeaves
import Derived.RangeFuncRecord
import Derived.Deep.MidRow
open Option.some renaming inj→k0x
open List renaming getElem?_eq_getElem→k0w,getD_eq_getElem?_getD→k0v,getElem?_eq_some_iff→k0t,getElem?_append_left→k0s,getElem?_append_right→k1q,getElem?_map→k1z,length_append→k1y,getElem_mem→k1w,getElem?_set_self→k2y,mem_of_getElem?→k2x,length_take→k2u,getElem?_range→k2s,getElem?_set_ne→k3z
open Nat renaming le_refl→k1v,mul_le_mul_right→k2v
open Bool renaming and_eq_true→k1u
open Array renaming getD_eq_getD_getElem?→k2q
namespace Go.Proofs.YtkjklhcfgbaceaaGreat.AL
theorem k0z {p:Prop}[inst:Decidable p]:decide p=true→p:=of_decide_eq_true
theorem k0y {p:Prop}[inst:Decidable p]:decide p=false→¬ p:=of_decide_eq_false
theorem k1t {p:Prop}[inst:Decidable p]:p→decide p=true:=decide_eq_true
theorem k1s {p:Prop}[inst:Decidable p]:¬ p→decide p=false:=decide_eq_false
end Go.Proofs.YtkjklhcfgbaceaaGreat.AL
namespace Go.Proofs.YtkjklhcfgbaceaaGreat.AL
open Go
inductive PV where
 |raw (v:Value)
 |sl (sz:Nat) (xs:List (List PV))
 |box (cs:List PV)
 deriving Inhabited
inductive AV where
 |p (x:PV)
 |agg (l:List AV)
 |tup (l:List AV)
 |ref (b off:Nat)
 |msl (b sz off len:Nat)
 |elr (b sz i off:Nat)
 |clo (fn:Fn) (caps:List AV)
 |mth (fn:Fn) (first:List AV)
 |yld (b:Nat)
 |mp (b:Nat)
 |top
 deriving Inhabited
/-- A loop over a function: its parameters,what assigns them,its body. -/
structure RecK where
 ps:Array Tmp
 assign:Code
 body:Code
 deriving Inhabited
def v9s (q:RecK)(st:LoopState)(pe:Option Code)(n:Nat)(r:Loop):Prop:=r.state=st∧r.pending=pe∧r.params=q.ps∧r.assign=q.assign∧r.body=q.body∧n=r.tmps.size
inductive ABlk where
 |dead
 |cells (t:TypeId) (l:List AV)
 |row (t:TypeId) (sz:Nat) (xs:List (List PV))
 |obj (o:Obj)
 |lp (q:RecK) (st:LoopState) (pe:Option Code) (l:List AV)
 deriving Inhabited
inductive PRep (w:World) (I:Nat→Prop):PV→Value→Prop where
 |raw (v:Value) (h1:v.oneCell'=true):PRep w I (.raw v) v
 |sl (sz:Nat) (xs:List (List PV)) (A:Option Addr) (c:Nat) (f:Nat→Nat→Value)
  (hc:xs.length≤c) (hl:xs.length≤9223372036854775807)
  (hA:xs=[]∨∃ b o,A=some ⟨b,o,none⟩∧I b∧∀ j e,xs[j]?=some e→e.length=sz∧∀ i,i<sz→w.cell? ⟨b,o+j*sz+i,none⟩=some (f j i))
  (hr:∀ j e i u,xs[j]?=some e→e[i]?=some u→PRep w I u (f j i)):PRep w I (.sl sz xs) (.slice A xs.length c)
 |box (cs:List PV) (b o:Nat) (f:Nat→Value) (hI:I b) (hcell:∀ i,i<cs.length→w.cell? ⟨b,o+i,none⟩=some (f i))
  (hr:∀ i u,cs[i]?=some u→PRep w I u (f i)):PRep w I (.box cs) (.pointer (some ⟨b,o,none⟩))
inductive ARep (w:World) (I:Nat→Prop) (ι:Nat→Option Nat):AV→Value→Prop where
 |p {x v} (h:PRep w I x v):ARep w I ι (.p x) v
 |top (v):ARep w I ι .top v
 |agg (l:List AV) (vs:Array Value) (hn:vs.size=l.length) (h:∀ i u,l[i]?=some u→ARep w I ι u (vs.getD i undef)):ARep w I ι (.agg l) (.agg vs)
 |tup (l:List AV) (vs:Array Value) (hn:vs.size=l.length) (h:∀ i u,l[i]?=some u→ARep w I ι u (vs.getD i undef)):ARep w I ι (.tup l) (.tuple vs)
 |ref (b off B:Nat) (h:ι b=some B):ARep w I ι (.ref b off) (.pointer (some ⟨B,off,none⟩))
 |msl (b sz off len B c:Nat) (h:ι b=some B) (hc:len≤c) (hs:∃ cs t fr,w.heap[B]?=some (.cells cs t fr)∧(off+c)*sz≤cs.size) :
  ARep w I ι (.msl b sz off len) (.slice (some ⟨B,off*sz,none⟩) len c)
 |msl0 (b sz off:Nat) (A:Option Addr):ARep w I ι (.msl b sz off 0) (.slice A 0 0)
 |elr (b sz i off B:Nat) (h:ι b=some B):ARep w I ι (.elr b sz i off) (.pointer (some ⟨B,i*sz+off,none⟩))
 |clo (fn:Fn) (caps:List AV) (vs:Array Value) (hn:vs.size=caps.length) (h:∀ i u,caps[i]?=some u→ARep w I ι u (vs.getD i undef)) :
  ARep w I ι (.clo fn caps) (.func fn #[] vs)
 |mth (fn:Fn) (first:List AV) (vs:Array Value) (hn:vs.size=first.length) (h:∀ i u,first[i]?=some u→ARep w I ι u (vs.getD i undef)) :
  ARep w I ι (.mth fn first) (.func fn vs #[])
 |yld (b B:Nat) (h:ι b=some B):ARep w I ι (.yld b) (.func (.yield B) #[] #[])
 |mp (b B:Nat) (h:ι b=some B):ARep w I ι (.mp b) (.map (some B))
def Shape (w w':World):Prop:=∀ (B:Nat) (cs:Array Value) (t:TypeId) (fr:Nat × Nat),w.heap[B]?=some (.cells cs t fr)→∃ cs':Array Value,w'.heap[B]?=some (.cells cs' t fr)∧cs'.size=cs.size
theorem Shape.refl (w:World):Shape w w:=fun _ cs _ _ h=>⟨cs,h,rfl⟩
theorem Shape.trans {a b c:World}(h:Shape a b)(k:Shape b c):Shape a c:=fun B cs t fr hb=>by
 obtain⟨cs',h1,h2⟩:=h B cs t fr hb
 obtain⟨cs'',h3,h4⟩:=k B cs' t fr h1
 exact⟨cs'',h3,h4.trans h2⟩
theorem PRep.one {w:World}{I:Nat→Prop}{x:PV}{v:Value}(h:PRep w I x v):v.oneCell'=true:=by cases h <;> first|assumption|rfl
theorem PRep.move {w w':World}{I I':Nat→Prop}(hw:∀ B,I B→w'.heap[B]?=w.heap[B]?)(hI:∀ B,I B→I' B){x:PV}{v:Value}(h:PRep w I x v):PRep w' I' x v:=by
 induction h with
 |raw v h1=>exact .raw v h1
 |sl sz xs A c f hc hl hA _ ih=>
  refine .sl sz xs A c f hc hl ?_ (fun j e i u h1 h2=>ih j e i u h1 h2)
  rcases hA with hA|⟨b,o,h1,h2,h3⟩
  ·exact .inl hA
  ·refine .inr ⟨b,o,h1,hI b h2,fun j e hj=>⟨(h3 j e hj).1,fun i hi=>?_⟩⟩
   rw[World.cell?_of_block (w:=w) (w':=w') (hw b h2)]
   exact(h3 j e hj).2 i hi
 |box cs b o f hb hcell _ ih=>
  refine .box cs b o f (hI b hb) (fun i hi=>?_) (fun i u hu=>ih i u hu)
  rw[World.cell?_of_block (w:=w) (w':=w') (hw b hb)]
  exact hcell i hi
theorem ARep.move {w w':World}{I I':Nat→Prop}{ι ι':Nat→Option Nat}(hw:∀ B,I B→w'.heap[B]?=w.heap[B]?)(hI:∀ B,I B→I' B)(hι:∀ b B,ι b=some B→ι' b=some B)(hs:Shape w w')
 {x:AV} {v:Value} (h:ARep w I ι x v):ARep w' I' ι' x v:=by
 induction h with
 |p h=>exact .p (h.move hw hI)
 |top v=>exact .top v
 |agg l vs hn _ ih=>exact .agg l vs hn ih
 |tup l vs hn _ ih=>exact .tup l vs hn ih
 |ref b off B h=>exact .ref b off B (hι b B h)
 |msl b sz off len B c h hc hs'=>
  refine .msl b sz off len B c (hι b B h) hc ?_
  obtain⟨cs,t,fr,h1,h2⟩:=hs'
  obtain⟨cs',h3,h4⟩:=hs B cs t fr h1
  exact⟨cs',t,fr,h3,by omega⟩
 |msl0 b sz off A=>exact .msl0 b sz off A
 |elr b sz i off B h=>exact .elr b sz i off B (hι b B h)
 |clo fn caps vs hn _ ih=>exact .clo fn caps vs hn ih
 |mth fn first vs hn _ ih=>exact .mth fn first vs hn ih
 |yld b B h=>exact .yld b B (hι b B h)
 |mp b B h=>exact .mp b B (hι b B h)
def _root_.Go.Obj.noCells (o:Obj):Prop:=∀ cs t fr,o≠.cells cs t fr
def ABlk.live:ABlk→Bool|.dead=>false|_=>true
def live (H:List ABlk)(b:Nat):Prop:=∃ k,H[b]?=some k∧k.live=true
def z8i (w:World)(I:Nat→Prop)(ι:Nat→Option Nat)(b:Nat):ABlk→Prop
 |.dead=>True
 |.cells t l=>∃ B cs,ι b=some B∧w.heap[B]?=some (.cells cs t (0,0))∧¬ I B∧l.length≤cs.size∧∀ i u,l[i]?=some u→ARep w I ι u (cs.getD i undef)
 |.row t sz xs=>(xs=[]∧ι b=none)∨∃ B cs,ι b=some B∧w.heap[B]?=some (.cells cs t (0,0))∧¬ I B∧xs.length*sz≤cs.size∧xs.length≤140737488355328 ∧
  ∀ j e,xs[j]?=some e→e.length=sz∧∀ i u,e[i]?=some u→PRep w I u (cs.getD (j*sz+i) undef)
 |.obj o=>o.noCells∧∃ B,ι b=some B∧w.heap[B]?=some o∧¬ I B
 |.lp q st pe l=>∃ B r,ι b=some B∧w.heap[B]?=some (.loop r)∧¬ I B∧v9s q st pe l.length r∧∀ i u,l[i]?=some u→ARep w I ι u (r.tmps.getD i undef)
structure SimH (w:World) (I:Nat→Prop) (ι:Nat→Option Nat) (H:List ABlk):Prop where
 blk:∀ b k,H[b]?=some k→z8i w I ι b k
 inj:∀ b b' B,live H b→live H b'→ι b=some B→ι b'=some B→b=b'
 Ilt:∀ B,I B→B<w.heap.size
 dom:∀ b,H.length≤b→ι b=none
 rng:∀ b B,ι b=some B→B<w.heap.size
structure Ext (w0:World) (I0:Nat→Prop) (ι0:Nat→Option Nat) (H0:List ABlk) (w:World) (I:Nat→Prop) (ι:Nat→Option Nat) (H:List ABlk):Prop where
 os:w.os=w0.os
 tape:w.tape=w0.tape
 output:w.output=w0.output
 size:w0.heap.size≤w.heap.size
 shape:Shape w0 w
 Isub:∀ B,I0 B→I B
 frame:∀ B,B<w0.heap.size→¬ (∃ b,live H0 b∧ι0 b=some B)→w.heap[B]?=w0.heap[B]?
 Inew:∀ B,I B→I0 B∨w0.heap.size≤B∨∃ b,live H0 b∧ι0 b=some B
 own:∀ b B,live H b→ι b=some B→w0.heap.size≤B∨∃ b0,live H0 b0∧ι0 b0=some B
theorem Ext.refl (w:World)(I:Nat→Prop)(ι:Nat→Option Nat)(H:List ABlk):Ext w I ι H w I ι H:=
 ⟨rfl,rfl,rfl,k1v _,Shape.refl w,fun _ h=>h,fun _ _ _=>rfl,fun _ h=>.inl h,fun b _ hb h=>.inr ⟨b,hb,h⟩⟩
theorem Ext.trans {w0 w1 w2:World}{I0 I1 I2:Nat→Prop}{ι0 ι1 ι2:Nat→Option Nat}{H0 H1 H2:List ABlk}
 (h:Ext w0 I0 ι0 H0 w1 I1 ι1 H1) (k:Ext w1 I1 ι1 H1 w2 I2 ι2 H2):Ext w0 I0 ι0 H0 w2 I2 ι2 H2 where
 os:=k.os.trans h.os
 tape:=k.tape.trans h.tape
 output:=k.output.trans h.output
 size:=Nat.le_trans h.size k.size
 shape:=h.shape.trans k.shape
 Isub:=fun B hB=>k.Isub B (h.Isub B hB)
 frame:=fun B hB hn=>by
  have hs:=h.size
  rw[k.frame B (by omega) ?_]
  ·exact h.frame B hB hn
  ·rintro⟨b,hb,hι⟩
   rcases h.own b B hb hι with h1|h1
   ·omega
   ·exact hn h1
 Inew:=fun B hB=>by
  have hs:=h.size
  rcases k.Inew B hB with h1|h1|⟨b,hb,hι⟩
  ·exact h.Inew B h1
  ·exact .inr (.inl (by omega))
  ·rcases h.own b B hb hι with h2|h2
   ·exact .inr (.inl h2)
   ·exact .inr (.inr h2)
 own:=fun b B hb hι=>by
  have hs:=h.size
  rcases k.own b B hb hι with h1|⟨b1,hb1,hι1⟩
  ·exact .inl (by omega)
  ·exact h.own b1 B hb1 hι1
theorem SimH.notI {w:World}{I:Nat→Prop}{ι:Nat→Option Nat}{H:List ABlk}(h:SimH w I ι H){b B:Nat}(hb:live H b)(hι:ι b=some B):¬ I B:=by
 obtain⟨k,hk,hl⟩:=hb
 have hB:=h.blk b k hk
 cases k with
 |dead=>simp[ABlk.live]at hl
 |cells t l=>
  obtain⟨B',cs,h1,_,h3,_⟩:=hB
  rw[hι]at h1;obtain rfl:=k0x h1;exact h3
 |lp q st pe l=>
  obtain⟨B',cs,h1,_,h3,_⟩:=hB
  rw[hι]at h1;obtain rfl:=k0x h1;exact h3
 |row t sz xs=>
  rcases hB with ⟨_,h1⟩|⟨B',cs,h1,_,h3,_⟩
  ·rw[hι]at h1;exact absurd h1 (by simp)
  ·rw[hι]at h1;obtain rfl:=k0x h1;exact h3
 |obj o=>
  obtain⟨_,B',h1,_,h3⟩:=hB
  rw[hι]at h1;obtain rfl:=k0x h1;exact h3
theorem Ext.keepsI {w0 w:World}{I0 I:Nat→Prop}{ι0 ι:Nat→Option Nat}{H0 H:List ABlk}(s:SimH w0 I0 ι0 H0)(h:Ext w0 I0 ι0 H0 w I ι H):∀ B,I0 B→w.heap[B]?=w0.heap[B]?:=
 fun B hB=>h.frame B (s.Ilt B hB) (fun⟨_,hb,hι⟩=>s.notI hb hι hB)
def Mark (N:Nat)(w:World)(I:Nat→Prop)(ι:Nat→Option Nat)(H:List ABlk)(d:Deferred):Prop:=
 ∃ D,d = { target:=.collected D,args:=#[] }∧N≤D∧w.heap[D]?=some (.deferred (some []))∧¬ I D∧∀ b,live H b→ι b≠some D
theorem Mark.move {N:Nat}{w0 w:World}{I0 I:Nat→Prop}{ι0 ι:Nat→Option Nat}{H0 H:List ABlk}{d:Deferred}(h:Ext w0 I0 ι0 H0 w I ι H)(k:Mark N w0 I0 ι0 H0 d):Mark N w I ι H d:=by
 obtain⟨D,rfl,hN,hh,hI,hl⟩:=k
 have hlt:D<w0.heap.size:=(Array.getElem?_eq_some_iff.1 hh).1
 refine⟨D,rfl,hN,?_,fun hI'=>?_,fun b hb hι=>?_⟩
 ·rw[h.frame D hlt (fun⟨b,hb,hι⟩=>hl b hb hι)];exact hh
 ·rcases h.Inew D hI' with h1|h1|⟨b,hb,hι⟩
  ·exact hI h1
  ·omega
  ·exact hl b hb hι
 ·rcases h.own b D hb hι with h1|⟨b0,hb0,hι0⟩
  ·omega
  ·exact hl b0 hb0 hι0
end Go.Proofs.YtkjklhcfgbaceaaGreat.AL
namespace Go.Proofs.YtkjklhcfgbaceaaGreat.AL.Gf
def xt (a:UInt8):UInt8:=(a <<< 1) ^^^ (match a.toBitVec.msb with|true=>29|false=>0)
theorem u0m (a b:UInt8):xt (a ^^^ b)=xt a ^^^ xt b:=by
 have hs:(a ^^^ b) <<< 1=(a <<< 1) ^^^ (b <<< 1):=by
  apply UInt8.toBitVec_inj.mp
  rw[UInt8.toBitVec_xor,UInt8.toBitVec_shiftLeft,UInt8.toBitVec_shiftLeft,UInt8.toBitVec_shiftLeft,UInt8.toBitVec_xor]
  exact BitVec.shiftLeft_xor_distrib ..
 unfold xt
 rw[hs,UInt8.toBitVec_xor,BitVec.msb_xor]
 generalize a <<< 1=x
 generalize b <<< 1=y
 cases a.toBitVec.msb <;> cases b.toBitVec.msb
 ·show x ^^^ y ^^^ 0=x ^^^ 0 ^^^ (y ^^^ 0)
  simp
 ·show x ^^^ y ^^^ 29=x ^^^ 0 ^^^ (y ^^^ 29)
  rw[UInt8.xor_zero,UInt8.xor_assoc]
 ·show x ^^^ y ^^^ 29=x ^^^ 29 ^^^ (y ^^^ 0)
  rw[UInt8.xor_zero,UInt8.xor_assoc,UInt8.xor_assoc,UInt8.xor_comm y]
 ·show x ^^^ y ^^^ 0=x ^^^ 29 ^^^ (y ^^^ 29)
  rw[UInt8.xor_zero,UInt8.xor_comm y 29,UInt8.xor_assoc,← UInt8.xor_assoc 29,UInt8.xor_self,UInt8.zero_xor]
theorem xt_zero:xt 0=0:=by decide
def pw:Nat→UInt8
 |0=>1
 |n+1=>xt (pw n)
def pws:Nat→UInt8→List UInt8
 |0,_=>[]
 |n+1,a=>a :: pws n (xt a)
theorem y4a:∀ (n k i:Nat),i<n→(pws n (pw k))[i]?=some (pw (k+i))
 |n+1,k,0,_=>rfl
 |n+1,k,i+1,h=>by
  show (pws n (pw (k+1)))[i]?=_
  rw[y4a n (k+1) i (by omega),show k+1+i=k+(i+1) by omega]
theorem x2j:∀ (n:Nat) (a:UInt8),(pws n a).length=n
 |0,_=>rfl
 |n+1,a=>by show (pws n (xt a)).length+1=_;rw[x2j n]
def all8:List UInt8:=(List.range 256).map UInt8.ofNat
theorem y4t (a:UInt8):a∈all8:=by
 unfold all8
 rw[List.mem_map]
 exact⟨a.toNat,by rw[List.mem_range];exact a.toNat_lt,UInt8.ofNat_toNat⟩
def q4i:List UInt8→Bool
 |[]=>true
 |a :: r=>!r.contains a&&q4i r
theorem q6q:∀ {l:List UInt8},q4i l=true→l.Nodup
 |[],_=>List.nodup_nil
 |a :: r,h=>by
  unfold q4i at h
  rw[k1u,Bool.not_eq_true']at h
  rw[List.nodup_cons]
  refine⟨fun hm=>?_,q6q h.2⟩
  rw[List.contains_iff_mem.mpr hm]at h
  exact absurd h.1 (by decide)
theorem v1k:(q4i (pws 255 1)&&all8.all fun a=>a==0||(pws 255 1).contains a)=true:=by decide +kernel
theorem v1m:pw 255=1:=by decide +kernel
theorem pw_ne (n:Nat):pw n≠0:=by
 have key:∀ a:UInt8,xt a=0→a=0:=by
  have h:(all8.all fun a=>!(xt a==0)||a==0)=true:=by decide +kernel
  intro a ha
  have:=List.all_eq_true.mp h a (y4t a)
  rw[ha]at this
  simpa using this
 induction n with
 |zero=>decide
 |succ n ih=>exact fun h=>ih (key _ h)
theorem pw_add (n:Nat):pw (n+255)=pw n:=by
 induction n with
 |zero=>exact v1m
 |succ n ih=>rw[show n+1+255=(n+255)+1 by omega];show xt (pw (n+255))=xt (pw n);rw[ih]
theorem w1b (n:Nat):pw (n % 255)=pw n:=by
 have key:∀ q r,pw (r+255*q)=pw r:=by
  intro q
  induction q with
  |zero=>intro r;rfl
  |succ q ih=>intro r;rw[show r+255*(q+1)=(r+255*q)+255 by omega,pw_add,ih]
 have:=key (n / 255) (n % 255)
 rw[Nat.mod_add_div]at this
 exact this.symm
def lg (a:UInt8):Nat:=match a==0 with|true=>0|false=>(pws 255 1).idxOf a
theorem lg_ok {a:UInt8}(h:a≠0):lg a<255∧pw (lg a)=a:=by
 have h1:=v1k
 rw[k1u]at h1
 have h2:=List.all_eq_true.mp h1.2 a (y4t a)
 have h0:(a==0)=false:=beq_eq_false_iff_ne.mpr h
 rw[h0,Bool.false_or]at h2
 have hm:a∈pws 255 1:=List.contains_iff_mem.mp h2
 have hl:lg a=(pws 255 1).idxOf a:=by unfold lg;rw[h0]
 have hlt:=List.idxOf_lt_length_of_mem hm
 have hg:=List.getElem_idxOf hlt
 rw[x2j]at hlt
 refine⟨by rw[hl];exact hlt,?_⟩
 rw[hl]
 have:=y4a 255 0 ((pws 255 1).idxOf a) hlt
 rw[Nat.zero_add]at this
 have h3:(pws 255 1)[(pws 255 1).idxOf a]?=some a:=by rw[k0w (by rw[x2j];exact hlt),hg]
 exact k0x (this.symm.trans h3)
theorem lg_pw {n:Nat}(h:n<255):lg (pw n)=n:=by
 have h1:=v1k
 rw[k1u]at h1
 have hnd:=q6q h1.1
 obtain⟨h2,h3⟩:=lg_ok (pw_ne n)
 have a1:=y4a 255 0 n h
 have a2:=y4a 255 0 (lg (pw n)) h2
 rw[Nat.zero_add]at a1 a2
 rw[h3]at a2
 have l1:=(List.getElem?_eq_some_iff.mp a1)
 have l2:=(List.getElem?_eq_some_iff.mp a2)
 obtain⟨k1,e1⟩:=l1
 obtain⟨k2,e2⟩:=l2
 exact((List.getElem_inj (h₀:=k2) (h₁:=k1) hnd).mp (e2.trans e1.symm))
theorem v1n (n:Nat):lg (pw n)=n % 255:=by rw[← w1b,lg_pw (Nat.mod_lt _ (by decide))]
def mul (a b:UInt8):UInt8:=match a==0||b==0 with|true=>0|false=>pw (lg a+lg b)
theorem q9t (i j:Nat):mul (pw i) (pw j)=pw (i+j):=by
 unfold mul
 rw[show (pw i==0)=false from beq_eq_false_iff_ne.mpr (pw_ne i),show (pw j==0)=false from beq_eq_false_iff_ne.mpr (pw_ne j),v1n,v1n]
 show pw (i % 255+j % 255)=_
 rw[← w1b (i+j),← w1b (i % 255+j % 255),Nat.add_mod i j]
theorem zero_mul (b:UInt8):mul 0 b=0:=rfl
theorem mul_zero (a:UInt8):mul a 0=0:=by unfold mul;rw[show ((0:UInt8)==0)=true from rfl,Bool.or_true]
theorem q3z (a:UInt8):a=0∨∃ n,a=pw n:=by
 by_cases h:a=0
 ·exact .inl h
 ·exact .inr ⟨lg a,(lg_ok h).2.symm⟩
theorem one_mul (b:UInt8):mul 1 b=b:=by
 rcases q3z b with rfl|⟨j,rfl⟩
 ·exact mul_zero 1
 ·have:=q9t 0 j
  rw[Nat.zero_add]at this
  exact this
theorem mul_comm (a b:UInt8):mul a b=mul b a:=by
 rcases q3z a with rfl|⟨i,rfl⟩
 ·rw[zero_mul,mul_zero]
 ·rcases q3z b with rfl|⟨j,rfl⟩
  ·rw[zero_mul,mul_zero]
  ·rw[q9t,q9t,Nat.add_comm]
theorem mul_one (b:UInt8):mul b 1=b:=by rw[mul_comm,one_mul]
theorem mul_assoc (a b c:UInt8):mul (mul a b) c=mul a (mul b c):=by
 rcases q3z a with rfl|⟨i,rfl⟩
 ·rw[zero_mul,zero_mul,zero_mul]
 ·rcases q3z b with rfl|⟨j,rfl⟩
  ·rw[mul_zero,zero_mul,mul_zero]
  ·rcases q3z c with rfl|⟨k,rfl⟩
   ·rw[mul_zero,mul_zero,mul_zero]
   ·rw[q9t,q9t,q9t,q9t,Nat.add_assoc]
def xts:Nat→UInt8→UInt8
 |0,b=>b
 |n+1,b=>xt (xts n b)
theorem v7i (n:Nat)(a b:UInt8):xts n (a ^^^ b)=xts n a ^^^ xts n b:=by
 induction n with
 |zero=>rfl
 |succ n ih=>show xt (xts n (a ^^^ b))=_;rw[ih,u0m];rfl
theorem x2k (n:Nat)(b:UInt8):mul (pw n) b=xts n b:=by
 rcases q3z b with rfl|⟨j,rfl⟩
 ·rw[mul_zero]
  induction n with
  |zero=>rfl
  |succ n ih=>show 0=xt (xts n 0);rw[← ih];exact xt_zero.symm
 ·rw[q9t]
  induction n with
  |zero=>rw[Nat.zero_add];rfl
  |succ n ih=>rw[show n+1+j=(n+j)+1 by omega];show xt (pw (n+j))=xt (xts n (pw j));rw[ih]
theorem mul_xor (a b c:UInt8):mul a (b ^^^ c)=mul a b ^^^ mul a c:=by
 rcases q3z a with rfl|⟨i,rfl⟩
 ·rw[zero_mul,zero_mul,zero_mul];rfl
 ·rw[x2k,x2k,x2k,v7i]
theorem xor_mul (a b c:UInt8):mul (a ^^^ b) c=mul a c ^^^ mul b c:=by rw[mul_comm,mul_xor,mul_comm c a,mul_comm c b]
def inv (a:UInt8):UInt8:=pw (255 - lg a)
theorem mul_inv {a:UInt8}(h:a≠0):mul a (inv a)=1:=by
 obtain⟨h1,h2⟩:=lg_ok h
 have:mul (pw (lg a)) (inv a)=1:=by
  unfold inv
  rw[q9t,show lg a+(255 - lg a)=255 by omega];exact v1m
 rwa [h2]at this
theorem mul_eq_zero {a b:UInt8}(h:mul a b=0):a=0∨b=0:=by
 rcases q3z a with rfl|⟨i,rfl⟩
 ·exact .inl rfl
 ·rcases q3z b with rfl|⟨j,rfl⟩
  ·exact .inr rfl
  ·rw[q9t]at h;exact absurd h (pw_ne _)
theorem next_pw (a:UInt8):(if a.toNat*2 > 255 then (BitVec.ofNat 64 (a.toNat*2) ^^^ 285#64).toNat else a.toNat*2)=(xt a).toNat:=by
 have h:(all8.all fun a=>(if a.toNat*2 > 255 then (BitVec.ofNat 64 (a.toNat*2) ^^^ 285#64).toNat else a.toNat*2)==(xt a).toNat)=true:=by decide +kernel
 have:=List.all_eq_true.mp h a (y4t a)
 exact eq_of_beq this
end Go.Proofs.YtkjklhcfgbaceaaGreat.AL.Gf
namespace Go.Proofs.YtkjklhcfgbaceaaGreat.AL
open Go
structure Fr where
 n:Nat
 l:List (Nat × AV)
structure St where
 fr:Fr
 H:List ABlk
def W4:List (Nat × AV)→Nat→Option AV
 |[],_=>none
 |(k,u) :: r,t=>match Nat.beq k t with
  |true=>some u
  |false=>W4 r t
theorem U3 (k:Nat)(u:AV)(r:List (Nat × AV)):W4 ((k,u) :: r) k=some u:=by simp[W4]
theorem V4 {k t:Nat}(u:AV)(r:List (Nat × AV))(h:k≠t):W4 ((k,u) :: r) t=W4 r t:=by
 have:Nat.beq k t=false:=by
  cases e:Nat.beq k t with
  |false=>rfl
  |true=>exact absurd (Nat.eq_of_beq_eq_true e) h
 simp[W4,this]
def FrOk (w:World)(I:Nat→Prop)(ι:Nat→Option Nat)(fr:Fr)(tmps:Array Value):Prop:=
 tmps.size=fr.n∧∀ t u,W4 fr.l t=some u→ARep w I ι u (tmps.getD t undef)
structure Sim (N:Nat) (w:World) (I:Nat→Prop) (ι:Nat→Option Nat) (s:St) (a:Act):Prop where
 fr:FrOk w I ι s.fr a.tmps
 H:SimH w I ι s.H
 hN:N≤w.heap.size
 d:∀ d∈a.defers,Mark N w I ι s.H d
 nd:a.defers.Pairwise (fun x y=>x.target≠y.target)
def fen:Option Nat→Fence
 |none=>Fence.wide
 |some l=>Fence.wide.inRound l
theorem x2m (ro:Option Nat)(f:FuncId):(fen ro).fn f:=by cases ro <;> exact trivial
theorem y0r (ro:Option Nat):(fen ro).depth=none:=by cases ro <;> rfl
structure Ex (m:Nat) (w0:World) (I0:Nat→Prop) (ι0:Nat→Option Nat) (H0:List ABlk) (w:World) (I:Nat→Prop) (ι:Nat→Option Nat) (H:List ABlk):Prop where
 ext:Ext w0 I0 ι0 H0 w I ι H
 keep:∀ b,b<m→ι b=ι0 b
 len:m≤H.length
theorem Ex.refl {m:Nat}{w:World}{I:Nat→Prop}{ι:Nat→Option Nat}{H:List ABlk}(h:m≤H.length):Ex m w I ι H w I ι H:=⟨Ext.refl _ _ _ _,fun _ _=>rfl,h⟩
theorem Ex.trans {m:Nat}{w0 w1 w2:World}{I0 I1 I2:Nat→Prop}{ι0 ι1 ι2:Nat→Option Nat}{H0 H1 H2:List ABlk}
 (h:Ex m w0 I0 ι0 H0 w1 I1 ι1 H1) (k:Ex m w1 I1 ι1 H1 w2 I2 ι2 H2):Ex m w0 I0 ι0 H0 w2 I2 ι2 H2:=
 ⟨h.ext.trans k.ext,fun b hb=>(k.keep b hb).trans (h.keep b hb),k.len⟩
theorem Ex.less {m k:Nat}{w0 w:World}{I0 I:Nat→Prop}{ι0 ι:Nat→Option Nat}{H0 H:List ABlk}(h:Ex m w0 I0 ι0 H0 w I ι H)(hk:k≤m):Ex k w0 I0 ι0 H0 w I ι H:=
 ⟨h.ext,fun b hb=>h.keep b (by omega),Nat.le_trans hk h.len⟩
def AF (P:Program)(f:FuncId)(args:List AV)(H:List ABlk)(R:AV→List ABlk→Prop):Prop:=
 (∃ fn,P.funcs[f]?=some fn∧fn.body.isNone=false∧(fn.name == "runtime.NumGoroutine")=false) ∧
 ∀ (w:World) (I:Nat→Prop) (ι:Nat→Option Nat) (vals:Array Value),vals.size=args.length→(∀ i u,args[i]?=some u→ARep w I ι u (vals.getD i undef))→SimH w I ι H →
  Calls P f vals w (fun e w'=>∃ v r H' I' ι',e=.returned v∧R r H'∧ARep w' I' ι' r v∧SimH w' I' ι' H'∧Ex H.length w I ι H w' I' ι' H')
theorem AF.mono {P:Program}{f:FuncId}{args:List AV}{H:List ABlk}{R R':AV→List ABlk→Prop}(h:AF P f args H R)(hR:∀ r H',R r H'→R' r H'):AF P f args H R':=
 ⟨h.1,fun w I ι vals hn ha hs=>(h.2 w I ι vals hn ha hs).mono fun _ _ ⟨v,r,H',I',ι',e,hr,k⟩=>⟨v,r,H',I',ι',e,hR _ _ hr,k⟩⟩
def AY (P:Program)(b:Nat)(args:List AV)(H:List ABlk)(R:AV→List ABlk→Prop):Prop:=
 ∀ (w:World) (I:Nat→Prop) (ι:Nat→Option Nat) (vals:Array Value) (B:Nat),vals.size=args.length→(∀ i u,args[i]?=some u→ARep w I ι u (vals.getD i undef))→SimH w I ι H→ι b=some B →
  ∃ fn tmps assign body,(Instr.yield B vals).run P w=.ok (.round B fn tmps assign body) w ∧
   RoundIn Fence.wide 0 P B fn tmps assign body w (fun e w'=>∃ v r H' I' ι',e=.returned v∧R r H'∧ARep w' I' ι' r v∧SimH w' I' ι' H'∧Ex H.length w I ι H w' I' ι' H')
theorem AY.mono {P:Program}{b:Nat}{args:List AV}{H:List ABlk}{R R':AV→List ABlk→Prop}(h:AY P b args H R)(hR:∀ r H',R r H'→R' r H'):AY P b args H R':=
 fun w I ι vals B hn ha hs hb=>let ⟨fn,tmps,assign,body,h1,h2⟩:=h w I ι vals B hn ha hs hb
  ⟨fn,tmps,assign,body,h1,h2.mono fun _ _ ⟨v,r,H',I',ι',e,hr,k⟩=>⟨v,r,H',I',ι',e,hR _ _ hr,k⟩⟩
def After (N m:Nat)(w:World)(I:Nat→Prop)(ι:Nat→Option Nat)(H:List ABlk)(Q:Exit→St→Prop):Exit→Act→World→Prop:=
 fun e a' w'=>∃ s' I' ι',Q e s'∧Sim N w' I' ι' s' a'∧Ex m w I ι H w' I' ι' s'.H
def AW (P:Program)(ro:Option Nat)(m:Nat)(c:Code)(s:St)(Q:Exit→St→Prop):Prop:=
 ∀ (N:Nat) (w:World) (I:Nat→Prop) (ι:Nat→Option Nat) (a:Act),Sim N w I ι s a→m≤s.H.length→c.wpIn (fen ro) 0 P (After N m w I ι s.H Q) a w
section
variable {P:Program} {ro:Option Nat} {m:Nat} {s:St} {Q:Exit→St→Prop}
theorem AW.mono {c:Code}{Q':Exit→St→Prop}(h:AW P ro m c s Q)(hq:∀ e s,Q e s→Q' e s):AW P ro m c s Q':=
 fun N w I ι a hs hm=>wpIn_mono (h N w I ι a hs hm) fun _ _ _ ⟨s',I',ι',q,r⟩=>⟨s',I',ι',hq _ _ q,r⟩
def z8j (N:St→Prop)(Q:Exit→St→Prop):Exit→St→Prop
 |.normal,s=>N s
 |e,s=>Q e s
theorem After.step {N:Nat}{w:World}{I:Nat→Prop}{ι:Nat→Option Nat}{H:List ABlk}{w1:World}{I1:Nat→Prop}{ι1:Nat→Option Nat}{H1:List ABlk}(hx:Ex m w I ι H w1 I1 ι1 H1){Q:Exit→St→Prop}
 {e:Exit} {a':Act} {w':World} (h:After N m w1 I1 ι1 H1 Q e a' w'):After N m w I ι H Q e a' w':=by
 obtain⟨s',I',ι',q,hs,k⟩:=h
 exact⟨s',I',ι',q,hs,hx.trans k⟩
theorem u6 {x y:Code}(h:AW P ro m x s (z8j (fun s'=>AW P ro m y s' Q) Q)):AW P ro m (.seq x y) s Q:=fun N w I ι a hs hm=>by
 refine wpIn_seq (wpIn_mono (h N w I ι a hs hm) ?_)
 rintro e a1 w1 ⟨s1,I1,ι1,q,hs1,hx⟩
 cases e with
 |normal=>exact wpIn_mono (q N w1 I1 ι1 a1 hs1 hx.len) fun _ _ _ hh=>hh.step hx
 |_=>exact⟨s1,I1,ι1,q,hs1,hx⟩
theorem x7 (h:Q .normal s):AW P ro m .skip s Q:=fun _ _ I ι _ hs hm=>wpIn_skip ⟨s,I,ι,h,hs,Ex.refl hm⟩
theorem Q7 {id:Nat}(h:Q (.exit id) s):AW P ro m (.exit id) s Q:=fun _ _ I ι _ hs hm=>wpIn_exit ⟨s,I,ι,h,hs,Ex.refl hm⟩
theorem u5 (h:Q .ret s):AW P ro m .ret s Q:=fun _ _ I ι _ hs hm=>wpIn_ret ⟨s,I,ι,h,hs,Ex.refl hm⟩
def x5k (id:Nat)(Q:Exit→St→Prop):Exit→St→Prop
 |.exit id',s=>if id'=id then Q .normal s else Q (.exit id') s
 |e,s=>Q e s
theorem x3 {id:Nat}{c:Code}(h:AW P ro m c s (x5k id Q)):AW P ro m (.block id c) s Q:=fun N w I ι a hs hm=>by
 refine wpIn_block (wpIn_mono (h N w I ι a hs hm) ?_)
 rintro e a1 w1 ⟨s1,I1,ι1,q,hs1,hx⟩
 cases e with
 |exit id'=>
  simp only[x5k]at q
  simp only[Exit.inBlock]
  split at q
  ·rename_i he;rw[if_pos he];exact⟨s1,I1,ι1,q,hs1,hx⟩
  ·rename_i he;rw[if_neg he];exact⟨s1,I1,ι1,q,hs1,hx⟩
 |_=>exact⟨s1,I1,ι1,q,hs1,hx⟩
def evX (fr:Fr):Operand→Option AV
 |.tmp t=>W4 fr.l t
 |.const v=>match v.oneCell' with|true=>some (.p (.raw v))|false=>some .top
 |.func f=>some (.clo (.func f) [])
 |.global _=>none
def z2m (fr:Fr)(x:Operand):AV:=(evX fr x).getD .top
theorem x5m {w:World}{I:Nat→Prop}{ι:Nat→Option Nat}(v:Value):ARep w I ι ((match v.oneCell' with|true=>some (AV.p (.raw v))|false=>some AV.top).getD AV.top) v:=by
 split
 ·rename_i h1;exact .p (.raw v h1)
 ·exact .top v
theorem y4u {w:World}{I:Nat→Prop}{ι:Nat→Option Nat}{fr:Fr}{a:Act}(h:FrOk w I ι fr a.tmps)(x:Operand):ARep w I ι (z2m fr x) (a.eval x):=by
 cases x with
 |tmp t=>
  show ARep w I ι ((W4 fr.l t).getD .top) (a.tmps.getD t undef)
  cases hf:W4 fr.l t with
  |none=>exact .top _
  |some u=>exact h.2 t u hf
 |const v=>exact x5m v
 |global g=>exact .top _
 |func f=>exact .clo (.func f) [] #[] rfl (fun i u h=>by simp at h)
def v1p (b:Bool)(t f:Prop):Prop:=match b with|true=>t|false=>f
theorem u9 {b:Bool}{t f:Prop}(ht:b=true→t)(hf:b=false→f):v1p b t f:=by
 cases b
 ·exact hf rfl
 ·exact ht rfl
def v9t (x:Option AV)(K:Bool→Prop):Prop:=
 match x with
 |some (.p (.raw (.bool b)))=>v1p b (K true) (K false)
 |_=>False
theorem y8 {c:Operand}{x y:Code}(h:v9t (evX s.fr c) (fun b=>match b with|true=>AW P ro m x s Q|false=>AW P ro m y s Q)):AW P ro m (.cond c x y) s Q:=fun N w I ι a hs hm=>by
 have he:=y4u hs.fr c
 unfold z2m at he
 generalize hx:evX s.fr c=z at he h
 unfold v9t at h
 split at h
 ·rename_i b
  replace he:ARep w I ι (.p (.raw (.bool b))) (a.eval c):=he
  cases he with
  |p hp=>
   generalize hv:a.eval c=v at hp
   cases hp
   refine wpIn_cond hv ?_
   cases b
   ·exact h N w I ι a hs hm
   ·exact h N w I ι a hs hm
 ·exact h.elim
theorem q4z {p:Nat→Prop}(h:∃ n,p n):∃ n,p n∧∀ k,p k→n≤k:=by
 obtain⟨n,hn⟩:=h
 induction n using Nat.strongRecOn with
 |_ n ih=>
  by_cases hk:∃ k,k<n∧p k
  ·obtain⟨k,hk1,hk2⟩:=hk
   exact ih k hk1 hk2
  ·exact⟨n,hn,fun k hpk=>Nat.le_of_not_lt fun hlt=>hk ⟨k,hlt,hpk⟩⟩
theorem v7j {c:Code}(Inv:Nat→St→Prop)(n:Nat)(h0:Inv n s)
 (round:∀ n s,Inv n s→AW P ro m c s (z8j (fun s'=>∃ k,k<n∧Inv k s') Q)):AW P ro m (.loop c) s Q:=fun N w I ι a hs hm=>by
 classical
 let J:Nat→Act→World→Prop:=fun n a1 w1=>∃ s1 I1 ι1,Inv n s1∧Sim N w1 I1 ι1 s1 a1∧Ex m w I ι s.H w1 I1 ι1 s1.H
 refine wpIn_loop (fun a1 w1=>∃ n,J n a1 w1) (fun a1 w1=>if h:∃ n,J n a1 w1 then (q4z h).choose else 0) ⟨n,s,I,ι,h0,hs,Ex.refl hm⟩ ?_
 intro a1 w1 hJ
 obtain⟨s1,I1,ι1,hI,hs1,hx⟩:=(q4z hJ).choose_spec.1
 refine wpIn_mono (round _ s1 hI N w1 I1 ι1 a1 hs1 hx.len) ?_
 rintro e a2 w2 ⟨s2,I2,ι2,q,hs2,hx2⟩
 cases e with
 |normal=>
  obtain⟨k,hk,hI2⟩:=q
  have hJ2:J k a2 w2:=⟨s2,I2,ι2,hI2,hs2,hx.trans hx2⟩
  refine⟨⟨k,hJ2⟩,?_⟩
  show (if h:∃ n,J n a2 w2 then (q4z h).choose else 0)<(if h:∃ n,J n a1 w1 then (q4z h).choose else 0)
  rw[dif_pos ⟨k,hJ2⟩,dif_pos hJ]
  exact Nat.lt_of_le_of_lt ((q4z (p:=fun n=>J n a2 w2) ⟨k,hJ2⟩).choose_spec.2 k hJ2) hk
 |_=>exact⟨s2,I2,ι2,q,hs2,hx.trans hx2⟩
end
end Go.Proofs.YtkjklhcfgbaceaaGreat.AL
namespace Go.Proofs.YtkjklhcfgbaceaaGreat.AL
open Go Go.RowKit
def upd (ι:Nat→Option Nat)(b:Nat)(B:Nat):Nat→Option Nat:=fun x=>if x=b then some B else ι x
theorem J6 {H:List ABlk}{b:Nat}(h:live H b):b<H.length:=by
 obtain⟨k,hk,_⟩:=h
 exact(k0t.1 hk).1
theorem q2d {H:List ABlk}{b:Nat}{k:ABlk}(h:live (H++[k]) b):live H b∨b=H.length:=by
 obtain⟨k',hk,hl⟩:=h
 rcases Nat.lt_or_ge b H.length with hb|hb
 ·rw[k0s hb]at hk
  exact .inl ⟨k',hk,hl⟩
 ·have:=(k0t.1 hk).1
  simp only[List.length_append,List.length_cons,List.length_nil]at this
  exact .inr (by omega)
theorem J9 {α:Type}(l:List α)(x:α):(l++[x])[l.length]?=some x:=by simp
structure Grew (w w':World) (o:Obj):Prop where
 os:w'.os=w.os
 tape:w'.tape=w.tape
 output:w'.output=w.output
 size:w'.heap.size=w.heap.size+1
 old:∀ k,k<w.heap.size→w'.heap[k]?=w.heap[k]?
 new:w'.heap[w.heap.size]?=some o
theorem q4j (w:World)(o:Obj):Grew w (w.alloc o) o:=
 ⟨rfl,rfl,rfl,by show (w.heap.push o).size=_;simp,fun k hk=>Below.heap_alloc w o k hk,heap_alloc_new w o⟩
theorem q7c (w:World)(o:Obj):Grew w (w.drew.alloc o) o:=
 ⟨rfl,rfl,rfl,by show (w.heap.push o).size=_;simp,fun k hk=>Below.heap_alloc w.drew o k hk,heap_alloc_new w.drew o⟩
theorem Grew.shape {w w':World}{o:Obj}(g:Grew w w' o):Shape w w':=fun B cs t fr h=>by
 have hlt:B<w.heap.size:=(Array.getElem?_eq_some_iff.1 h).1
 exact⟨cs,by rw[g.old B hlt];exact h,rfl⟩
theorem Grew.sim {w w':World}{I:Nat→Prop}{ι:Nat→Option Nat}{H:List ABlk}{o:Obj}(g:Grew w w' o)(hs:SimH w I ι H)(k:ABlk)
 (hk:z8i w' I (upd ι H.length w.heap.size) H.length k) :
 SimH w' I (upd ι H.length w.heap.size) (H++[k])∧Ex H.length w I ι H w' I (upd ι H.length w.heap.size) (H++[k]):=by
 have hI:∀ B,I B→w'.heap[B]?=w.heap[B]?:=fun B hB=>g.old B (hs.Ilt B hB)
 have hι:∀ b B,ι b=some B→upd ι H.length w.heap.size b=some B:=fun b B hb=>by
  have hlt:b<H.length:=by
   rcases Nat.lt_or_ge b H.length with h|h
   ·exact h
   ·rw[hs.dom b h]at hb;exact absurd hb (by simp)
  unfold upd;rw[if_neg (by omega)];exact hb
 have hnew:upd ι H.length w.heap.size H.length=some w.heap.size:=by simp[upd]
 have hold:∀ b,b<H.length→upd ι H.length w.heap.size b=ι b:=fun b hb=>by unfold upd;rw[if_neg (by omega)]
 constructor
 ·refine⟨?_,?_,?_,?_,?_⟩
  ·intro b kb hb
   rcases Nat.lt_or_ge b H.length with hlt|hge
   ·rw[k0s hlt]at hb
    have h0:=hs.blk b kb hb
    cases kb with
    |dead=>trivial
    |cells t l=>
     obtain⟨B,cs,h1,h2,h3,h4,h5⟩:=h0
     exact⟨B,cs,hι b B h1,by rw[g.old B (hs.rng b B h1)];exact h2,h3,h4,fun i u hu=>(h5 i u hu).move hI (fun _ h=>h) hι g.shape⟩
    |lp q st pe l=>
     obtain⟨B,cs,h1,h2,h3,h4,h5⟩:=h0
     exact⟨B,cs,hι b B h1,by rw[g.old B (hs.rng b B h1)];exact h2,h3,h4,fun i u hu=>(h5 i u hu).move hI (fun _ h=>h) hι g.shape⟩
    |row t sz xs=>
     rcases h0 with ⟨h1,h2⟩|⟨B,cs,h1,h2,h3,h4,h5,h6⟩
     ·exact .inl ⟨h1,by rw[hold b hlt];exact h2⟩
     ·exact .inr ⟨B,cs,hι b B h1,by rw[g.old B (hs.rng b B h1)];exact h2,h3,h4,h5,fun j e hj=>⟨(h6 j e hj).1,fun i u hu=>((h6 j e hj).2 i u hu).move hI (fun _ h=>h)⟩⟩
    |obj o=>
     obtain⟨h0',B,h1,h2,h3⟩:=h0
     exact⟨h0',B,hι b B h1,by rw[g.old B (hs.rng b B h1)];exact h2,h3⟩
   ·have:b=H.length:=by
     have:=(k0t.1 hb).1
     simp only[List.length_append,List.length_cons,List.length_nil]at this
     omega
    subst this
    rw[J9]at hb
    obtain rfl:=k0x hb
    exact hk
  ·intro b b' B hb hb' h1 h2
   rcases q2d hb with hb|rfl <;> rcases q2d hb' with hb'|rfl
   ·rw[hold b (J6 hb)]at h1;rw[hold b' (J6 hb')]at h2;exact hs.inj b b' B hb hb' h1 h2
   ·rw[hold b (J6 hb)]at h1;rw[hnew]at h2
    have:=hs.rng b B h1
    obtain rfl:=k0x h2;omega
   ·rw[hold b' (J6 hb')]at h2;rw[hnew]at h1
    have:=hs.rng b' B h2
    obtain rfl:=k0x h1;omega
   ·rfl
  ·intro B hB;have:=hs.Ilt B hB;have:=g.size;omega
  ·intro b hb
   simp only[List.length_append,List.length_cons,List.length_nil]at hb
   unfold upd;rw[if_neg (by omega)];exact hs.dom b (by omega)
  ·intro b B hb
   have hsz:=g.size
   unfold upd at hb
   split at hb
   ·obtain rfl:=k0x hb;omega
   ·have:=hs.rng b B hb;omega
 ·refine⟨⟨g.os,g.tape,g.output,by have:=g.size;omega,g.shape,fun _ h=>h,fun B hB _=>g.old B hB,fun B hB=>.inl hB,?_⟩,fun b hb=>hold b hb,by simp⟩
  intro b B hb h1
  rcases q2d hb with hb|rfl
  ·rw[hold b (J6 hb)]at h1;exact .inr ⟨b,hb,h1⟩
  ·rw[hnew]at h1;obtain rfl:=k0x h1;exact .inl (k1v _)
structure Wrote (w w':World) (B:Nat):Prop where
 os:w'.os=w.os
 tape:w'.tape=w.tape
 output:w'.output=w.output
 size:w'.heap.size=w.heap.size
 old:∀ k,k≠B→w'.heap[k]?=w.heap[k]?
theorem q2k {H:List ABlk}{b c:Nat}{k:ABlk}(h:live (H.set c k) b)(hc:live H c):live H b:=by
 by_cases e:b=c
 ·subst e;exact hc
 ·obtain⟨k',hk,hl⟩:=h
  rw[k3z (by omega)]at hk
  exact⟨k',hk,hl⟩
theorem Wrote.simS {w w':World}{I:Nat→Prop}{ι:Nat→Option Nat}{H:List ABlk}{b B:Nat}(g:Wrote w w' B)(hs:SimH w I ι H)(hb:live H b)(hι:ι b=some B)
 (hsh:Shape w w') (k:ABlk) (hk:z8i w' I ι b k) :
 SimH w' I ι (H.set b k)∧Ex H.length w I ι H w' I ι (H.set b k):=by
 have hnI:¬ I B:=hs.notI hb hι
 have hI:∀ C,I C→w'.heap[C]?=w.heap[C]?:=fun C hC=>g.old C (fun e=>hnI (e ▸ hC))
 constructor
 ·refine⟨?_,?_,?_,?_,?_⟩
  ·intro c kc hc
   by_cases e:c=b
   ·subst e
    rw[k2y (J6 hb)]at hc
    obtain rfl:=k0x hc
    exact hk
   ·rw[k3z (by omega)]at hc
    have h2:=hs.blk c kc hc
    cases kc with
    |dead=>trivial
    |cells t l=>
     obtain⟨C,ds,g1,g2,g3,g4,g5⟩:=h2
     have hne:C≠B:=fun e'=>e (hs.inj c b B ⟨_,hc,rfl⟩ hb (e' ▸ g1) hι)
     exact⟨C,ds,g1,by rw[g.old C hne];exact g2,g3,g4,fun i u hu=>(g5 i u hu).move hI (fun _ h=>h) (fun _ _ h=>h) hsh⟩
    |lp q st pe l=>
     obtain⟨C,ds,g1,g2,g3,g4,g5⟩:=h2
     have hne:C≠B:=fun e'=>e (hs.inj c b B ⟨_,hc,rfl⟩ hb (e' ▸ g1) hι)
     exact⟨C,ds,g1,by rw[g.old C hne];exact g2,g3,g4,fun i u hu=>(g5 i u hu).move hI (fun _ h=>h) (fun _ _ h=>h) hsh⟩
    |row t sz xs=>
     rcases h2 with g0|⟨C,ds,g1,g2,g3,g4,g5,g6⟩
     ·exact .inl g0
     ·have hne:C≠B:=fun e'=>e (hs.inj c b B ⟨_,hc,rfl⟩ hb (e' ▸ g1) hι)
      exact .inr ⟨C,ds,g1,by rw[g.old C hne];exact g2,g3,g4,g5,fun j e hj=>⟨(g6 j e hj).1,fun i u hu=>((g6 j e hj).2 i u hu).move hI (fun _ h=>h)⟩⟩
    |obj o=>
     obtain⟨g0,C,g1,g2,g3⟩:=h2
     have hne:C≠B:=fun e'=>e (hs.inj c b B ⟨_,hc,rfl⟩ hb (e' ▸ g1) hι)
     exact⟨g0,C,g1,by rw[g.old C hne];exact g2,g3⟩
  ·intro c c' C hc hc' h2 h3
   exact hs.inj c c' C (q2k hc hb) (q2k hc' hb) h2 h3
  ·intro C hC;rw[g.size];exact hs.Ilt C hC
  ·intro c hc;exact hs.dom c (by simpa using hc)
  ·intro c C hc;rw[g.size];exact hs.rng c C hc
 ·refine⟨⟨g.os,g.tape,g.output,by rw[g.size];exact k1v _,hsh,fun _ h=>h,fun C hC hn=>g.old C (fun e=>hn ⟨b,hb,e ▸ hι⟩),fun C hC=>.inl hC,?_⟩,fun _ _=>rfl,by simp⟩
  intro c C hc h2
  exact .inr ⟨c,q2k hc hb,h2⟩
theorem Wrote.sim {w w':World}{I:Nat→Prop}{ι:Nat→Option Nat}{H:List ABlk}{b B:Nat}{t:TypeId}{cs cs':Array Value}(g:Wrote w w' B)(hs:SimH w I ι H)(hb:live H b)(hι:ι b=some B)
 (h0:w.heap[B]?=some (.cells cs t (0,0))) (h1:w'.heap[B]?=some (.cells cs' t (0,0))) (hsz:cs'.size=cs.size) (k:ABlk) (hk:z8i w' I ι b k) :
 SimH w' I ι (H.set b k)∧Ex H.length w I ι H w' I ι (H.set b k):=
 g.simS hs hb hι (fun C cs0 t0 fr h=>by
  by_cases e:C=B
  ·subst e
   rw[h0]at h
   injection h with h;injection h with h1' h2' h3'
   subst h1' h2' h3'
   exact⟨cs',h1,hsz⟩
  ·exact⟨cs0,by rw[g.old C e];exact h,rfl⟩) k hk
theorem Wrote.simO {w w':World}{I:Nat→Prop}{ι:Nat→Option Nat}{H:List ABlk}{b B:Nat}{o:Obj}(g:Wrote w w' B)(hs:SimH w I ι H)(hb:live H b)(hι:ι b=some B)
 (h0:w.heap[B]?=some o) (hno:o.noCells) (k:ABlk) (hk:z8i w' I ι b k) :
 SimH w' I ι (H.set b k)∧Ex H.length w I ι H w' I ι (H.set b k):=
 g.simS hs hb hι (fun C cs0 t0 fr h=>by
  by_cases e:C=B
  ·subst e
   rw[h0]at h
   exact absurd (k0x h) (hno cs0 t0 fr)
  ·exact⟨cs0,by rw[g.old C e];exact h,rfl⟩) k hk
theorem J7 (w:World)(B:Nat):∀ (vs:List Value) (o:Nat),Wrote w (w.setCells B o vs) B
 |[],_=>⟨rfl,rfl,rfl,rfl,fun _ _=>rfl⟩
 |v :: r,o=>by
  have h:=J7 (w.setCell ⟨B,o,none⟩ v) B r (o+1)
  refine⟨h.os,h.tape,h.output,h.size.trans (by simp[World.setCell]),fun k hk=>(h.old k hk).trans ?_⟩
  exact Below.heap_setCell w ⟨B,o,none⟩ v k hk
def U0 {α:Type}(l:List α)(o:Nat)(vs:List α):List α:=l.take o++vs++l.drop (o+vs.length)
theorem V8 {α:Type}{l:List α}{o:Nat}{vs:List α}(h:o+vs.length≤l.length):(U0 l o vs).length=l.length:=by
 simp only[U0,List.length_append,List.length_take,List.length_drop];omega
theorem q5a {α:Type}{l:List α}{o:Nat}{vs:List α}(h:o+vs.length≤l.length)(i:Nat) :
 (U0 l o vs)[i]?=if o≤i∧i<o+vs.length then vs[i - o]? else l[i]?:=by
 unfold U0
 by_cases h1:i<o
 ·rw[if_neg (by omega),List.append_assoc,k0s (by rw[k2u];omega),List.getElem?_take_of_lt h1]
 ·by_cases h2:i<o+vs.length
  ·rw[if_pos ⟨by omega,h2⟩,List.append_assoc,k1q (by rw[k2u];omega),k0s (by rw[k2u];omega),k2u]
   congr 1;omega
  ·rw[if_neg (by omega),k1q (by rw[k1y,k2u];omega),List.getElem?_drop,k1y,k2u]
   congr 1;omega
theorem q4a (w:World)(B:Nat)(t:TypeId):∀ (vs:List Value) (o:Nat) (cs:Array Value),w.heap[B]?=some (.cells cs t (0,0))→o+vs.length≤cs.size →
 (w.setCells B o vs).heap[B]?=some (.cells (U0 cs.toList o vs).toArray t (0,0)):=by
 intro vs
 induction vs generalizing w with
 |nil=>intro o cs h _;rw[World.setCells,h];simp[U0]
 |cons v r ih=>
  intro o cs h hl
  simp only[List.length_cons]at hl
  have h1:=heap_setCell_same w B o cs t v h
  have:=ih (w.setCell ⟨B,o,none⟩ v) (o+1) (cs.setIfInBounds o v) h1 (by simp;omega)
  rw[World.setCells,this]
  congr 2
  apply congrArg
  apply List.ext_getElem?
  intro i
  have e1:(U0 (cs.setIfInBounds o v).toList (o+1) r)[i]?=_:=q5a (by simp;omega) i
  have e2:(U0 cs.toList o (v :: r))[i]?=_:=q5a (by simp;omega) i
  rw[e1,e2]
  simp only[List.length_cons,Array.toList_setIfInBounds]
  by_cases c1:i=o
  ·subst c1
   rw[if_neg (by omega),if_pos (by omega),k2y (by simp;omega)]
   simp
  ·by_cases c2:o+1≤i∧i<o+1+r.length
   ·rw[if_pos c2,if_pos (by omega)]
    obtain⟨j,rfl⟩:∃ j,i=o+1+j:=⟨i - (o+1),by omega⟩
    rw[show o+1+j - o=j+1 by omega,show o+1+j - (o+1)=j by omega,List.getElem?_cons_succ]
   ·rw[if_neg c2,if_neg (by omega),k3z (by omega)]
end Go.Proofs.YtkjklhcfgbaceaaGreat.AL
namespace Go.Proofs.YtkjklhcfgbaceaaGreat.AL
open Go
inductive TD where
 |int (k:IntKind)|bool|string|slice (e:TypeId)|struct (fs:List (Nat × TypeId))|array (n:Nat) (e:TypeId)|ptr (e:TypeId)|func|map (k e:TypeId)|other
structure TI where
 d:TD
 size:Nat
 bytes:Nat
 zero:List Value
def q4b:TypeDesc→TD
 |.int k=>.int k
 |.bool=>.bool
 |.string=>.string
 |.slice e=>.slice e
 |.struct fs=>.struct (fs.toList.map fun f=>(f.offset,f.type))
 |.array n e=>.array n e
 |.pointer e=>.ptr e
 |.func _ _ _=>.func
 |.map k e=>.map k e
 |_=>.other
def z3d (P:Program)(t:TypeId):Option TI:=
 match P.info? t,P.underlying t with
 |some i,some d=>match i.zero with
  |some z=>match z.cells.toList.all (·.oneCell') with|true=>some ⟨q4b d,i.size,i.bytes,z.cells.toList⟩|false=>none
  |none=>none
 |_,_=>none
abbrev J1:=TypeId→Option TI
def TOk (P:Program)(T:J1):Prop:=∀ t i,T t=some i→z3d P t=some i
def chk (b:Bool)(K:Prop):Prop:=match b with|true=>K|false=>False
theorem y4v {b:Bool}{K:Prop}(h:b=true)(k:K):chk b K:=by subst h;exact k
theorem J4 {b:Bool}{K:Prop}(h:chk b K):b=true∧K:=by cases b;exact h.elim;exact⟨rfl,h⟩
def W7 {α:Type}(o:Option α)(K:α→Prop):Prop:=match o with|some x=>K x|none=>False
theorem Z2 {α:Type}{o:Option α}{K:α→Prop}{x:α}(h:o=some x)(k:K x):W7 o K:=by subst h;exact k
theorem V0 {α:Type}{o:Option α}{K:α→Prop}(h:W7 o K):∃ x,o=some x∧K x:=by cases o with|none=>exact h.elim|some x=>exact⟨x,rfl,h⟩
def AV.one:AV→Bool
 |.p (.raw v)=>v.oneCell'
 |.p _|.ref _ _|.msl _ _ _ _|.elr _ _ _ _|.clo _ _|.mth _ _|.yld _|.mp _=>true
 |_=>false
def AV.cells?:AV→Option (List AV)
 |.agg l=>match l.all AV.one with|true=>some l|false=>none
 |.p (.raw v)=>match v.oneCell' with|true=>some [.p (.raw v)]|false=>none
 |.p x=>some [.p x]
 |.ref b o=>some [.ref b o]
 |.msl b s o l=>some [.msl b s o l]
 |.elr b s i o=>some [.elr b s i o]
 |.clo f c=>some [.clo f c]
 |.mth f c=>some [.mth f c]
 |.yld b=>some [.yld b]
 |.mp b=>some [.mp b]
 |_=>none
def v1q:AV→Option PV|.p x=>some x|_=>none
def pvs:List AV→Option (List PV)
 |[]=>some []
 |u :: r=>match v1q u,pvs r with|some x,some l=>some (x :: l)|_,_=>none
def x2n:AV→Option Value|.p (.raw v)=>some v|_=>none
def w7a:List AV→Option (List Value)
 |[]=>some []
 |u :: r=>match x2n u,w7a r with|some x,some l=>some (x :: l)|_,_=>none
def q7t (d:TD)(us:List AV):AV:=
 match d with
 |.struct _=>.agg us
 |.array _ _=>.agg us
 |_=>us.headD .top
def q0x:TD→Bool|.struct _=>true|.array _ _=>true|_=>false
def y2q (H:List ABlk)(a:AV)(size:Nat)(K:List AV→Prop):Prop:=
 match a with
 |.p (.box cs)=>chk (decide (size≤cs.length)) (K ((cs.take size).map .p))
 |.ref b off=>match H.getD b .dead with
  |.cells _ l=>chk (decide (off+size≤l.length)) (K ((l.drop off).take size))
  |_=>False
 |.elr b sz i off=>match H.getD b .dead with
  |.row _ sz' xs=>chk (sz'==sz) (W7 xs[i]? fun e=>chk (decide (off+size≤e.length)) (K (((e.drop off).take size).map .p)))
  |.cells _ l=>chk (decide (i*sz+off+size≤l.length)) (K ((l.drop (i*sz+off)).take size))
  |_=>False
 |_=>False
def y0s (H:List ABlk)(a:AV)(vs:List AV)(K:List ABlk→Prop):Prop:=
 match a with
 |.ref b off=>match H.getD b .dead with
  |.cells t l=>chk (decide (off+vs.length≤l.length)) (K (H.set b (.cells t (U0 l off vs))))
  |_=>False
 |.elr b sz i off=>match H.getD b .dead with
  |.row t sz' xs=>chk (sz'==sz) (W7 xs[i]? fun e=>chk (decide (off+vs.length≤e.length)) (W7 (pvs vs) fun ps=>K (H.set b (.row t sz' (xs.set i (U0 e off ps))))))
  |.cells t l=>chk (decide (i*sz+off+vs.length≤l.length)) (K (H.set b (.cells t (U0 l (i*sz+off) vs))))
  |_=>False
 |_=>False
def y0t (op:BinOp)(k:IntKind)(a b:Int)(K:Value→Prop):Prop:=
 match op with
 |.shl=>chk (decide (0≤b)) (K (.int k (k.wrap (a*2 ^ (min b.toNat k.bits)))))
 |.shr=>chk (decide (0≤b)) (K (.int k (a.fdiv (2 ^ (min b.toNat k.bits)))))
 |_=>False
def v1r (op:BinOp)(k:IntKind)(a b:Int)(K:Value→Prop):Prop:=
 match op with
 |.add=>K (.int k (k.wrap (a+b)))
 |.sub=>K (.int k (k.wrap (a - b)))
 |.mul=>K (.int k (k.wrap (a*b)))
 |.quo=>chk (decide (b≠0)) (K (.int k (k.wrap (a.tdiv b))))
 |.rem=>chk (decide (b≠0)) (K (.int k (a.tmod b)))
 |.and=>K (.int k (k.wrap ((BitVec.ofInt k.bits a &&& BitVec.ofInt k.bits b).toNat)))
 |.or=>K (.int k (k.wrap ((BitVec.ofInt k.bits a ||| BitVec.ofInt k.bits b).toNat)))
 |.xor=>K (.int k (k.wrap ((BitVec.ofInt k.bits a ^^^ BitVec.ofInt k.bits b).toNat)))
 |.andNot=>K (.int k (k.wrap ((BitVec.ofInt k.bits a &&& ~~~BitVec.ofInt k.bits b).toNat)))
 |.eql=>K (.bool (a==b))
 |.neq=>K (.bool (a != b))
 |.lss=>K (.bool (decide (a<b)))
 |.leq=>K (.bool (decide (a≤b)))
 |.gtr=>K (.bool (decide (a > b)))
 |.geq=>K (.bool (decide (a≥b)))
 |_=>False
def y2r:AV→Bool|.ref _ _|.elr _ _ _ _|.p (.box _)=>true|_=>false
def q7u (op:BinOp)(t:TypeId)(x y:Operand)(a b:Value):Sem Value:=do eqGuard op t x y a b;binOp op t a b
def v1s (P:Program)(T:J1)(op:BinOp)(t:TypeId)(xo yo:Operand)(x y:AV)(K:Value→Prop):Prop:=
 match x,y with
 |.p (.raw (.int k a)),.p (.raw (.int k' b))=>match op with
  |.shl=>y0t .shl k a b K
  |.shr=>y0t .shr k a b K
  |op=>chk (k==k') (v1r op k a b K)
 |.p (.raw (.string a)),.p (.raw (.string b))=>match op with
  |.eql=>∃ c:Bool,c=(a.toList==b.toList)∧K (.bool c)
  |.neq=>∃ c:Bool,c=(!(a.toList==b.toList))∧K (.bool c)
  |op=>∃ r,(∀ w,(q7u op t xo yo (.string a) (.string b)).run P w=.ok r w)∧r.oneCell'=true∧K r
 |.p (.raw (.bool a)),.p (.raw (.bool b))=>match op,T t with
  |.eql,some ⟨.bool,_,_,_⟩=>K (.bool (a==b))
  |.neq,some ⟨.bool,_,_,_⟩=>K (.bool (!(a==b)))
  |_,_=>False
 |.agg l,.agg l'=>W7 (w7a l) fun vs=>W7 (w7a l') fun vs'=>∃ r,(∀ w,(q7u op t xo yo (.agg vs.toArray) (.agg vs'.toArray)).run P w=.ok r w)∧r.oneCell'=true∧K r
 |x,.p (.raw (.pointer none))=>match op,T t with
  |.eql,some ⟨.ptr _,_,_,_⟩=>match x with
   |.p (.raw (.pointer none))=>K (.bool true)
   |_=>chk (y2r x) (K (.bool false))
  |.neq,some ⟨.ptr _,_,_,_⟩=>match x with
   |.p (.raw (.pointer none))=>K (.bool false)
   |_=>chk (y2r x) (K (.bool true))
  |_,_=>False
 |_,_=>False
def v1t (t:Bool)(x y:AV):AV:=
 match x,y with
 |.p (.raw (.bool a)),.p (.raw (.bool b))=>.p (.raw (.bool (cond t a b)))
 |x,y=>cond t x y
def unK (op:UnOp)(x:AV)(K:Value→Prop):Prop:=
 match op,x with
 |.not,.p (.raw (.bool b))=>K (.bool !b)
 |.neg,.p (.raw (.int k n))=>K (.int k (k.wrap (0 - n)))
 |_,_=>False
def w7b {α:Type}:List α→Nat→List α→List α
 |l,0,r=>r++l.drop r.length
 |[],_+1,r=>r
 |x :: l,o+1,r=>x :: w7b l o r
theorem x2p {α:Type}:∀ (l:List α) (o:Nat) (r:List α),w7b l o r=U0 l o r
 |l,0,r=>by simp[w7b,U0]
 |[],o+1,r=>by simp[w7b,U0]
 |x :: l,o+1,r=>by
  rw[w7b,x2p l o r]
  simp only[U0,List.take_succ_cons,List.cons_append]
  rw[show o+1+r.length=(o+r.length)+1 by omega,List.drop_succ_cons]
def z6g (T:J1)(place:Nat→Option (Nat × Nat))(cells:List AV):List (Nat × AV)→Option (List AV)
 |[]=>some cells
 |(i,v) :: rest=>match place i,v.cells? with
  |some (off,size),some l=>match l.length==size&&Nat.ble (off+l.length) cells.length with
   |true=>z6g T place (w7b cells off l) rest
   |false=>none
  |_,_=>none
def q6r (T:J1):List (Nat × TypeId)→Option (List (Nat × Nat))
 |[]=>some []
 |(o,t) :: r=>match T t,q6r T r with|some i,some l=>some ((o,i.size) :: l)|_,_=>none
def q7v (ti:TI):List AV:=ti.zero.map fun v=>.p (.raw v)
def q5w (ti:TI):List PV:=ti.zero.map fun v=>.raw v
def y4w {α:Type}(sz:Nat):Nat→List α→List (List α)
 |0,_=>[]
 |n+1,l=>l.take sz :: y4w sz n (l.drop sz)
def x2q (e:TypeId)(sz n:Nat)(l:List AV):ABlk:=match pvs l with|some ps=>.row e sz (y4w sz n ps)|none=>.cells e l
def q3j (d:Nat):Option AV→Option Int
 |none=>some d
 |some (.p (.raw (.int _ n)))=>some n
 |_=>none
def y4x (sz:Nat)(x:AV)(lo hi:Option AV)(K:AV→Prop):Prop:=
 match x with
 |.p (.sl sz' xs)=>chk (sz'==sz) (W7 (q3j 0 lo) fun l=>W7 (q3j xs.length hi) fun h=>(0≤l∧l≤h∧h≤xs.length)∧K (.p (.sl sz ((xs.take h.toNat).drop l.toNat))))
 |.msl b sz' off len=>chk (sz'==sz) (W7 (q3j 0 lo) fun l=>W7 (q3j len hi) fun h=>(0≤l∧l≤h∧h≤len)∧K (.msl b sz (off+l.toNat) (h.toNat - l.toNat)))
 |.p (.raw (.slice none 0 0))=>W7 (q3j 0 lo) fun l=>W7 (q3j 0 hi) fun h=>(l=0∧h=0)∧K (.p (.raw (.slice none 0 0)))
 |_=>False
def y4y (x:AV)(o:Nat)(K:AV→Prop):Prop:=
 match x with
 |.ref b off=>K (.ref b (off+o))
 |.elr b sz i off=>K (.elr b sz i (off+o))
 |.p (.box cs)=>K (.p (.box (cs.drop o)))
 |_=>False
def y0u (d:TD)(sz:Nat)(x i:AV)(K:AV→Prop):Prop:=
 match i with
 |.p (.raw (.int _ n))=>match d,x with
  |.slice _,.p (.sl sz' xs)=>chk (sz'==sz) (0≤n∧W7 xs[n.toNat]? fun e=>K (.p (.box e)))
  |.slice _,.msl b sz' off len=>chk (sz'==sz) ((0≤n∧n<len)∧K (.elr b sz (off+n.toNat) 0))
  |.array N _,.ref b off=>(0≤n∧n<N)∧K (.ref b (off+n.toNat*sz))
  |.array N _,.p (.box cs)=>(0≤n∧n<N)∧K (.p (.box (cs.drop (n.toNat*sz))))
  |.array N _,.elr b sz' r off=>chk (sz'==sz&&off==0) ((0≤n∧n<N)∧K (.elr b sz (r+n.toNat) 0))
  |_,_=>False
 |_=>False
def v7k (x:AV)(K:AV→Prop):Prop:=
 match x with
 |.p (.sl _ xs)=>K (.p (.raw (.int .i64 xs.length)))
 |.msl _ _ _ len=>K (.p (.raw (.int .i64 len)))
 |.p (.raw (.slice none 0 0))=>K (.p (.raw (.int .i64 0)))
 |_=>False
def z8k (H:List ABlk)(sz:Nat):AV→Option (List (List PV))
 |.p (.sl sz' xs)=>match sz'==sz with|true=>some xs|false=>none
 |.msl b sz' off len=>match H.getD b .dead with
  |.row _ sz'' xs=>match sz'==sz&&sz''==sz&&Nat.ble (off+len) xs.length with|true=>some ((xs.drop off).take len)|false=>none
  |_=>none
 |.p (.raw (.slice none 0 0))=>some []
 |_=>none
def z4x (H:List ABlk)(e:TypeId)(ti:TI)(s x:AV)(K:AV→List ABlk→Prop):Prop:=
 W7 (z8k H ti.size x) fun ys=>
 match s with
 |.p (.raw (.slice none 0 0))=>((ys.length*ti.bytes≤140737488355328∧ys.length≤140737488355328)∧K (.msl H.length ti.size 0 ys.length) (H++[.row e ti.size ys]))
 |.msl b sz off len=>match H.getD b .dead with
  |.row e' sz' xs=>chk (sz==ti.size&&sz'==ti.size&&e'==e&&off==0) (xs.length=len∧((xs.length+ys.length)*ti.bytes≤140737488355328∧xs.length+ys.length≤140737488355328) ∧
   K (.msl H.length ti.size 0 (xs++ys).length) (H.set b .dead++[.row e ti.size (xs++ys)]))
  |_=>False
 |_=>False
def x2r (H:List ABlk)(e:TypeId)(ti:TI)(s:AV)(us:List AV)(K:AV→List ABlk→Prop):Prop:=
 match s with
 |.p (.raw (.slice none 0 0))=>((us.length*ti.bytes≤140737488355328∧us.length≤140737488355328)∧K (.msl H.length 1 0 us.length) (H++[.cells e us]))
 |.msl b sz off len=>match H.getD b .dead with
  |.cells e' cs=>chk (sz==1&&e'==e&&off==0&&cs.length==len&&cs.all AV.one) (((cs.length+us.length)*ti.bytes≤140737488355328∧cs.length+us.length≤140737488355328) ∧
   K (.msl H.length 1 0 (cs.length+us.length)) (H.set b .dead++[.cells e (cs++us)]))
  |_=>False
 |_=>False
def z8m (H:List ABlk)(e:TypeId)(ti:TI)(s x:AV)(K:AV→List ABlk→Prop):Prop:=
 match x with
 |.msl b sz off len=>match H.getD b .dead with
  |.cells _ us=>chk (ti.size==1&&sz==1&&off==0&&us.length==len&&Nat.blt 0 len&&us.all AV.one) (x2r H e ti s us K)
  |_=>z4x H e ti s x K
 |_=>z4x H e ti s x K
def z4y (mx:Bool)(x y:AV)(K:AV→Prop):Prop:=
 match x,y with
 |.p (.raw (.int k a)),.p (.raw (.int _ b))=>K (.p (.raw (.int k (cond mx (if b > a then b else a) (if b<a then b else a)))))
 |_,_=>False
def v7m (d:TD)(x:AV)(K:AV→Prop):Prop:=
 match d with
 |.slice _=>v7k x K
 |.string=>match x with
  |.p (.raw (.string s))=>K (.p (.raw (.int .i64 s.size)))
  |_=>False
 |.array n _=>K (.p (.raw (.int .i64 n)))
 |_=>False
def y4z (H:List ABlk)(ti:TI)(x:AV)(K:List ABlk→Prop):Prop:=
 match x with
 |.msl b sz off len=>match H.getD b .dead with
  |.row e sz' xs=>chk (sz==ti.size&&sz'==ti.size) (off+len≤xs.length∧K (H.set b (.row e sz' (U0 xs off (List.replicate len (q5w ti))))))
  |_=>False
 |.p (.raw (.slice none 0 0))=>K H
 |_=>False
def x5n (H:List ABlk)(ti:TI)(d x:AV)(K:AV→List ABlk→Prop):Prop:=
 W7 (z8k H ti.size x) fun ys=>match d with
 |.msl b sz off len=>match H.getD b .dead with
  |.row e sz' xs=>chk (sz==ti.size&&sz'==ti.size) ((off+len≤xs.length∧ys.length≤len)∧K (.p (.raw (.int .i64 ys.length))) (H.set b (.row e sz' (U0 xs off ys))))
  |_=>False
 |_=>False
def z8n (H:List ABlk)(e:TypeId)(ti:TI)(s x:AV)(K:AV→List ABlk→Prop):Prop:=
 match s,x with
 |.p (.raw (.slice none 0 0)),.p (.raw (.int .i64 n))=>(0≤n∧n*ti.bytes≤140737488355328∧n≤140737488355328)∧K (.msl H.length ti.size 0 n.toNat) (H++[.row e ti.size (List.replicate n.toNat (q5w ti))])
 |_,_=>False
def v7n (d:TD)(x:AV)(K:AV→Prop):Prop:=
 match d,x with
 |.slice _,.p (.raw (.slice none 0 0))=>K (.p (.raw (.int .i64 0)))
 |_,_=>False
def z3e (T:J1)(b:Builtin)(ts:List TypeId)(xs:List AV)(H:List ABlk)(K:AV→List ABlk→Prop):Prop:=
 match b,xs with
 |.len,[x]=>match ts with
  |[t]=>W7 (T t) fun ti=>v7m ti.d x fun u=>K u H
  |_=>False
 |.append,[s,x]=>match ts with
  |[t,t']=>match t==t' with
   |true=>W7 (T t) fun ti=>match ti.d with
    |.slice e=>W7 (T e) fun ei=>chk (decide (0<ei.size)&&decide (0<ei.bytes)&&(ei.zero.length==ei.size)) (z8m H e ei s x K)
    |_=>False
   |false=>W7 (T t) fun ti=>W7 (T t') fun tj=>match ti.d,tj.d with
    |.slice e,.int _=>W7 (T e) fun ei=>chk (decide (0<ei.size)&&(ei.zero.length==ei.size)) (z8n H e ei s x K)
    |_,_=>False
  |_=>False
 |.copy,[d,x]=>match ts with
  |[t,t']=>chk (t==t') (W7 (T t) fun ti=>match ti.d with
   |.slice e=>W7 (T e) fun ei=>chk (decide (0<ei.size)) (x5n H ei d x K)
   |_=>False)
  |_=>False
 |.cap,[x]=>match ts with
  |[t]=>W7 (T t) fun ti=>v7n ti.d x fun u=>K u H
  |_=>False
 |.max,[x,y]=>z4y true x y fun u=>K u H
 |.min,[x,y]=>z4y false x y fun u=>K u H
 |.clear,[x]=>match ts with
  |[t]=>W7 (T t) fun ti=>match ti.d with
   |.slice e=>W7 (T e) fun ei=>chk (decide (0<ei.size)&&(ei.zero.length==ei.size)) (y4z H ei x fun H'=>K .top H')
   |_=>False
  |_=>False
 |_,_=>False
structure CallA where
 fn:FuncId→List AV→List ABlk→(AV→List ABlk→Prop)→Prop
 yld:Nat→List AV→List ABlk→(AV→List ABlk→Prop)→Prop
def z4z (C:CallA)(f:AV)(us:List AV)(H:List ABlk)(K:AV→List ABlk→Prop):Prop:=
 match f with
 |.clo (.func k) caps=>C.fn k (us++caps) H K
 |.mth (.func k) first=>C.fn k (first++us) H K
 |.yld b=>C.yld b us H K
 |.p (.raw (.func (.func k) ⟨[]⟩ ⟨[]⟩))=>C.fn k us H K
 |_=>False
def J8:Op→List Operand
 |.move x|.assign x|.box _ x|.load _ x|.unOp _ _ x|.convert _ _ x|.fieldAddr _ x _|.field _ x _|.extract x _|.nilCheck x=>[x]
 |.pick c a b=>[c,a,b]
 |.build _ ps|.buildSlice _ _ ps=>ps.toList.map (·.2)
 |.store _ a x|.binOp _ _ a x _|.makeSlice _ a x|.indexAddr _ a x|.index _ a x|.lookup _ a x _=>[a,x]
 |.insert _ m k v|.mapUpdate _ m k v=>[m,k,v]
 |.makeFunc _ first caps=>first.toList++caps.toList
 |.slice _ x lo hi _=>[x]++lo.toList++hi.toList
 |.call c=>(match c.callee with|.value f=>[f]|_=>[])++c.args.toList
 |_=>[]
def on1 (us:List AV)(K:AV→Prop):Prop:=match us with|[a]=>K a|_=>False
def on2 (us:List AV)(K:AV→AV→Prop):Prop:=match us with|[a,b]=>K a b|_=>False
def on3 (us:List AV)(K:AV→AV→AV→Prop):Prop:=match us with|[a,b,c]=>K a b c|_=>False
def onC (us:List AV)(K:AV→List AV→Prop):Prop:=match us with|a :: r=>K a r|[]=>False
def x5p (s d:TI)(u:AV)(H:List ABlk)(T:J1)(K:AV→List ABlk→Prop):Prop:=
 match s.d,d.d,u with
 |.int _,.int k,.p (.raw (.int _ n))=>K (.p (.raw (.int k (k.wrap n)))) H
 |.slice e,.string,u=>W7 (T e) fun ei=>match ei.d with
  |.int .u8=>chk (ei.size==1) (W7 (z8k H 1 u) fun ys=>∃ bs:List UInt8,ys=bs.map (fun b=>[PV.raw (.int .u8 b.toNat)])∧K (.p (.raw (.string ⟨bs.toArray⟩))) H)
  |_=>False
 |_,_,_=>False
def x2s (ei:TI)(N:Nat)(d:TD)(x i:AV)(K:AV→Prop):Prop:=
 match i,d,x with
 |.p (.raw (.int _ n)),.array _ _,.agg l=>(0≤n∧n<N)∧chk (decide (n.toNat*ei.size+ei.size≤l.length)&&(q0x ei.d||ei.size==1)) (K (q7t ei.d ((l.drop (n.toNat*ei.size)).take ei.size)))
 |_,_,_=>False
def x2t (x i:AV)(K:AV→Prop):Prop:=
 match i,x with
 |.p (.raw (.int _ n)),.p (.raw (.string s))=>0≤n∧W7 s.data[n.toNat]? fun b=>K (.p (.raw (.int .u8 b.toNat)))
 |_,_=>False
def z1e:TD→Bool|.int _|.string=>true|_=>false
def u0n:TD→TypeDesc|.int k=>.int k|_=>.string
def v1u (es:Array MapEntry)(clock:Nat)(k v:Value):Option (Option (Nat × Value))→Option Obj
 |some none=>some (.map (es.push { key:=k,val:=v,born:=clock }) (clock+1))
 |some (some (i,_))=>some (.map (es.modify i fun e=>{ e with key:=k,val:=v }) clock)
 |none=>none
def u0p:AV→Option Value
 |.p (.raw v)=>some v
 |.clo fn []=>some (.func fn #[] #[])
 |_=>none
def z5a (T:J1)(t:TypeId)(H:List ABlk)(m k v:AV)(K:List ABlk→Prop):Prop:=
 match m,k with
 |.mp b,.p (.raw k)=>W7 (u0p v) fun v=>W7 (T t) fun ti=>match ti.d with
  |.map kt _=>W7 (T kt) fun ki=>chk (z1e ki.d) (match H.getD b .dead with
   |.obj (.map es clock)=>W7 (v1u es clock k v (Instr.findNow (u0n ki.d) k es.toList 0)) fun o=>K (H.set b (.obj o))
   |_=>False)
  |_=>False
 |_,_=>False
def z8p (P:Program)(T:J1)(t:TypeId)(ok:Bool)(H:List ABlk)(m k:AV)(K:AV→Prop):Prop:=
 match m,k with
 |.mp b,.p (.raw k)=>W7 (T t) fun ti=>match ti.d with
  |.map kt et=>W7 (T kt) fun ki=>W7 (T et) fun ei=>chk (z1e ki.d&&(ei.size==1)&&!(q0x ei.d)) (match H.getD b .dead with
   |.obj (.map es _)=>W7 (Instr.findNow (u0n ki.d) k es.toList 0) fun r=>match r with
    |some (_,v)=>chk v.oneCell' (K (cond ok (.tup [.p (.raw v),.p (.raw (.bool true))]) (.p (.raw v))))
    |none=>∃ i v,P.info? et=some i∧i.zero=some v∧v.oneCell'=true∧K (cond ok (.tup [.p (.raw v),.p (.raw (.bool false))]) (.p (.raw v)))
   |_=>False)
  |_=>False
 |_,_=>False
def y0v (T:J1)(op:BinOp)(t:TypeId)(x:AV)(K:Value→Prop):Prop:=
 W7 (T t) fun ti=>match ti.d with
 |.slice _=>match op,x with
  |.eql,.p (.sl _ xs)=>∀ b,(b=true→xs=[])→K (.bool b)
  |.neq,.p (.sl _ xs)=>∀ b,(b=false→xs=[])→K (.bool b)
  |.eql,.msl _ _ _ len=>∀ b,(b=true→len=0)→K (.bool b)
  |.neq,.msl _ _ _ len=>∀ b,(b=false→len=0)→K (.bool b)
  |.eql,.p (.raw (.slice none 0 0))=>K (.bool true)
  |.neq,.p (.raw (.slice none 0 0))=>K (.bool false)
  |_,_=>False
 |_=>False
def v1v (P:Program)(T:J1)(op:BinOp)(t:TypeId)(xo yo:Operand)(x y:AV)(K:Value→Prop):Prop:=
 match yo with
 |.const (.slice none 0 0)=>y0v T op t x K
 |yo=>v1s P T op t xo yo x y K
def x5q:Op→Bool
 |.binOp _ _ _ y _=>match y with|.const (.slice none 0 0)=>false|_=>true
 |_=>true
def opV (P:Program)(T:J1)(C:CallA)(H:List ABlk)(K:AV→List ABlk→Prop)(o:Op)(us:List AV):Prop:=
 match o with
 |.move _=>on1 us fun x=>K x H
 |.assign _=>on1 us fun x=>K x H
 |.pick _ _ _=>on3 us fun c a b=>match c with
  |.p (.raw (.bool t))=>K (v1t t a b) H
  |_=>False
 |.alloc t=>W7 (T t) fun ti=>K (.ref H.length 0) (H++[.cells t (q7v ti)])
 |.box t _=>on1 us fun x=>W7 x.cells? fun l=>K (.ref H.length 0) (H++[.cells t l])
 |.build t parts=>W7 (T t) fun ti=>match ti.d with
  |.struct fs=>W7 (q6r T fs) fun pl=>W7 (z6g T (fun i=>pl[i]?) (q7v ti) ((parts.toList.map (·.1)).zip us)) fun l=>K (.agg l) H
  |.array _ e=>W7 (T e) fun ei=>W7 (z6g T (fun i=>some (i*ei.size,ei.size)) (q7v ti) ((parts.toList.map (·.1)).zip us)) fun l=>K (.agg l) H
  |_=>False
 |.buildSlice t n parts=>W7 (T t) fun ti=>match ti.d with
  |.slice e=>W7 (T e) fun ei=>chk (decide (n*ei.size≤1000)&&decide (0<ei.size)&&(ei.zero.length==ei.size)) (W7 (z6g T (fun i=>some (i*ei.size,ei.size)) (List.replicate n (q7v ei)).flatten ((parts.toList.map (·.1)).zip us)) fun l=>
   K (.msl H.length ei.size 0 n) (H++[x2q e ei.size n l]))
  |_=>False
 |.load t _=>on1 us fun a=>W7 (T t) fun ti=>chk (q0x ti.d||ti.size==1) <| y2q H a ti.size fun us=>K (q7t ti.d us) H
 |.store t _ _=>on2 us fun a x=>W7 (T t) fun ti=>W7 x.cells? fun vs=>chk (vs.length==ti.size) (y0s H a vs fun H'=>K .top H')
 |.binOp op t xo yo _=>on2 us fun x y=>v1v P T op t xo yo x y fun v=>K (.p (.raw v)) H
 |.unOp op _ _=>on1 us fun x=>unK op x fun v=>K (.p (.raw v)) H
 |.convert src dst _=>on1 us fun x=>W7 (T src) fun s=>W7 (T dst) fun d=>x5p s d x H T K
 |.makeFunc fn first _=>match first.isEmpty with
  |true=>K (.clo fn us) H
  |false=>chk (us.length==first.size) (K (.mth fn us) H)
 |.makeMap _ r=>chk r.isNone (K (.mp H.length) (H++[.obj (.map #[] 0)]))
 |.insert t _ _ _=>on3 us fun m k v=>z5a T t H m k v fun H'=>K .top H'
 |.mapUpdate t _ _ _=>on3 us fun m k v=>z5a T t H m k v fun H'=>K .top H'
 |.lookup t _ _ ok=>on2 us fun m k=>z8p P T t ok H m k fun u=>K u H
 |.makeSlice t _ _=>on2 us fun l c=>W7 (T t) fun ti=>match ti.d with
  |.slice e=>W7 (T e) fun ei=>chk (decide (0<ei.size)&&(ei.zero.length==ei.size)) (match l,c with
   |.p (.raw (.int .i64 n)),.p (.raw (.int .i64 n'))=>(n'=n∧0≤n∧n*ei.bytes≤140737488355328∧n≤140737488355328)∧K (.msl H.length ei.size 0 n.toNat) (H++[.row e ei.size (List.replicate n.toNat (q5w ei))])
   |_,_=>False)
  |_=>False
 |.slice t _ lo hi mx=>onC us fun x r=>chk mx.isNone (W7 (T t) fun ti=>match ti.d with
  |.slice e=>W7 (T e) fun ei=>y4x ei.size x (match lo with|some _=>r.head?|none=>none) (match lo,hi with|some _,some _=>r.tail.head?|none,some _=>r.head?|_,none=>none) fun u=>K u H
  |.string=>match x with
   |.p (.raw (.string s))=>W7 (q3j 0 (match lo with|some _=>r.head?|none=>none)) fun l=>W7 (q3j s.size (match lo,hi with|some _,some _=>r.tail.head?|none,some _=>r.head?|_,none=>none)) fun h=>
    (0≤l∧l≤h∧h≤s.size)∧K (.p (.raw (.string (s.extract l.toNat h.toNat)))) H
   |_=>False
  |_=>False)
 |.fieldAddr s _ f=>on1 us fun x=>W7 (T s) fun ti=>match ti.d with
  |.struct fs=>W7 fs[f]? fun p=>W7 (T p.2) fun fi=>chk (decide (0<fi.size)) (y4y x p.1 fun u=>K u H)
  |_=>False
 |.field s _ f=>on1 us fun x=>W7 (T s) fun ti=>match ti.d with
  |.struct fs=>W7 fs[f]? fun p=>W7 (T p.2) fun fi=>match x with
   |.agg l=>chk (decide (p.1+fi.size≤l.length)&&(q0x fi.d||fi.size==1)) (K (q7t fi.d ((l.drop p.1).take fi.size)) H)
   |_=>False
  |_=>False
 |.indexAddr t _ _=>on2 us fun x i=>W7 (T t) fun ti=>match ti.d with
  |.slice e=>W7 (T e) fun ei=>y0u (.slice e) ei.size x i fun u=>K u H
  |.array n e=>W7 (T e) fun ei=>y0u (.array n e) ei.size x i fun u=>K u H
  |_=>False
 |.index t _ _=>on2 us fun x i=>W7 (T t) fun ti=>match ti.d with
  |.array n e=>W7 (T e) fun ei=>x2s ei n (.array n e) x i fun u=>K u H
  |.string=>x2t x i fun u=>K u H
  |_=>False
 |.extract _ i=>on1 us fun x=>match x with
  |.tup l=>W7 l[i]? fun u=>K u H
  |_=>False
 |.nilCheck _=>on1 us fun x=>chk (y2r x) (K x H)
 |.call c=>match c.callee with
  |.value _=>onC us fun f r=>z4z C f r H K
  |.builtin b=>z3e T b c.argTypes.toList us H K
  |.invoke _ _=>False
 |_=>False
def aop (P:Program)(T:J1)(C:CallA)(ev:Operand→AV)(H:List ABlk)(K:AV→List ABlk→Prop)(o:Op):Prop:=opV P T C H K o ((J8 o).map ev)
end Go.Proofs.YtkjklhcfgbaceaaGreat.AL
namespace Go.Proofs.YtkjklhcfgbaceaaGreat.AL
open Go Go.RowKit
theorem tok {P:Program}{T:J1}(hT:TOk P T){t:TypeId}{ti:TI}(h:T t=some ti) :
 ∃ i d z,P.info? t=some i∧P.underlying t=some d∧i.zero=some z∧ti.d=q4b d∧ti.size=i.size∧ti.bytes=i.bytes∧ti.zero=z.cells.toList∧∀ v∈z.cells.toList,v.oneCell'=true:=by
 have h1:=hT t ti h
 unfold z3d at h1
 split at h1
 ·rename_i i d hi hd
  split at h1
  ·rename_i z hz
   split at h1
   ·rename_i hall
    obtain rfl:=k0x h1
    exact⟨i,d,z,hi,hd,hz,rfl,rfl,rfl,rfl,fun v hv=>List.all_eq_true.1 hall v hv⟩
   ·exact absurd h1 (by simp)
  ·exact absurd h1 (by simp)
 ·exact absurd h1 (by simp)
section
variable {w:World} {I:Nat→Prop} {ι:Nat→Option Nat}
theorem Y9 {x v:Value}(h:ARep w I ι (.p (.raw x)) v):v=x:=by cases h with|p h=>cases h;rfl
theorem w1c {x:AV}{v:Value}(h:ARep w I ι x v)(h1:x.one=true):v.oneCell'=true:=by
 cases h with
 |p h=>cases h with
  |raw v=>exact h1
  |sl=>rfl
  |box=>rfl
 |top=>simp[AV.one]at h1
 |agg=>simp[AV.one]at h1
 |tup=>simp[AV.one]at h1
 |ref=>rfl
 |msl=>rfl
 |msl0=>rfl
 |elr=>rfl
 |clo=>rfl
 |mth=>rfl
 |yld=>rfl
 |mp=>rfl
theorem w7c {v:Value}(h:v.oneCell'=true):v.cells = #[v]:=by cases v <;> first|rfl|simp[Value.oneCell']at h
theorem y5a {x:AV}{v:Value}{l:List AV}(h:ARep w I ι x v)(hl:x.cells?=some l) :
 v.cells.size=l.length∧(∀ i u,l[i]?=some u→ARep w I ι u (v.cells.getD i undef))∧(∀ y∈v.cells.toList,y.oneCell'=true):=by
 have single:∀ (h1:x.one=true) (h2:l=[x]),v.cells.size=l.length∧(∀ i u,l[i]?=some u→ARep w I ι u (v.cells.getD i undef))∧(∀ y∈v.cells.toList,y.oneCell'=true):=by
  intro h1 h2
  subst h2
  have hv:=w1c h h1
  rw[w7c hv]
  refine⟨rfl,fun i u hu=>?_,fun y hy=>by simp at hy;subst hy;exact hv⟩
  cases i with
  |zero=>simp at hu;subst hu;exact h
  |succ i=>simp at hu
 cases x with
 |agg l0=>
  simp only[AV.cells?]at hl
  split at hl
  ·rename_i hall
   obtain rfl:=k0x hl
   cases h with
   |agg l vs hn hr=>
    refine⟨hn,hr,fun y hy=>?_⟩
    have hy':y∈vs.toList:=hy
    obtain⟨i,hi,rfl⟩:=List.getElem_of_mem hy'
    have hi':i<l0.length:=by rw[← hn];simpa using hi
    have hri:=hr i l0[i] (k0w hi')
    have:vs.getD i undef=vs.toList[i]:=by
     have:i<vs.size:=by simpa using hi
     simp[Array.getD_eq_getD_getElem?,this]
    rw[this]at hri
    exact w1c hri (List.all_eq_true.1 hall _ (k1w hi'))
  ·exact absurd hl (by simp)
 |p x=>
  cases x with
  |raw y=>
   simp only[AV.cells?]at hl
   split at hl
   ·rename_i ho
    obtain rfl:=k0x hl
    exact single ho rfl
   ·exact absurd hl (by simp)
  |sl sz xs=>exact single rfl (k0x hl).symm
  |box cs=>exact single rfl (k0x hl).symm
 |ref b o=>exact single rfl (k0x hl).symm
 |msl b s o n=>exact single rfl (k0x hl).symm
 |elr b s i o=>exact single rfl (k0x hl).symm
 |clo f c=>exact single rfl (k0x hl).symm
 |mth f c=>exact single rfl (k0x hl).symm
 |yld b=>exact single rfl (k0x hl).symm
 |mp b=>exact single rfl (k0x hl).symm
 |tup l0=>simp[AV.cells?]at hl
 |top=>simp[AV.cells?]at hl
theorem x2u:∀ {l:List AV} {ps:List PV},pvs l=some ps→l=ps.map .p
 |[],ps,h=>by simp[pvs]at h;subst h;rfl
 |u :: r,ps,h=>by
  cases u with
  |p x=>
   simp only[pvs,v1q]at h
   split at h
   ·rename_i x' l' hx hl
    injection hx with hx;subst hx
    obtain rfl:=k0x h
    rw[x2u hl];rfl
   ·exact absurd h (by simp)
  |_=>simp[pvs,v1q]at h
theorem x2v:∀ {l:List AV} {vs:List Value},w7a l=some vs→l=vs.map (fun v=>.p (.raw v))
 |[],vs,h=>by simp[w7a]at h;subst h;rfl
 |u :: r,vs,h=>by
  simp only[w7a]at h
  split at h
  ·rename_i x' l' hx hl
   obtain rfl:=k0x h
   rw[x2v hl]
   cases u with
   |p y=>cases y with
    |raw z=>simp[x2n]at hx;subst hx;rfl
    |_=>simp[x2n]at hx
   |_=>simp[x2n]at hx
  ·exact absurd h (by simp)
theorem z3f {x:PV}{v:Value}(h:ARep w I ι (.p x) v):PRep w I x v:=by cases h;assumption
theorem X5 {H:List ABlk}{b:Nat}{k:ABlk}(h:H.getD b .dead=k)(hk:k.live=true):H[b]?=some k:=by
 rw[k0v]at h
 cases hb:H[b]? with
 |none=>rw[hb]at h;simp at h;subst h;simp[ABlk.live]at hk
 |some k'=>rw[hb]at h;simp at h;subst h;rfl
theorem w4w {H:List ABlk}{a:AV}{size:Nat}{K:List AV→Prop}{v:Value}(hs:SimH w I ι H)(ha:ARep w I ι a v)(h:y2q H a size K) :
 ∃ us B o vs,K us∧v=.pointer (some ⟨B,o,none⟩)∧us.length=size∧vs.length=size∧w.rangeAt B o vs∧∀ i u,us[i]?=some u→ARep w I ι u (vs.getD i undef):=by
 unfold y2q at h
 split at h
 ·rename_i cs
  obtain⟨h1,h2⟩:=J4 h
  have h1:=k0z h1
  cases z3f ha with
  |box cs b o f hI hcell hr=>
   refine⟨_,b,o,(List.range size).map f,h2,rfl,by simp;omega,by simp,?_,?_⟩
   ·intro j x hj
    simp only[List.getElem?_map,Option.map_eq_some_iff]at hj
    obtain⟨j',hj',rfl⟩:=hj
    have:=k0t.1 hj'
    obtain⟨hlt,he⟩:=this
    simp at hlt he;subst he
    exact hcell j (by omega)
   ·intro i u hu
    simp only[List.getElem?_map,Option.map_eq_some_iff]at hu
    obtain⟨x,hx,rfl⟩:=hu
    have hlt:i<size:=by
     have:=(k0t.1 hx).1
     simp at this;omega
    rw[List.getElem?_take_of_lt hlt]at hx
    rw[k0v,k1z,k2s hlt]
    exact .p (hr i x hx)
 ·rename_i b off
  split at h
  ·rename_i t l hb
   obtain⟨h1,h2⟩:=J4 h
   have h1:=k0z h1
   obtain⟨B,cs,g1,g2,_,g4,g5⟩:=hs.blk b _ (X5 hb rfl)
   cases ha with
   |ref _ _ B' hB=>
    rw[g1]at hB;obtain rfl:=k0x hB
    refine⟨_,B,off,(List.range size).map (fun i=>cs.getD (off+i) undef),h2,rfl,by simp;omega,by simp,?_,?_⟩
    ·intro j x hj
     simp only[List.getElem?_map,Option.map_eq_some_iff]at hj
     obtain⟨j',hj',rfl⟩:=hj
     obtain⟨hlt,he⟩:=k0t.1 hj'
     simp at hlt he;subst he
     rw[cell_of_row w B (off+j) cs t (0,0) g2]
     have:off+j<cs.size:=by omega
     simp[Array.getD_eq_getD_getElem?,this]
    ·intro i u hu
     have hlt:i<size:=by
      have:=(k0t.1 hu).1
      simp at this;omega
     rw[List.getElem?_take_of_lt hlt,List.getElem?_drop]at hu
     rw[k0v,k1z,k2s hlt]
     exact g5 (off+i) u hu
  ·exact h.elim
 ·rename_i b sz i off
  split at h
  ·rename_i t sz' xs hb
   obtain⟨h1,h2⟩:=J4 h
   have h1:sz=sz':=(k0z h1).symm
   subst h1
   obtain⟨e,he,h3⟩:=V0 h2
   obtain⟨h4,h5⟩:=J4 h3
   have h4:=k0z h4
   cases ha with
   |elr _ _ _ _ B' hB=>
    rcases hs.blk b _ (X5 hb rfl) with ⟨g1,_⟩|⟨B,cs,g1,g2,_,g4,_,g6⟩
    ·subst g1;simp at he
    ·rw[g1]at hB;obtain rfl:=k0x hB
     obtain⟨ge,gr⟩:=g6 i e he
     have hil:i<xs.length:=(k0t.1 he).1
     have hmul:i*sz+sz≤xs.length*sz:=by rw[← Nat.succ_mul];exact k2v _ hil
     refine⟨_,B,i*sz+off,(List.range size).map (fun j=>cs.getD (i*sz+off+j) undef),h5,rfl,by simp;omega,by simp,?_,?_⟩
     ·intro j x hj
      simp only[List.getElem?_map,Option.map_eq_some_iff]at hj
      obtain⟨j',hj',rfl⟩:=hj
      obtain⟨hlt,he'⟩:=k0t.1 hj'
      simp at hlt he';subst he'
      rw[cell_of_row w B (i*sz+off+j) cs t (0,0) g2]
      have:i*sz+off+j<cs.size:=by omega
      simp[Array.getD_eq_getD_getElem?,this]
     ·intro j u hu
      simp only[List.getElem?_map,Option.map_eq_some_iff]at hu
      obtain⟨x,hx,rfl⟩:=hu
      have hlt:j<size:=by
       have:=(k0t.1 hx).1
       simp at this;omega
      rw[List.getElem?_take_of_lt hlt,List.getElem?_drop]at hx
      rw[k0v,k1z,k2s hlt]
      have:=gr (off+j) x hx
      rw[← Nat.add_assoc]at this
      exact .p this
  ·rename_i t l hb
   obtain⟨h1,h2⟩:=J4 h
   have h1:=k0z h1
   obtain⟨B,cs,g1,g2,_,g4,g5⟩:=hs.blk b _ (X5 hb rfl)
   cases ha with
   |elr _ _ _ _ B' hB=>
    rw[g1]at hB;obtain rfl:=k0x hB
    refine⟨_,B,i*sz+off,(List.range size).map (fun j=>cs.getD (i*sz+off+j) undef),h2,rfl,by simp;omega,by simp,?_,?_⟩
    ·intro j x hj
     simp only[List.getElem?_map,Option.map_eq_some_iff]at hj
     obtain⟨j',hj',rfl⟩:=hj
     obtain⟨hlt,he⟩:=k0t.1 hj'
     simp at hlt he;subst he
     rw[cell_of_row w B (i*sz+off+j) cs t (0,0) g2]
     have:i*sz+off+j<cs.size:=by omega
     simp[Array.getD_eq_getD_getElem?,this]
    ·intro j u hu
     have hlt:j<size:=by
      have:=(k0t.1 hu).1
      simp at this;omega
     rw[List.getElem?_take_of_lt hlt,List.getElem?_drop]at hu
     rw[k0v,k1z,k2s hlt]
     exact g5 (i*sz+off+j) u hu
  ·exact h.elim
 ·exact h.elim
theorem q1y {B o n:Nat}{cs:Array Value}{t:TypeId}(h:w.heap[B]?=some (.cells cs t (0,0)))(hn:o+n≤cs.size):w.there B o n:=fun j hj=>by
 refine⟨?_,frozen_of_row w B (o+j) cs t h⟩
 rw[cell_of_row w B (o+j) cs t (0,0) h]
 simp;omega
theorem q4q (cs vs:List Value)(o i:Nat)(h:o+vs.length≤cs.length):(U0 cs o vs).toArray.getD i undef=if o≤i∧i<o+vs.length then vs.getD (i - o) undef else cs.getD i undef:=by
 rw[k2q,List.getElem?_toArray,q5a h,k0v,k0v]
 split <;> rfl
theorem U7 (a:Array Value)(i:Nat)(d:Value):a.getD i d=a.toList.getD i d:=by
 rw[k2q,k0v,Array.getElem?_toList]
theorem v1w {H:List ABlk}{a:AV}{vs:List AV}{K:List ABlk→Prop}{v:Value}{cv:List Value}(hs:SimH w I ι H)(ha:ARep w I ι a v)(h:y0s H a vs K)
 (hn:cv.length=vs.length) (hv:∀ i u,vs[i]?=some u→ARep w I ι u (cv.getD i undef)) :
 ∃ H' B o,K H'∧v=.pointer (some ⟨B,o,none⟩)∧w.there B o cv.length∧SimH (w.setCells B o cv) I ι H'∧Ex H.length w I ι H (w.setCells B o cv) I ι H':=by
 have cellsCase:∀ (b o B:Nat) (t:TypeId) (l:List AV),H[b]?=some (.cells t l)→ι b=some B→o+vs.length≤l.length→K (H.set b (.cells t (U0 l o vs)))→v=.pointer (some ⟨B,o,none⟩) →
  ∃ H' B o,K H'∧v=.pointer (some ⟨B,o,none⟩)∧w.there B o cv.length∧SimH (w.setCells B o cv) I ι H'∧Ex H.length w I ι H (w.setCells B o cv) I ι H':=by
  intro b o B t l hb hB hle hK hv'
  obtain⟨B',cs,g1,g2,g3,g4,g5⟩:=hs.blk b _ hb
  rw[hB]at g1;obtain rfl:=k0x g1
  have hle':o+cv.length≤cs.size:=by omega
  have hw:=q4a w B t cv o cs g2 hle'
  have hsz:(U0 cs.toList o cv).toArray.size=cs.size:=by simp[V8 (l:=cs.toList) (o:=o) (vs:=cv) (by simpa using hle')]
  have hI:∀ C,I C→(w.setCells B o cv).heap[C]?=w.heap[C]?:=fun C hC=>(J7 w B cv o).old C (fun e=>g3 (e ▸ hC))
  have hsh:Shape w (w.setCells B o cv):=fun C cs0 t0 fr h=>by
   by_cases e:C=B
   ·subst e
    rw[g2]at h
    injection h with h;injection h with h1' h2' h3'
    subst h1' h2' h3'
    exact⟨_,hw,hsz⟩
   ·exact⟨cs0,by rw[(J7 w B cv o).old C e];exact h,rfl⟩
  have hlive:live H b:=⟨_,hb,rfl⟩
  have key:=(J7 w B cv o).sim hs hlive hB g2 hw hsz (.cells t (U0 l o vs)) (by
   refine⟨B,_,hB,hw,g3,by rw[hsz,V8 hle];exact g4,fun i u hu=>?_⟩
   rw[q4q _ _ _ _ (by simpa using hle')]
   rw[q5a hle]at hu
   split at hu
   ·rename_i hc
    rw[if_pos (by omega)]
    exact(hv _ u hu).move hI (fun _ h=>h) (fun _ _ h=>h) hsh
   ·rename_i hc
    rw[if_neg (by omega),← U7]
    exact(g5 i u hu).move hI (fun _ h=>h) (fun _ _ h=>h) hsh)
  exact⟨_,B,o,hK,hv',q1y g2 hle',key.1,key.2⟩
 unfold y0s at h
 split at h
 ·rename_i b off
  split at h
  ·rename_i t l hb
   obtain⟨h1,h2⟩:=J4 h
   have h1:=k0z h1
   cases ha with
   |ref _ _ B hB=>exact cellsCase b off B t l (X5 hb rfl) hB h1 h2 rfl
  ·exact h.elim
 ·rename_i b sz i off
  split at h
  ·rename_i t sz' xs hb
   obtain⟨h1,h2⟩:=J4 h
   have h1:sz=sz':=(k0z h1).symm
   subst h1
   obtain⟨e,he,h3⟩:=V0 h2
   obtain⟨h4,h5⟩:=J4 h3
   have h4:=k0z h4
   obtain⟨ps,hps,h6⟩:=V0 h5
   have hvs:=x2u hps
   subst hvs
   simp only[List.length_map]at h4 hn
   have hb':=X5 hb rfl
   cases ha with
   |elr _ _ _ _ B' hB=>
    rcases hs.blk b _ hb' with ⟨g1,_⟩|⟨B,cs,g1,g2,g3,g4,gl,g6⟩
    ·subst g1;simp at he
    ·rw[g1]at hB;obtain rfl:=k0x hB
     obtain⟨ge,gr⟩:=g6 i e he
     have hil:i<xs.length:=(k0t.1 he).1
     have hmul:i*sz+sz≤xs.length*sz:=by rw[← Nat.succ_mul];exact k2v _ hil
     have hle':i*sz+off+cv.length≤cs.size:=by omega
     have hw:=q4a w B t cv (i*sz+off) cs g2 hle'
     have hsz:(U0 cs.toList (i*sz+off) cv).toArray.size=cs.size:=by simp[V8 (l:=cs.toList) (o:=i*sz+off) (vs:=cv) (by simpa using hle')]
     have hI:∀ C,I C→(w.setCells B (i*sz+off) cv).heap[C]?=w.heap[C]?:=fun C hC=>(J7 w B cv (i*sz+off)).old C (fun e=>g3 (e ▸ hC))
     have hlive:live H b:=⟨_,hb',rfl⟩
     have hel:(U0 e off ps).length=e.length:=V8 (by omega)
     have key:=(J7 w B cv (i*sz+off)).sim hs hlive g1 g2 hw hsz (.row t sz (xs.set i (U0 e off ps))) (by
      refine .inr ⟨B,_,g1,hw,g3,by rw[hsz];simpa using g4,by simpa using gl,fun j e' hj=>?_⟩
      by_cases hji:j=i
      ·subst hji
       rw[k2y hil]at hj
       obtain rfl:=k0x hj
       refine⟨hel.trans ge,fun k u hu=>?_⟩
       rw[q4q _ _ _ _ (by simpa using hle')]
       rw[q5a (by omega)]at hu
       split at hu
       ·rename_i hc
        rw[if_pos (by omega),show j*sz+k - (j*sz+off)=k - off by omega]
        exact(z3f (hv (k - off) (.p u) (by rw[k1z,hu];rfl))).move hI (fun _ h=>h)
       ·rename_i hc
        have hk:k<e.length:=(k0t.1 hu).1
        rw[if_neg (by omega),← U7]
        exact(gr k u hu).move hI (fun _ h=>h)
      ·rw[k3z (by omega)]at hj
       obtain⟨q1,q2⟩:=g6 j e' hj
       refine⟨q1,fun k u hu=>?_⟩
       have hk:k<e'.length:=(k0t.1 hu).1
       have hne:¬ (i*sz+off≤j*sz+k∧j*sz+k<i*sz+off+cv.length):=by
        rcases Nat.lt_or_ge j i with hlt|hge
        ·have:j*sz+sz≤i*sz:=by rw[← Nat.succ_mul];exact k2v _ hlt
         omega
        ·have:i*sz+sz≤j*sz:=by rw[← Nat.succ_mul];exact k2v _ (by omega)
         omega
       rw[q4q _ _ _ _ (by simpa using hle'),if_neg hne,← U7]
       exact(q2 k u hu).move hI (fun _ h=>h))
     exact⟨_,B,_,h6,rfl,q1y g2 hle',key.1,key.2⟩
  ·rename_i t l hb
   obtain⟨h1,h2⟩:=J4 h
   have h1:=k0z h1
   cases ha with
   |elr _ _ _ _ B hB=>exact cellsCase b (i*sz+off) B t l (X5 hb rfl) hB h1 h2 rfl
  ·exact h.elim
 ·exact h.elim
end
end Go.Proofs.YtkjklhcfgbaceaaGreat.AL
namespace Go.Proofs.YtkjklhcfgbaceaaGreat.AL
open Go Go.RowKit
theorem W3 {P:Program}{o:Oper}{a:Act}{w w':World}{v:Value}{next:Act→World→Prop}{Q:Exit→Act→World→Prop}
 (h:(execOp a.eval o).run P w=.ok (.value v) w') (hn:next (a.put o.dst v) w'):o.wp P a w next Q:=by
 unfold Oper.wp;rw[h];exact hn
theorem v1x {P:Program}{o:Oper}{a:Act}{w w':World}{next:Act→World→Prop}{Q:Exit→Act→World→Prop}
 (h:(execOp a.eval o).run P w=.ok .skip w') (hn:next (a.put o.dst undef) w'):o.wp P a w next Q:=by
 unfold Oper.wp;rw[h];exact hn
def Nx (w:World)(I:Nat→Prop)(ι:Nat→Option Nat)(H:List ABlk)(K:AV→List ABlk→Prop)(f:Value→World→Prop):Prop:=
 ∀ v w' r H' I' ι',K r H'→ARep w' I' ι' r v→SimH w' I' ι' H'→Ex H.length w I ι H w' I' ι' H'→f v w'
section
variable {P:Program} {T:J1} {w:World} {I:Nat→Prop} {ι:Nat→Option Nat} {H:List ABlk} {K:AV→List ABlk→Prop} {o:Oper} {a:Act} {next:Act→World→Prop} {Q:Exit→Act→World→Prop} {ev:Operand→AV}
theorem Nx.here {f:Value→World→Prop}(n:Nx w I ι H K f)(hs:SimH w I ι H){r:AV}{v:Value}(hk:K r H)(hr:ARep w I ι r v):f v w:=
 n v w r H I ι hk hr hs (Ex.refl (k1v _))
theorem q0e {t:TypeId}{i:TypeInfo}(h:P.info? t=some i)(w:World):(sizeOf t).run P w=.ok i.size w:=by simp[sizeOf,typeInfo,h]
theorem q6h {t:TypeId}{i:TypeInfo}{z:Value}(h:P.info? t=some i)(hz:i.zero=some z)(w:World):(zeroValue t).run P w=.ok z w:=by simp[zeroValue,typeInfo,h,hz]
theorem y5b (t:TypeId)(v:Value)(w:World):(newVar t v).run P w=.ok ⟨w.heap.size,0,none⟩ (w.alloc (.cells v.cells t)):=by simp[newVar,newRow]
theorem w4x {x:Operand}(ho:o.op=.move x∨o.op=.assign x)(hs:SimH w I ι H)(hx:ARep w I ι (ev x) (a.eval x))(h:K (ev x) H)(hn:Nx w I ι H K fun v w'=>next (a.put o.dst v) w'):o.wp P a w next Q:=by
 refine W3 (v:=a.eval x) (w':=w) ?_ (hn.here hs h hx)
 rcases ho with ho|ho <;> simp[execOp,ho]
theorem v7p {c x y:Operand}(ho:o.op=.pick c x y)(hs:SimH w I ι H)(hc:ARep w I ι (ev c) (a.eval c))(hx:ARep w I ι (ev x) (a.eval x))(hy:ARep w I ι (ev y) (a.eval y))
 (h:match ev c with|.p (.raw (.bool t))=>K (v1t t (ev x) (ev y)) H|_=>False) (hn:Nx w I ι H K fun v w'=>next (a.put o.dst v) w'):o.wp P a w next Q:=by
 split at h
 ·rename_i t e1
  rw[e1]at hc
  have h1:=Y9 hc
  refine W3 (v:=cond t (a.eval x) (a.eval y)) (w':=w) ?_ (hn.here hs h ?_)
  ·cases t <;> simp[execOp,ho,h1,asBool]
  ·unfold v1t
   generalize ev x=xx at hx ⊢
   generalize ev y=xy at hy ⊢
   split
   ·have v1:=Y9 hx
    have v2:=Y9 hy
    rw[v1,v2]
    cases t
    ·exact .p (.raw _ rfl)
    ·exact .p (.raw _ rfl)
   ·cases t
    ·exact hy
    ·exact hx
 ·exact h.elim
theorem y0w {cs:Array Value}{t:TypeId}{l:List AV}(hs:SimH w I ι H)(hn:l.length≤cs.size)(hr:∀ i u,l[i]?=some u→ARep w I ι u (cs.getD i undef))
 {w':World} (g:Grew w w' (.cells cs t)):SimH w' I (upd ι H.length w.heap.size) (H++[.cells t l])∧Ex H.length w I ι H w' I (upd ι H.length w.heap.size) (H++[.cells t l]):=by
 refine g.sim hs _ ⟨w.heap.size,cs,by simp[upd],g.new,fun h=>by have:=hs.Ilt _ h;omega,hn,fun i u hu=>?_⟩
 refine(hr i u hu).move (fun B hB=>g.old B (hs.Ilt B hB)) (fun _ h=>h) (fun b B hb=>?_) g.shape
 have hlt:b<H.length:=by
  rcases Nat.lt_or_ge b H.length with h|h
  ·exact h
  ·rw[hs.dom b h]at hb;exact absurd hb (by simp)
 unfold upd;rw[if_neg (by omega)];exact hb
theorem v1y {t:TypeId}(hT:TOk P T)(ho:o.op=.alloc t)(hs:SimH w I ι H)(h:W7 (T t) fun ti=>K (.ref H.length 0) (H++[.cells t (q7v ti)]))(hn:Nx w I ι H K fun v w'=>next (a.put o.dst v) w'):o.wp P a w next Q:=by
 obtain⟨ti,hti,hk⟩:=V0 h
 obtain⟨i,d,z,h1,h2,h3,h4,h5,h6,h7,h8⟩:=tok hT hti
 have g:=q4j w (.cells z.cells t)
 have k:=y0w (l:=q7v ti) hs (by simp[q7v,h7]) (fun i u hu=>by
  simp only[q7v,h7,List.getElem?_map,Option.map_eq_some_iff]at hu
  obtain⟨y,hy,rfl⟩:=hu
  rw[U7,k0v,hy]
  exact .p (.raw y (h8 y (k2x hy)))) g
 refine W3 (v:=.pointer (some ⟨w.heap.size,0,none⟩)) (w':=w.alloc (.cells z.cells t)) ?_ (hn _ _ _ _ _ _ hk (.ref _ _ _ (by simp[upd])) k.1 k.2)
 simp[execOp,ho,Instr.alloc,q6h h1 h3,y5b]
theorem u0q {t:TypeId}{x:Operand}(ho:o.op=.box t x)(hs:SimH w I ι H)(hx:ARep w I ι (ev x) (a.eval x))(h:W7 (ev x).cells? fun l=>K (.ref H.length 0) (H++[.cells t l]))(hn:Nx w I ι H K fun v w'=>next (a.put o.dst v) w'):o.wp P a w next Q:=by
 obtain⟨l,hl,hk⟩:=V0 h
 obtain⟨h1,h2,_⟩:=y5a hx hl
 have g:=q4j w (.cells (a.eval x).cells t)
 have k:=y0w (l:=l) hs (by omega) h2 g
 refine W3 (v:=.pointer (some ⟨w.heap.size,0,none⟩)) (w':=w.alloc (.cells (a.eval x).cells t)) ?_ (hn _ _ _ _ _ _ hk (.ref _ _ _ (by simp[upd])) k.1 k.2)
 simp[execOp,ho,Instr.box,y5b]
theorem q5y (d:TypeDesc):q0x (q4b d)=d.isRow:=by cases d <;> rfl
theorem v7q {t:TypeId}{x:Operand}(hT:TOk P T)(ho:o.op=.load t x)(hs:SimH w I ι H)(hx:ARep w I ι (ev x) (a.eval x))
 (h:W7 (T t) fun ti=>chk (q0x ti.d||ti.size==1) <| y2q H (ev x) ti.size fun us=>K (q7t ti.d us) H) (hn:Nx w I ι H K fun v w'=>next (a.put o.dst v) w'):o.wp P a w next Q:=by
 obtain⟨ti,hti,hk⟩:=V0 h
 obtain⟨i,d,z,h1,h2,h3,h4,h5,h6,h7,h8⟩:=tok hT hti
 obtain⟨c1,c2⟩:=J4 hk
 obtain⟨us,B,off,vs,k1,k2,k3,k4,k5,k6⟩:=w4w hs hx c2
 cases hrow:q0x ti.d with
 |true=>
  have hd:d.isRow=true:=by rw[← q5y,← h4];exact hrow
  refine W3 (v:=.agg vs.toArray) (w':=w) ?_ (hn.here hs k1 ?_)
  ·have hrun:=run_loadAt_mid (P:=P) w B off t vs d k5 h2 hd (by rw[h1,k4];simp[h5])
   simp[execOp,ho,k2,hrun]
  ·have:q7t ti.d us=.agg us:=by cases hdd:ti.d <;> simp[hdd,q0x]at hrow <;> rfl
   rw[this]
   exact .agg us vs.toArray (by simp[k3,k4]) (fun i u hu=>by rw[U7];exact k6 i u hu)
 |false=>
  have hd:d.isRow=false:=by rw[← q5y,← h4];exact hrow
  rw[hrow]at c1
  have hsz:ti.size=1:=by simpa using c1
  rw[hsz]at k3 k4
  obtain⟨u,rfl⟩:=List.length_eq_one_iff.1 k3
  obtain⟨v,rfl⟩:=List.length_eq_one_iff.1 k4
  have hcell:w.cell? ⟨B,off,none⟩=some v:=by simpa using k5 0 v rfl
  refine W3 (v:=v) (w':=w) ?_ (hn.here hs k1 ?_)
  ·have hagg:(isAgg t).run P w=.ok false w:=by
    unfold isAgg
    rw[Sem.run_bind,run_underlying h2 w]
    cases d <;> simp_all
   simp[execOp,ho,k2,Instr.loadAt,Instr.sureAddr,loadVar,hagg,load,Sem.run,hcell]
  ·have:q7t ti.d [u]=u:=by cases hdd:ti.d <;> simp[hdd,q0x]at hrow <;> rfl
   rw[this]
   exact k6 0 u rfl
theorem v1z {t:TypeId}{p x:Operand}(hT:TOk P T)(ho:o.op=.store t p x)(hs:SimH w I ι H)(hp:ARep w I ι (ev p) (a.eval p))(hx:ARep w I ι (ev x) (a.eval x))
 (h:W7 (T t) fun ti=>W7 (ev x).cells? fun vs=>chk (vs.length==ti.size) (y0s H (ev p) vs fun H'=>K .top H')) (hn:Nx w I ι H K fun v w'=>next (a.put o.dst v) w'):o.wp P a w next Q:=by
 obtain⟨ti,hti,hk⟩:=V0 h
 obtain⟨i,d,z,h1,h2,h3,h4,h5,h6,h7,h8⟩:=tok hT hti
 obtain⟨vs,hvs,hk⟩:=V0 hk
 obtain⟨c1,c2⟩:=J4 hk
 have c1:vs.length=ti.size:=by simpa using c1
 obtain⟨e1,e2,e3⟩:=y5a hx hvs
 obtain⟨H',B,off,k1,k2,k3,k4,k5⟩:=v1w (cv:=(a.eval x).cells.toList) hs hp c2 (by simpa using e1) (fun i u hu=>by rw[← U7];exact e2 i u hu)
 refine v1x (w':=w.setCells B off (a.eval x).cells.toList) ?_ (hn undef _ _ _ _ _ k1 (.top _) k4 k5)
 have hrun:=run_storeCells_cells (P:=P) B off (a.eval x).cells.toList 0 w (fun j hj=>by simpa using (k3 j hj).1) (fun j hj=>by simpa using (k3 j hj).2) e3
 simp only[Nat.add_zero]at hrun
 have hsz:(a.eval x).cells.size=i.size:=by omega
 simp[execOp,ho,k2,Instr.storeAt,Instr.sureAddr,storeVar,q0e h1,hsz,hrun]
end
end Go.Proofs.YtkjklhcfgbaceaaGreat.AL
namespace Go.Proofs.YtkjklhcfgbaceaaGreat.AL
open Go Go.RowKit
section
variable {P:Program} {T:J1} {w:World} {I:Nat→Prop} {ι:Nat→Option Nat} {H:List ABlk} {K:AV→List ABlk→Prop} {o:Oper} {a:Act} {next:Act→World→Prop} {Q:Exit→Act→World→Prop} {ev:Operand→AV}
theorem x5r {op:BinOp}{k yk:IntKind}{x y:Int}{K:Value→Prop}(h:y0t op k x y K):∃ v,K v∧v.oneCell'=true∧Op.shift op k x yk y=pure v:=by
 cases op <;> simp only[y0t]at h <;> first|exact h.elim|skip
 all_goals
  obtain⟨h1,h2⟩:=J4 h
  have h1:=k0z h1
  refine⟨_,h2,rfl,?_⟩
  simp only[Op.shift]
  rw[if_neg (by omega)]
theorem u0r {op:BinOp}{k:IntKind}{x y:Int}{K:Value→Prop}(h:v1r op k x y K)(w:World)(t:TypeId)(xo yo:Operand) :
 ∃ v,K v∧v.oneCell'=true∧(q7u op t xo yo (.int k x) (.int k y)).run P w=.ok v w:=by
 have hg:eqGuard op t xo yo (.int k x) (.int k y)=pure ():=by cases op <;> rfl
 cases op <;> simp only[v1r]at h <;> first|exact h.elim|skip
 case quo=>
  obtain⟨h1,h2⟩:=J4 h
  have h1:=k0z h1
  exact⟨_,h2,rfl,by simp[q7u,hg,binOp,Op.intDiv,h1]⟩
 case rem=>
  obtain⟨h1,h2⟩:=J4 h
  have h1:=k0z h1
  exact⟨_,h2,rfl,by simp[q7u,hg,binOp,Op.intDiv,h1]⟩
 all_goals exact⟨_,h,rfl,by simp[q7u,hg,binOp,Op.intArith,Op.intCmp,Op.intBits]⟩
theorem x2w {x:AV}{v:Value}(hp:y2r x=true)(h:ARep w I ι x v):∃ ad,v=.pointer (some ad):=by
 cases h with
 |p h=>cases h with
  |box cs b o=>exact⟨_,rfl⟩
  |raw v=>simp[y2r]at hp
  |sl=>simp[y2r]at hp
 |ref=>exact⟨_,rfl⟩
 |elr=>exact⟨_,rfl⟩
 |_=>simp[y2r]at hp
theorem x5s {d:TypeDesc}{e:TypeId}(h:TD.ptr e=q4b d):d=.pointer e:=by cases d <;> simp[q4b]at h;subst h;rfl
theorem y9z {d:TypeDesc}(h:TD.bool=q4b d):d=.bool:=by cases d <;> simp[q4b]at h;rfl
theorem q0s {d:TypeDesc}{e:TypeId}(h:TD.slice e=q4b d):d=.slice e:=by cases d <;> simp[q4b]at h;subst h;rfl
theorem q8v {d:TypeDesc}(h:TD.string=q4b d):d=.string:=by cases d <;> simp[q4b]at h;rfl
theorem x5t {d:TypeDesc}{k e:TypeId}(h:TD.map k e=q4b d):d=.map k e:=by cases d <;> simp[q4b]at h;obtain⟨rfl,rfl⟩:=h;rfl
theorem z8q {d:TypeDesc}{k:IntKind}(h:TD.int k=q4b d):d=.int k:=by cases d <;> simp[q4b]at h;subst h;rfl
theorem z1f {d:TypeDesc}{n:Nat}{e:TypeId}(h:TD.array n e=q4b d):d=.array n e:=by cases d <;> simp[q4b]at h;obtain⟨rfl,rfl⟩:=h;rfl
theorem z3g {d:TypeDesc}{fs:List (Nat × TypeId)}(h:TD.struct fs=q4b d):∃ f:Array Field,d=.struct f∧fs=f.toList.map fun x=>(x.offset,x.type):=by cases d <;> simp[q4b]at h;exact⟨_,rfl,h⟩
theorem z2n (d:Nat)(t e:TypeId)(x:Option Addr)(h:P.underlying t=some (.pointer e))(w:World):(Op.equalIn (d+1) t (.pointer x) (.pointer none)).run P w=.ok x.isNone w:=by
 cases x <;> simp[Op.equalIn,run_underlying h]
theorem y2s (t e:TypeId)(xo yo:Operand)(x:Option Addr)(h:P.underlying t=some (.pointer e))(w:World):(q7u .eql t xo yo (.pointer x) (.pointer none)).run P w=.ok (.bool x.isNone) w:=by
 have e1:q7u .eql t xo yo (.pointer x) (.pointer none)=(do let b ← Op.equalIn (9999+1) t (.pointer x) (.pointer none);pure (.bool b)):=rfl
 rw[e1];simp[z2n 9999 t e x h w]
theorem y2t (t e:TypeId)(xo yo:Operand)(x:Option Addr)(h:P.underlying t=some (.pointer e))(w:World):(q7u .neq t xo yo (.pointer x) (.pointer none)).run P w=.ok (.bool (!x.isNone)) w:=by
 have e1:q7u .neq t xo yo (.pointer x) (.pointer none)=(do let b ← Op.equalIn (9999+1) t (.pointer x) (.pointer none);pure (.bool (!b))):=rfl
 rw[e1];simp[z2n 9999 t e x h w]
theorem u0s (hT:TOk P T){op:BinOp}{t:TypeId}{xo yo:Operand}{x y:AV}{vx vy:Value}{K:Value→Prop}(h:v1s P T op t xo yo x y K)(hx:ARep w I ι x vx)(hy:ARep w I ι y vy) :
 ∃ v,K v∧v.oneCell'=true∧(q7u op t xo yo vx vy).run P w=.ok v w:=by
 unfold v1s at h
 split at h
 ·rename_i k x' k' y'
  obtain rfl:=Y9 hx;obtain rfl:=Y9 hy
  split at h
  ·obtain⟨v,h1,h1',h2⟩:=x5r (yk:=k') h
   exact⟨v,h1,h1',by simp[q7u,eqGuard_at_int,binOp,h2]⟩
  ·obtain⟨v,h1,h1',h2⟩:=x5r (yk:=k') h
   exact⟨v,h1,h1',by simp[q7u,eqGuard_at_int,binOp,h2]⟩
  ·obtain⟨h1,h2⟩:=J4 h
   have h1:k=k':=k0z h1
   subst h1
   exact u0r h2 w t xo yo
 ·rename_i x' y'
  obtain rfl:=Y9 hx;obtain rfl:=Y9 hy
  split at h
  ·obtain⟨c,rfl,h⟩:=h
   exact⟨_,h,rfl,by simp[q7u,eqGuard_at_string,binOp_string_eql]⟩
  ·obtain⟨c,rfl,h⟩:=h
   exact⟨_,h,rfl,by simp[q7u,eqGuard_at_string,binOp_string_neq]⟩
  ·obtain⟨r,h1,h1',h2⟩:=h
   exact⟨r,h2,h1',h1 w⟩
 ·rename_i x' y'
  obtain rfl:=Y9 hx;obtain rfl:=Y9 hy
  split at h
  ·rename_i hti
   obtain⟨i,d,z,_,h2,_,h4,_⟩:=tok hT hti
   obtain rfl:=y9z h4
   exact⟨_,h,rfl,by simp[q7u,eqGuard_at_bool,run_eql_bool w t x' y' h2]⟩
  ·rename_i hti
   obtain⟨i,d,z,_,h2,_,h4,_⟩:=tok hT hti
   obtain rfl:=y9z h4
   exact⟨_,h,rfl,by simp[q7u,eqGuard_at_bool,run_neq_bool w t x' y' h2]⟩
  ·exact h.elim
 ·rename_i l l'
  obtain⟨vs,h1,h⟩:=V0 h
  obtain⟨vs',h2,r,h3,h3',h4⟩:=V0 h
  have r1:=x2v h1;have r2:=x2v h2
  subst r1 r2
  refine⟨r,h4,h3',?_⟩
  have inv:∀ {vs:List Value} {v:Value},ARep w I ι (.agg (vs.map fun v=>.p (.raw v))) v→v=.agg vs.toArray:=by
   intro vs v h
   cases h with
   |agg l cs hn hr=>
    congr 1
    apply Array.ext'
    apply List.ext_getElem?
    intro i
    rcases Nat.lt_or_ge i cs.size with hi|hi
    ·have hi':i<vs.length:=by rw[hn]at hi;simpa using hi
     have:=Y9 (hr i (.p (.raw vs[i])) (by simp[hi']))
     rw[U7,k0v]at this
     simp[hi,hi']at this ⊢
     exact this
    ·have hi':vs.length≤i:=by rw[hn]at hi;simpa using hi
     simp[hi,hi']
  rw[inv hx,inv hy]
  exact h3 w
 ·obtain rfl:=Y9 hy
  split at h
  ·rename_i hti
   obtain⟨i,d,z,_,h2,_,h4,_⟩:=tok hT hti
   obtain rfl:=x5s h4
   split at h
   ·obtain rfl:=Y9 hx
    exact⟨_,h,rfl,y2s t _ xo yo none h2 w⟩
   ·obtain⟨c1,c2⟩:=J4 h
    obtain⟨ad,rfl⟩:=x2w c1 hx
    exact⟨_,c2,rfl,y2s t _ xo yo (some ad) h2 w⟩
  ·rename_i hti
   obtain⟨i,d,z,_,h2,_,h4,_⟩:=tok hT hti
   obtain rfl:=x5s h4
   split at h
   ·obtain rfl:=Y9 hx
    exact⟨_,h,rfl,y2t t _ xo yo none h2 w⟩
   ·obtain⟨c1,c2⟩:=J4 h
    obtain⟨ad,rfl⟩:=x2w c1 hx
    exact⟨_,c2,rfl,y2t t _ xo yo (some ad) h2 w⟩
  ·exact h.elim
 ·exact h.elim
theorem z8r (d:Nat)(t e:TypeId)(A:Option Addr)(n c:Nat)(h:P.underlying t=some (.slice e))(w:World):(Op.equalIn (d+1) t (.slice A n c) (.slice none 0 0)).run P w=.ok A.isNone w:=by
 cases A <;> simp[Op.equalIn,run_underlying h]
theorem q3k {t e:TypeId}{A:Option Addr}{n c:Nat}{op:BinOp}{xo yo:Operand}(h:P.underlying t=some (.slice e))(hop:op=.eql∨op=.neq)(w:World) :
 (q7u op t xo yo (.slice A n c) (.slice none 0 0)).run P w=.ok (.bool (match op with|.eql=>A.isNone|_=>!A.isNone)) w:=by
 have:=z8r (P:=P) 9999 t e A n c h w
 rcases hop with rfl|rfl
 ·simp only[q7u,eqGuard,binOp,Op.equal,Op.maxDepth]
  simp[this]
 ·simp only[q7u,eqGuard,binOp,Op.equal,Op.maxDepth]
  simp[this]
theorem u0t {op:BinOp}{t:TypeId}{xo yo:Operand}{x:AV}{vx:Value}{K:Value→Prop}(hT:TOk P T)(h:y0v T op t x K)(hx:ARep w I ι x vx) :
 ∃ v,K v∧v.oneCell'=true∧(q7u op t xo yo vx (.slice none 0 0)).run P w=.ok v w:=by
 unfold y0v at h
 obtain⟨ti,hti,h⟩:=V0 h
 obtain⟨i,d,z,h1,h2,h3,h4,h5,h6,h7,h8⟩:=tok hT hti
 split at h
 ·rename_i e he
  rw[he]at h4
  obtain rfl:=q0s h4
  have psl:∀ {sz:Nat} {xs:List (List PV)},ARep w I ι (.p (.sl sz xs)) vx→∃ A n c,vx=.slice A n c∧(A.isNone=true→xs=[]):=fun hx=>by
   cases z3f hx with
   |sl sz xs A c f hc hl hA hr=>
    refine⟨A,_,c,rfl,fun hn=>?_⟩
    rcases hA with h|⟨b,o,rfl,_⟩
    ·exact h
    ·simp at hn
  have pms:∀ {b sz off len:Nat},ARep w I ι (.msl b sz off len) vx→∃ A n c,vx=.slice A n c∧(A.isNone=true→len=0):=fun hx=>by
   cases hx with
   |msl=>exact⟨_,_,_,rfl,fun h=>by simp at h⟩
   |msl0=>exact⟨_,_,_,rfl,fun _=>rfl⟩
  split at h
  ·obtain⟨A,n,c,rfl,hA⟩:=psl hx
   exact⟨_,h A.isNone hA,rfl,q3k h2 (.inl rfl) w⟩
  ·obtain⟨A,n,c,rfl,hA⟩:=psl hx
   exact⟨_,h (!A.isNone) (fun e=>hA (by simpa using e)),rfl,q3k h2 (.inr rfl) w⟩
  ·obtain⟨A,n,c,rfl,hA⟩:=pms hx
   exact⟨_,h A.isNone hA,rfl,q3k h2 (.inl rfl) w⟩
  ·obtain⟨A,n,c,rfl,hA⟩:=pms hx
   exact⟨_,h (!A.isNone) (fun e=>hA (by simpa using e)),rfl,q3k h2 (.inr rfl) w⟩
  ·rw[Y9 hx]
   exact⟨_,h,rfl,q3k h2 (.inl rfl) w⟩
  ·rw[Y9 hx]
   exact⟨_,h,rfl,q3k h2 (.inr rfl) w⟩
  ·exact h.elim
 ·exact h.elim
theorem u0u {op:BinOp}{t yt:TypeId}{x y:Operand}(hT:TOk P T)(ho:o.op=.binOp op t x y yt)(hs:SimH w I ι H)(hx:ARep w I ι (ev x) (a.eval x))(hy:ARep w I ι (ev y) (a.eval y))
 (h:v1v P T op t x y (ev x) (ev y) fun v=>K (.p (.raw v)) H) (hn:Nx w I ι H K fun v w'=>next (a.put o.dst v) w'):o.wp P a w next Q:=by
 have key:∃ v,K (.p (.raw v)) H∧v.oneCell'=true∧(q7u op t x y (a.eval x) (a.eval y)).run P w=.ok v w:=by
  unfold v1v at h
  split at h
  ·exact u0t hT h hx
  ·exact u0s hT h hx hy
 obtain⟨v,h1,h1',h2⟩:=key
 refine W3 (v:=v) (w':=w) ?_ (hn.here hs h1 (.p (.raw v h1')))
 unfold q7u at h2
 simp only[execOp,ho,Sem.run_bind]at h2 ⊢
 rw[h2];rfl
theorem u2g {op:UnOp}{t:TypeId}{x:Operand}(ho:o.op=.unOp op t x)(hs:SimH w I ι H)(hx:ARep w I ι (ev x) (a.eval x))
 (h:unK op (ev x) fun v=>K (.p (.raw v)) H) (hn:Nx w I ι H K fun v w'=>next (a.put o.dst v) w'):o.wp P a w next Q:=by
 unfold unK at h
 split at h
 ·rename_i b e
  rw[e]at hx
  have h1:=Y9 hx
  exact W3 (v:=.bool !b) (w':=w) (by simp[execOp,ho,h1,unary_not]) (hn.here hs h (.p (.raw _ rfl)))
 ·rename_i k n e
  rw[e]at hx
  have h1:=Y9 hx
  exact W3 (v:=.int k (k.wrap (0 - n))) (w':=w) (by simp[execOp,ho,h1,unary_neg,Op.intArith]) (hn.here hs h (.p (.raw _ rfl)))
 ·exact h.elim
theorem w1d {src dst:TypeId}{x:Operand}(hT:TOk P T)(ho:o.op=.convert src dst x)(hs:SimH w I ι H)(hx:ARep w I ι (ev x) (a.eval x))
 (hstr:∀ e,(W7 (T e) fun ei=>match ei.d with
  |.int .u8=>chk (ei.size==1) (W7 (z8k H 1 (ev x)) fun ys=>∃ bs:List UInt8,ys=bs.map (fun b=>[PV.raw (.int .u8 b.toNat)])∧K (.p (.raw (.string ⟨bs.toArray⟩))) H)
  |_=>False)→P.underlying src=some (.slice e)→P.underlying dst=some .string→o.wp P a w next Q)
 {C:CallA} (h:aop P T C ev H K (.convert src dst x)) (hn:Nx w I ι H K fun v w'=>next (a.put o.dst v) w'):o.wp P a w next Q:=by
 simp only[aop,opV,J8,List.map_cons,List.map_nil,on1]at h
 obtain⟨s,h1,h⟩:=V0 h
 obtain⟨t,h2,h⟩:=V0 h
 obtain⟨_,d,_,_,hd,_,e4,_⟩:=tok hT h1
 obtain⟨_,d',_,_,hd',_,e4',_⟩:=tok hT h2
 unfold x5p at h
 split at h
 ·rename_i k kd _ n q1 q2 h3
  rw[q1]at e4
  rw[q2]at e4'
  obtain rfl:=z8q e4
  obtain rfl:=z8q e4'
  rw[h3]at hx
  have hv:=Y9 hx
  refine W3 (v:=_) (w':=w) ?_ (hn.here hs h (.p (.raw _ rfl)))
  simp[execOp,ho,hv,convert,run_underlying hd,run_underlying hd',Conv.intToInt]
 ·rename_i q1 q2
  rw[q1]at e4
  rw[q2]at e4'
  obtain rfl:=q0s e4
  obtain rfl:=q8v e4'
  exact hstr _ h hd hd'
 ·exact h.elim
theorem x5u {fn:Fn}{first caps:Array Operand}(ho:o.op=.makeFunc fn first caps)(hs:SimH w I ι H)(hx:∀ x∈caps.toList,ARep w I ι (ev x) (a.eval x))
 (h:chk first.isEmpty (K (.clo fn (caps.toList.map ev)) H)) (hn:Nx w I ι H K fun v w'=>next (a.put o.dst v) w'):o.wp P a w next Q:=by
 obtain⟨h1,h2⟩:=J4 h
 have h1:first = #[]:=by simpa using h1
 subst h1
 refine W3 (v:=.func fn #[] (caps.map a.eval)) (w':=w) (by simp[execOp,ho,Instr.makeFunc]) (hn.here hs h2 ?_)
 refine .clo fn _ _ (by simp) (fun i u hu=>?_)
 simp only[List.getElem?_map,Option.map_eq_some_iff]at hu
 obtain⟨x,hx',rfl⟩:=hu
 rw[U7,Array.toList_map,k0v,k1z,hx']
 exact hx x (k2x hx')
theorem w1e {fn:Fn}{first caps:Array Operand}(ho:o.op=.makeFunc fn first caps)(hs:SimH w I ι H)(hx:∀ x∈first.toList,ARep w I ι (ev x) (a.eval x))(hc:caps = #[])
 (h:K (.mth fn (first.toList.map ev)) H) (hn:Nx w I ι H K fun v w'=>next (a.put o.dst v) w'):o.wp P a w next Q:=by
 subst hc
 refine W3 (v:=.func fn (first.map a.eval) #[]) (w':=w) (by simp[execOp,ho,Instr.makeFunc]) (hn.here hs h ?_)
 refine .mth fn _ _ (by simp) (fun i u hu=>?_)
 simp only[List.getElem?_map,Option.map_eq_some_iff]at hu
 obtain⟨x,hx',rfl⟩:=hu
 rw[U7,Array.toList_map,k0v,k1z,hx']
 exact hx x (k2x hx')
theorem w1f {x:Operand}{i:Nat}(ho:o.op=.extract x i)(hs:SimH w I ι H)(hx:ARep w I ι (ev x) (a.eval x))
 {C:CallA} (h:aop P T C ev H K (.extract x i)) (hn:Nx w I ι H K fun v w'=>next (a.put o.dst v) w'):o.wp P a w next Q:=by
 simp only[aop,opV,J8,List.map_cons,List.map_nil,on1]at h
 split at h
 ·rename_i l hl
  obtain⟨u,h1,h2⟩:=V0 h
  rw[hl]at hx
  generalize hv:a.eval x=v at hx
  cases hx with
  |tup l vs hn' hr=>
   have hlt:i<vs.size:=by rw[hn'];exact(k0t.1 h1).1
   have:=hr i u h1
   rw[k2q,Array.getElem?_eq_getElem hlt]at this
   exact W3 (v:=vs[i]) (w':=w) (by simp[execOp,ho,hv,Instr.extract,hlt]) (hn.here hs h2 this)
 ·exact h.elim
theorem x5v {x:Operand}(ho:o.op=.nilCheck x)(hs:SimH w I ι H)(hx:ARep w I ι (ev x) (a.eval x))
 (h:chk (y2r (ev x)) (K (ev x) H)) (hn:Nx w I ι H K fun v w'=>next (a.put o.dst v) w'):o.wp P a w next Q:=by
 obtain⟨h1,h2⟩:=J4 h
 obtain⟨ad,hv⟩:=x2w h1 hx
 exact W3 (v:=a.eval x) (w':=w) (by simp[execOp,ho,hv]) (hn.here hs h2 hx)
theorem y5c {f:Field}{i:TypeInfo}(hi:P.info? f.type=some i)(h0:0<i.size)(ad:Addr)(w:World):(fieldPlace ad f).run P w=.ok (ad.add f.offset) w:=by
 have:i.size≠0:=by omega
 simp[fieldPlace,q0e hi,this]
theorem x0a {x:AV}{v:Value}{n:Nat}{K:AV→Prop}(h:y4y x n K)(hx:ARep w I ι x v):∃ u ad,K u∧v=.pointer (some ad)∧ARep w I ι u (.pointer (some (ad.add n))):=by
 unfold y4y at h
 split at h
 ·rename_i b off
  cases hx with
  |ref _ _ B hB=>exact⟨_,_,h,rfl,by rw[Addr.add_mid];exact .ref _ _ _ hB⟩
 ·rename_i b sz i off
  cases hx with
  |elr _ _ _ _ B hB=>exact⟨_,_,h,rfl,by rw[Addr.add_mid,Nat.add_assoc];exact .elr _ _ _ _ _ hB⟩
 ·rename_i cs
  cases z3f hx with
  |box cs b o f hI hc hr=>
   refine⟨_,_,h,rfl,?_⟩
   rw[Addr.add_mid]
   refine .p (.box _ b (o+n) (fun i=>f (n+i)) hI (fun i hi=>?_) (fun i u hu=>?_))
   ·rw[Nat.add_assoc];exact hc (n+i) (by simp at hi;omega)
   ·rw[List.getElem?_drop]at hu;exact hr (n+i) u hu
 ·exact h.elim
theorem x2x {s:TypeId}{x:Operand}{f:Nat}(hT:TOk P T)(ho:o.op=.fieldAddr s x f)(hs:SimH w I ι H)(hx:ARep w I ι (ev x) (a.eval x))
 {C:CallA} (h:aop P T C ev H K (.fieldAddr s x f)) (hn:Nx w I ι H K fun v w'=>next (a.put o.dst v) w'):o.wp P a w next Q:=by
 simp only[aop,opV,J8,List.map_cons,List.map_nil,on1]at h
 obtain⟨ti,hti,h⟩:=V0 h
 obtain⟨i,d,z,h1,h2,h3,h4,h5,h6,h7,h8⟩:=tok hT hti
 split at h
 ·rename_i fs hfs
  obtain⟨p,hp,h⟩:=V0 h
  obtain⟨fi,hfi,h⟩:=V0 h
  obtain⟨c1,c2⟩:=J4 h
  have c1:=k0z c1
  rw[hfs]at h4
  obtain⟨F,rfl,hF⟩:=z3g h4
  subst hF
  simp only[List.getElem?_map,Option.map_eq_some_iff]at hp
  obtain⟨fl,hfl,rfl⟩:=hp
  obtain⟨i',d',z',g1,_,_,_,g5,_⟩:=tok hT hfi
  obtain⟨u,ad,k1,k2,k3⟩:=x0a c2 hx
  refine W3 (v:=.pointer (some (ad.add fl.offset))) (w':=w) ?_ (hn.here hs k1 k3)
  have hfl':F[f]?=some fl:=by rw[← Array.getElem?_toList];exact hfl
  simp[execOp,ho,k2,Instr.fieldAt,run_underlying h2,hfl',Instr.sureAddr,y5c g1 (by omega)]
 ·exact h.elim
theorem x5w {d:TypeDesc}{t:TypeId}{i:TypeInfo}(hi:P.info? t=some i)(hd:P.underlying t=some d){l:List AV}{cs:Array Value}(hn:cs.size=l.length)(hr:∀ i u,l[i]?=some u→ARep w I ι u (cs.getD i undef)){off:Nat}
 (hle:off+i.size≤l.length) (hrow:q0x (q4b d)=true∨i.size=1):∃ v,(part t cs off).run P w=.ok v w∧ARep w I ι (q7t (q4b d) ((l.drop off).take i.size)) v:=by
 cases hR:q0x (q4b d) with
 |true=>
  have hd':d.isRow=true:=by rw[← q5y];exact hR
  have hagg:(isAgg t).run P w=.ok true w:=by
   unfold isAgg;rw[Sem.run_bind,run_underlying hd w];cases d <;> simp_all
  refine⟨.agg (cs.extract off (off+i.size)),by simp[part,hagg,q0e hi],?_⟩
  have:∀ us,q7t (q4b d) us=.agg us:=by intro us;cases hdd:q4b d <;> simp[hdd,q0x]at hR <;> rfl
  rw[this]
  refine .agg _ _ (by simp;omega) (fun j u hu=>?_)
  have hlt:j<i.size:=by
   have:=(k0t.1 hu).1
   simp at this;omega
  rw[List.getElem?_take_of_lt hlt,List.getElem?_drop]at hu
  have:=hr (off+j) u hu
  rw[k2q]at this ⊢
  have e:(cs.extract off (off+i.size))[j]?=cs[off+j]?:=by
   rw[Array.getElem?_extract];rw[if_pos (by omega)]
  rw[e];exact this
 |false=>
  have hs1:i.size=1:=by rcases hrow with h|h;rw[hR]at h;exact absurd h (by simp);exact h
  have hd':d.isRow=false:=by rw[← q5y];exact hR
  have hagg:(isAgg t).run P w=.ok false w:=by
   unfold isAgg;rw[Sem.run_bind,run_underlying hd w];cases d <;> simp_all
  have hlt:off<cs.size:=by omega
  refine⟨cs[off],by simp[part,hagg,hlt],?_⟩
  have:∀ us,q7t (q4b d) us=us.headD .top:=by intro us;cases hdd:q4b d <;> simp[hdd,q0x]at hR <;> rfl
  rw[this,hs1]
  have hlt':off<l.length:=by omega
  have e:((l.drop off).take 1).headD .top=l[off]:=by rw[List.drop_eq_getElem_cons hlt'];rfl
  rw[e]
  have:=hr off l[off] (k0w hlt')
  rw[k2q,Array.getElem?_eq_getElem hlt]at this
  exact this
theorem v2a {s:TypeId}{x:Operand}{f:Nat}(hT:TOk P T)(ho:o.op=.field s x f)(hs:SimH w I ι H)(hx:ARep w I ι (ev x) (a.eval x))
 {C:CallA} (h:aop P T C ev H K (.field s x f)) (hn:Nx w I ι H K fun v w'=>next (a.put o.dst v) w'):o.wp P a w next Q:=by
 simp only[aop,opV,J8,List.map_cons,List.map_nil,on1]at h
 obtain⟨ti,hti,h⟩:=V0 h
 obtain⟨i,d,z,h1,h2,h3,h4,h5,h6,h7,h8⟩:=tok hT hti
 split at h
 ·rename_i fs hfs
  obtain⟨p,hp,h⟩:=V0 h
  obtain⟨fi,hfi,h⟩:=V0 h
  rw[hfs]at h4
  obtain⟨F,rfl,hF⟩:=z3g h4
  subst hF
  simp only[List.getElem?_map,Option.map_eq_some_iff]at hp
  obtain⟨fl,hfl,rfl⟩:=hp
  obtain⟨i',d',z',g1,g2,_,g4,g5,_⟩:=tok hT hfi
  split at h
  ·rename_i l hl
   obtain⟨c1,c2⟩:=J4 h
   rw[k1u]at c1
   obtain⟨c1,c3⟩:=c1
   have c1:=k0z c1
   rw[hl]at hx
   generalize hv:a.eval x=v at hx
   cases hx with
   |agg l vs hn' hr=>
    rw[g4,g5]at c2
    rw[g5]at c1 c3
    obtain⟨v,k1,k2⟩:=x5w (w:=w) g1 g2 hn' hr (off:=fl.offset) (by simpa using c1) (by rw[g4]at c3;simpa using c3)
    refine W3 (v:=v) (w':=w) ?_ (hn.here hs c2 k2)
    have hfl':F[f]?=some fl:=by rw[← Array.getElem?_toList];exact hfl
    simp[execOp,ho,hv,Instr.field,run_underlying h2,hfl',asAgg,k1]
  ·exact h.elim
 ·exact h.elim
end
end Go.Proofs.YtkjklhcfgbaceaaGreat.AL
