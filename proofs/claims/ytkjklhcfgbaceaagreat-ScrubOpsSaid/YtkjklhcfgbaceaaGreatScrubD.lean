/- A part of the proof. -/
import Derived.Test.YtkjklhcfgbaceaaGreatScrubC
open Option.some renaming inj→k0x
open List renaming getElem?_eq_getElem→k0w,getD_eq_getElem?_getD→k0v,getElem?_eq_some_iff→k0t,getElem?_append_left→k0s,getElem?_map→k1z,length_append→k1y,getElem_mem→k1w,mem_of_getElem?→k2x
open Nat renaming le_refl→k1v
open Bool renaming and_eq_true→k1u
open Array renaming getD_eq_getD_getElem?→k2q
namespace Go.Proofs.YtkjklhcfgbaceaaGreat.AL
open Go Go.RowKit
def Q9 (r:AV)(H:List ABlk):AV→List ABlk→Prop:=fun r' H'=>r'=r∧H'=H
def z2z:List Nat→Nat→Bool
 |[],_=>false
 |p :: r,b=>match Nat.beq p b with
  |true=>true
  |false=>z2z r b
def q4i:List Nat→Bool
 |[]=>true
 |p :: r=>!z2z r p&&q4i r
theorem y5n:∀ {ps:List Nat} {b:Nat},z2z ps b=true↔b∈ps
 |[],b=>by simp[z2z]
 |p :: r,b=>by
  unfold z2z
  cases e:Nat.beq p b with
  |true=>have:=Nat.eq_of_beq_eq_true e;simp[this]
  |false=>
   have hne:p≠b:=fun h=>by subst h;simp at e
   simp only[List.mem_cons]
   rw[y5n]
   constructor
   ·exact .inr
   ·rintro(h|h)
    ·exact absurd h.symm hne
    ·exact h
theorem q6q:∀ {ps:List Nat},q4i ps=true→ps.Nodup
 |[],_=>List.nodup_nil
 |p :: r,h=>by
  simp only[q4i,Bool.and_eq_true,Bool.not_eq_true']at h
  rw[List.nodup_cons]
  refine⟨fun hm=>?_,q6q h.2⟩
  rw[y5n.2 hm]at h
  simp at h
/-! Calls of one answer,and such as leave the blocks. -/
def u2i (P:Program)(f:FuncId)(args:List AV)(H:List ABlk)(K:AV→List ABlk→Prop):Prop:=∃ r H',AF P f args H (Q9 r H')∧K r H'
def u2j (P:Program)(f:FuncId)(args:List AV)(H:List ABlk)(K:AV→List ABlk→Prop):Prop:=∃ r,AF P f args H (Q9 r H)∧K r H
def noY:Nat→List AV→List ABlk→(AV→List ABlk→Prop)→Prop:=fun _ _ _ _=>False
def u3k (P:Program)(b:Nat)(args:List AV)(H:List ABlk)(K:AV→List ABlk→Prop):Prop:=∃ r H',AY P b args H (fun r1 H1=>r1=r∧H1=H')∧K r H'
def z7b (P:Program):CallA:=⟨u2i P,u3k P⟩
def q7d (P:Program):CallA:=⟨u2j P,noY⟩
section
variable {P:Program} {T:J1}
theorem u2k:DetC (z7b P):=
 ⟨fun f args H K hk=>by
  obtain⟨r,H',h1,h2⟩:=hk
  exact⟨(r,H'),fun K' hk'=>⟨r,H',h1,hk'⟩,h2⟩,fun b args H K hk=>by
  obtain⟨r,H',h1,h2⟩:=hk
  exact⟨(r,H'),fun K' hk'=>⟨r,H',h1,hk'⟩,h2⟩⟩
theorem v7x:DetC (q7d P):=
 ⟨fun f args H K hk=>by
  obtain⟨r,h1,h2⟩:=hk
  exact⟨(r,H),fun K' hk'=>⟨r,h1,hk'⟩,h2⟩,fun _ _ _ K hk=>hk.elim⟩
theorem x0m {C C':CallA}(hf:∀ f args H K,C.fn f args H K→C'.fn f args H K)(hy:∀ b args H K,C.yld b args H K→C'.yld b args H K){H:List ABlk}{K:AV→List ABlk→Prop}{o:Op}{us:List AV}
 (h:opV P T C H K o us):opV P T C' H K o us:=by
 cases o <;> try exact h
 case call c=>
  simp only[opV]at h ⊢
  split at h
  ·cases us with
   |nil=>exact h
   |cons f r=>
    simp only[onC,z4z]at h ⊢
    split at h
    ·exact hf _ _ _ _ h
    ·exact hf _ _ _ _ h
    ·exact hy _ _ _ _ h
    ·exact hf _ _ _ _ h
    ·exact h
  ·exact h
  ·exact h
theorem v9v {ev:Operand→AV}{H:List ABlk}{K:AV→List ABlk→Prop}{o:Op}(h:aop P T (z7b P) ev H K o):aop P T (y2u P) ev H K o:=
 x0m (C:=z7b P) (C':=y2u P) (fun f args H K h=>by obtain⟨r,H',h1,h2⟩:=h;exact⟨_,h1,by rintro _ _ ⟨rfl,rfl⟩;exact h2⟩) (fun b args H K h=>by obtain⟨r,H',h1,h2⟩:=h;exact⟨_,h1,by rintro _ _ ⟨rfl,rfl⟩;exact h2⟩) h
theorem v2v {ev:Operand→AV}{H:List ABlk}{K:AV→List ABlk→Prop}{o:Op}(h:aop P T (q7d P) ev H K o):aop P T (y2u P) ev H K o:=
 x0m (C:=q7d P) (C':=y2u P) (fun f args H K h=>by obtain⟨r,h1,h2⟩:=h;exact⟨_,h1,by rintro _ _ ⟨rfl,rfl⟩;exact h2⟩) (fun b args H K h=>False.elim h) h
def x3h:Op→Bool
 |.move _|.assign _|.pick ..|.build ..|.load ..|.binOp ..|.unOp ..|.convert ..|.makeFunc ..|.slice ..|.fieldAddr ..|.field ..|.indexAddr ..|.index ..|.extract ..|.nilCheck _|.lookup ..=>true
 |.call c=>match c.callee with
  |.value _=>true
  |.builtin b=>match b with|.len|.max|.min=>true|_=>false
  |_=>false
 |_=>false
def y1c:Op→Bool
 |.makeSlice ..|.buildSlice ..|.box ..|.alloc _=>true
 |_=>false
def z6i:Op→Bool
 |.move _|.assign _|.pick ..|.build ..|.binOp ..|.unOp ..|.makeFunc ..|.slice ..|.fieldAddr ..|.field ..|.indexAddr ..|.index ..|.extract ..|.nilCheck _=>true
 |.call c=>match c.callee with
  |.builtin b=>match b with|.len|.max|.min=>true|_=>false
  |_=>false
 |_=>false
theorem x6g {C:CallA}{H H2:List ABlk}{K:AV→List ABlk→Prop}{o:Op}{us:List AV}(ho:z6i o=true):opV P T C H K o us=opV P T C H2 (fun u _=>K u H) o us:=by
 cases o <;> simp only[z6i,Bool.false_eq_true]at ho <;> try rfl
 case call c=>
  obtain⟨cal,args,ts⟩:=c
  cases cal with
  |value f=>simp at ho
  |invoke r m=>simp at ho
  |builtin b=>
   simp only[opV]
   generalize ts.toList=tl
   cases b <;> simp at ho
   all_goals
    match us,tl with
    |[],_=>rfl
    |[x],[]=>rfl
    |[x],[t]=>rfl
    |[x],t :: t' :: r=>rfl
    |[x,y],_=>rfl
    |x :: y :: z :: r,_=>rfl
theorem v2w {o:Op}(h:y1c o=true):z6i o=false:=by cases o <;> first|rfl|simp[y1c]at h
theorem x3i {α:Type}{F:(α→Prop)→Prop}(hd:Det F){K:α→Prop}(h:F K):∃ x,K x:=by
 obtain⟨x,_,hx⟩:=hd K h
 exact⟨x,hx⟩
theorem x3j {H:List ABlk}{K:AV→List ABlk→Prop}{o:Op}{us:List AV}(hd:x5q o=true)(ho:x3h o=true)(h:opV P T (q7d P) H K o us):∃ r,K r H:=by
 by_cases hf:z6i o=true
 ·rw[x6g (H2:=[]) hf]at h
  obtain⟨x,hx⟩:=x3i (z5d (P:=P) (T:=T) v7x [] o us hd) (K:=fun x=>K x.1 H) h
  exact⟨x.1,hx⟩
 ·cases o <;> simp[z6i]at hf <;> simp[x3h]at ho
  case load t x=>
   obtain⟨us,hk⟩:=x3i (q5b us (fun a=>Y0 (T t) fun ti _=>X4 (q0x ti.d||ti.size==1) fun _=>q0z (x6a H a ti.size) (q7t ti.d))) (K:=fun u=>K u H) h
   exact⟨_,hk⟩
  case convert s d x=>
   simp only[opV,on1]at h
   split at h
   ·obtain⟨s,_,h⟩:=V0 h
    obtain⟨d,_,h⟩:=V0 h
    unfold x5p at h
    split at h
    ·exact⟨_,h⟩
    ·obtain⟨ei,_,h⟩:=V0 h
     split at h
     ·obtain⟨_,h⟩:=J4 h
      obtain⟨ys,_,bs,_,h⟩:=V0 h
      exact⟨_,h⟩
     ·exact h.elim
    ·exact h.elim
   ·exact h.elim
  case lookup t m k ok=>
   simp only[opV,on2]at h
   split at h
   ·obtain⟨x,hx⟩:=x3i (y5j _ _ _ _ _ _ _) h
    exact⟨_,hx⟩
   ·exact h.elim
  case call c=>
   simp only[opV]at h
   split at h
   ·unfold onC at h
    split at h
    ·unfold z4z at h
     split at h
     ·obtain⟨r,_,h⟩:=h;exact⟨r,h⟩
     ·obtain⟨r,_,h⟩:=h;exact⟨r,h⟩
     ·exact h.elim
     ·obtain⟨r,_,h⟩:=h;exact⟨r,h⟩
     ·exact h.elim
    ·exact h.elim
   ·rename_i b hb
    simp only[hb]at ho hf
    cases b <;> simp at ho hf
   ·exact h.elim
theorem x3k {C:CallA}{H:List ABlk}{K:AV→List ABlk→Prop}{o:Op}{us:List AV}(ho:y1c o=true)(h:opV P T C H K o us):∃ r blk,K r (H++[blk]):=by
 cases o <;> simp[y1c]at ho
 case alloc t=>
  obtain⟨ti,_,h⟩:=V0 h
  exact⟨_,_,h⟩
 case box t x=>
  simp only[opV,on1]at h
  split at h
  ·obtain⟨l,_,h⟩:=V0 h
   exact⟨_,_,h⟩
  ·exact h.elim
 case buildSlice t n ps=>
  simp only[opV]at h
  obtain⟨ti,_,h⟩:=V0 h
  split at h
  ·obtain⟨ei,_,h⟩:=V0 h
   obtain⟨_,h⟩:=J4 h
   obtain⟨l,_,h⟩:=V0 h
   exact⟨_,_,h⟩
  ·exact h.elim
 case makeSlice t l c=>
  simp only[opV,on2]at h
  split at h
  ·obtain⟨ti,_,h⟩:=V0 h
   split at h
   ·obtain⟨ei,_,h⟩:=V0 h
    obtain⟨_,h⟩:=J4 h
    split at h
    ·exact⟨_,_,h.2⟩
    ·exact h.elim
   ·exact h.elim
  ·exact h.elim
theorem w5e (n:Nat)(H:List ABlk)(u:AV):Det fun K:AV × List ABlk→Prop=>z3k n H u fun u H'=>K (u,H'):=by
 intro K hk
 unfold z3k at hk ⊢
 split at hk
 ·split at hk
  ·exact X4 _ (fun _=>q0g _ (Z8 _)) K hk
  ·exact hk.elim
 ·split at hk
  ·exact X4 _ (fun _=>Y0 _ fun _ _=>Z8 _) K hk
  ·exact hk.elim
 ·exact hk.elim
theorem w1w {n:Nat}{H:List ABlk}{u:AV}{K:AV→List ABlk→Prop}(h:z3k n H u K):∃ u',K u' (H.take (H.length - 1)):=by
 unfold z3k at h
 split at h
 ·split at h
  ·obtain⟨c,_,h⟩:=J4 h
   simp only[Bool.and_eq_true,Nat.beq_eq]at c
   rw[← c.1.1.1,Nat.add_sub_cancel]
   exact⟨_,h⟩
  ·exact h.elim
 ·split at h
  ·obtain⟨c,h⟩:=J4 h
   obtain⟨ps,_,h⟩:=V0 h
   simp only[Bool.and_eq_true,Nat.beq_eq]at c
   rw[← c.1.1,Nat.add_sub_cancel]
   exact⟨_,h⟩
  ·exact h.elim
 ·exact h.elim
def z7c (P:Program)(o:Oper)(ev:Operand→AV)(H:List ABlk)(u:AV)(H':List ABlk):Prop:=
 ∀ {ro:Option Nat} {w:World} {I:Nat→Prop} {ι:Nat→Option Nat} {a:Act} {next:Act→World→Prop} {Q:Exit→Act→World→Prop},SimH w I ι H→(∀ x∈J8 o.op,ARep w I ι (ev x) (a.eval x)) →
  Nx w I ι H (fun r' H2=>r'=u∧H2=H') (fun v w'=>next (a.put o.dst v) w')→o.wpIn (fen ro) 0 P a w next Q
theorem x3m {o:Oper}{ev:Operand→AV}{H H':List ABlk}{u:AV}(hT:TOk P T)(h:aop P T (y2u P) ev H (fun r' H2=>r'=u∧H2=H') o.op):z7c P o ev H u H':=
 fun hs hx hn=>y1b hT hs hx h hn
theorem x6h {o:Oper}{ev:Operand→AV}{H H':List ABlk}{u:AV}(hT:TOk P T)(h:aop P T (y2u P) ev H (fun r' H2=>z3k H.length H2 r' fun r2 H3=>r2=u∧H3=H') o.op):z7c P o ev H u H':=
 fun hs hx hn=>y1b hT hs hx h (fun v w' r H2 I' ι' hK hr hs' hx'=>by
  obtain⟨u2,H3,I2,ι2,hK,hr2,hs2,hx2⟩:=v2t hs' hr hK
  exact hn v w' u2 H3 I2 ι2 hK hr2 hs2 (hx'.trans hx2))
theorem x6i {ev:Operand→AV}{H:List ABlk}{K:AV→List ABlk→Prop}{o:Oper}(hT:TOk P T)(hd:x5q o.op=true)(h:aop P T (z7b P) ev H K o.op):∃ u H',z7c P o ev H u H'∧K u H':=by
 obtain⟨x,h1,h2⟩:=z5d (P:=P) (T:=T) u2k H o.op _ hd (fun x=>K x.1 x.2) h
 exact⟨x.1,x.2,x3m hT (v9v (h1 (fun y=>y.1=x.1∧y.2=x.2) ⟨rfl,rfl⟩)),h2⟩
theorem w1x {ev:Operand→AV}{H:List ABlk}{K:AV→List ABlk→Prop}{o:Oper}(hT:TOk P T)(hd:x5q o.op=true)(h:aop P T (z7b P) ev H (fun u H'=>z3k H.length H' u K) o.op):∃ u H',z7c P o ev H u H'∧K u H':=by
 obtain⟨x,h1,h2⟩:=z5d (P:=P) (T:=T) u2k H o.op _ hd (fun x=>z3k H.length x.2 x.1 K) h
 obtain⟨y,h3,h4⟩:=w5e _ _ _ (fun y=>K y.1 y.2) h2
 exact⟨y.1,y.2,x6h hT (v9v (h1 (fun x=>z3k H.length x.2 x.1 fun r2 H3=>r2=y.1∧H3=y.2) (h3 (fun z=>z.1=y.1∧z.2=y.2) ⟨rfl,rfl⟩))),h4⟩
theorem y5p {ev:Operand→AV}{H:List ABlk}{K:AV→Prop}{o:Oper}(hT:TOk P T)(hd:x5q o.op=true)(ho:x3h o.op=true)(h:aop P T (q7d P) ev H (fun u _=>K u) o.op):∃ u,z7c P o ev H u H∧K u:=by
 obtain⟨x,h1,h2⟩:=z5d (P:=P) (T:=T) v7x H o.op _ hd (fun x=>K x.1) h
 have h3:=h1 (fun y=>y.1=x.1∧y.2=x.2) ⟨rfl,rfl⟩
 obtain⟨r,_,h4⟩:=x3j hd ho h3
 have h4:H=x.2:=h4
 rw[← h4]at h3
 exact⟨x.1,x3m hT (v2v h3),h2⟩
theorem x0n {ev:Operand→AV}{H:List ABlk}{K:AV→Prop}{o:Oper}(hT:TOk P T)(hd:x5q o.op=true)(ho:y1c o.op=true)(h:aop P T (q7d P) ev H (fun u H'=>z3k H.length H' u fun u _=>K u) o.op):∃ u,z7c P o ev H u H∧K u:=by
 obtain⟨x,h1,h2⟩:=z5d (P:=P) (T:=T) v7x H o.op _ hd (fun x=>z3k H.length x.2 x.1 fun u _=>K u) h
 obtain⟨y,h3,h4⟩:=w5e _ _ _ (fun y=>K y.1) h2
 obtain⟨r,blk,_,h5⟩:=x3k ho (h1 (fun y=>y.1=x.1∧y.2=x.2) ⟨rfl,rfl⟩)
 have h5:H++[blk]=x.2:=h5
 have h6:=h3 (fun z=>z.1=y.1∧z.2=y.2) ⟨rfl,rfl⟩
 obtain⟨_,_,h7⟩:=w1w h6
 have h7:x.2.take (x.2.length - 1)=y.2:=h7
 have h8:y.2=H:=by rw[← h7,← h5];simp
 rw[h8]at h6
 exact⟨y.1,x6h hT (v2v (h1 (fun x=>z3k H.length x.2 x.1 fun r2 H3=>r2=y.1∧H3=H) h6)),h4⟩
theorem w7n {C:CallA}{ev:Operand→AV}{H:List ABlk}{K:AV→Prop}{o:Oper}(hT:TOk P T)(hd:x5q o.op=true)(hC:C=q7d P)(ho:z6i o.op=true)(h:aop P T C ev H (fun u _=>K u) o.op):∃ u,(∀ H2,z7c P o ev H2 u H2)∧K u:=by
 subst hC
 obtain⟨x,h1,h2⟩:=z5d (P:=P) (T:=T) v7x H o.op _ hd (fun x=>K x.1) h
 refine⟨x.1,fun H2=>x3m hT (v2v ?_),h2⟩
 have h3:=h1 (fun y=>y.1=x.1) rfl
 unfold aop
 rw[x6g (H2:=H) ho]
 exact(show (fun(u:AV) (_:List ABlk)=>u=x.1∧H2=H2)=(fun u _=>u=x.1) by funext u _;simp) ▸ h3
def y5q (acc:List Nat):List Edge→Nat→Nat
 |[],s=>s
 |e :: r,s=>match Region.binds .any e with
  |true=>y5q acc r ((s ||| 2 ^ e.on) ||| acc.getD e.on 0)
  |false=>y5q acc r s
def w5f:List Oper→List Nat→List Nat
 |[],acc=>acc
 |o :: r,acc=>w5f r (acc++[y5q acc o.after.toList 0])
def anc (ops:Array Oper):List Nat:=w5f ops.toList []
theorem z7d {acc:List Nat}:∀ {es:List Edge} {s j:Nat},(y5q acc es s).testBit j=true→s.testBit j=true∨∃ e∈es,Region.binds .any e=true∧(j=e.on∨(acc.getD e.on 0).testBit j=true)
 |[],s,j,h=>.inl h
 |e :: r,s,j,h=>by
  simp only[y5q]at h
  cases hb:Region.binds .any e with
  |false=>
   rw[hb]at h
   rcases z7d h with h|⟨e',he',h⟩
   ·exact .inl h
   ·exact .inr ⟨e',List.mem_cons_of_mem _ he',h⟩
  |true=>
   rw[hb]at h
   rcases z7d h with h|⟨e',he',h⟩
   ·rw[Nat.testBit_or,Nat.testBit_or,Bool.or_eq_true,Bool.or_eq_true]at h
    rcases h with (h|h)|h
    ·exact .inl h
    ·rw[Nat.testBit_two_pow]at h
     have h:e.on=j:=by simpa using h
     exact .inr ⟨e,List.mem_cons_self,hb,.inl h.symm⟩
    ·exact .inr ⟨e,List.mem_cons_self,hb,.inr h⟩
   ·exact .inr ⟨e',List.mem_cons_of_mem _ he',h⟩
def w5g (ops:Array Oper)(S:Nat→Prop):Prop:=∀ (i:Nat) (o:Oper),ops[i]?=some o→S i→∀ e∈o.after,Region.binds .any e=true→S e.on
theorem x6j {ops:Array Oper}{S:Nat→Prop}(hS:w5g ops S):∀ {l:List Oper} {acc:List Nat},(∀ (j:Nat) (o:Oper),l[j]?=some o→ops[acc.length+j]?=some o)→(∀ i j,(acc.getD i 0).testBit j=true→S i→S j) →
 ∀ i j,((w5f l acc).getD i 0).testBit j=true→S i→S j
 |[],acc,_,h=>h
 |o :: r,acc,hl,h=>by
  simp only[w5f]
  refine x6j hS (fun j o' hj=>?_) (fun i j hb hi=>?_)
  ·have:=hl (j+1) o' (by simpa using hj)
   rw[k1y,List.length_singleton,Nat.add_assoc,Nat.add_comm 1 j];exact this
  ·rw[k0v]at hb
   rcases Nat.lt_trichotomy i acc.length with hlt|heq|hgt
   ·rw[k0s hlt,← k0v]at hb
    exact h i j hb hi
   ·subst heq
    rw[J9]at hb
    rcases z7d hb with hb|⟨e,he,hbe,hj⟩
    ·simp at hb
    ·have ho:=hl 0 o (by simp)
     have hse:=hS _ o ho hi e (by simpa using he) hbe
     rcases hj with rfl|hj
     ·exact hse
     ·exact h _ _ hj hse
   ·rw[List.getElem?_eq_none (by simp;omega)]at hb
    simp at hb
theorem v2x {ops:Array Oper}{S:Nat→Prop}(hS:w5g ops S){i j:Nat}(h:((anc ops).getD i 0).testBit j=true)(hi:S i):S j:=
 x6j hS (acc:=[]) (fun j o hj=>by simpa [← Array.getElem?_toList] using hj) (fun i j h=>by simp at h) i j h hi
theorem x3n (fr:Fr)(d:Option Tmp)(u:AV):(q7y fr d u).n=fr.n:=by cases d <;> rfl
theorem q7z {fr:Fr}{d:Option Tmp}{u:AV}{t:Nat}(h:d≠some t):W4 (q7y fr d u).l t=W4 fr.l t:=by
 cases d with
 |none=>rfl
 |some d=>exact V4 u fr.l (fun e=>h (by rw[e]))
section
variable {ops:Array Oper}
def v2y (l:List Operand):List Nat:=l.filterMap fun|.tmp t=>some t|_=>none
def q7p (ops:Array Oper)(o:Oper):List Nat:=v2y (J8 o.op)++(match o.guard with|some (j,_)=>((ops[j]?).bind (·.dst)).toList|none=>[])
def w5h (ops:Array Oper):Bool:=
 ops.toList.zipIdx.all fun(o,i)=>
  (o.after.toList.all fun e=>!(Region.binds .any e)||Nat.blt e.on i) &&
  (ops.toList.zipIdx.all fun(o',j)=>match o'.dst with
   |none=>true
   |some d=>(!((q7p ops o).contains d)||(Nat.blt j i&&o.after.toList.any fun e=>Region.binds .any e&&e.on==j)||i==j||(Nat.blt i j&&o'.after.toList.any fun e=>Region.binds .any e&&e.on==i))&&(i==j||o.dst != some d))
theorem y5r (h:w5h ops=true){i:Nat}{o:Oper}(ho:ops[i]?=some o) :
 (∀ e∈o.after,Region.binds .any e=true→e.on<i) ∧
 (∀ (j:Nat) (o':Oper) (d:Tmp),ops[j]?=some o'→o'.dst=some d→(d∈q7p ops o→(j<i∧∃ e∈o.after,Region.binds .any e=true∧e.on=j)∨(i≤j∧(i=j∨∃ e∈o'.after,Region.binds .any e=true∧e.on=i)))∧(i≠j→o.dst≠some d)):=by
 have mem:∀ {j:Nat} {o':Oper},ops[j]?=some o'→(o',j)∈ops.toList.zipIdx:=fun {j o'} hj=>by
  rw[List.mem_zipIdx_iff_getElem?,Array.getElem?_toList];exact hj
 have h1:=List.all_eq_true.1 h _ (mem ho)
 simp only[Bool.and_eq_true]at h1
 obtain⟨h1,h2⟩:=h1
 refine⟨fun e he hb=>?_,fun j o' d hj hd=>?_⟩
 ·have:=List.all_eq_true.1 h1 e (by simpa using he)
  rw[hb]at this
  simpa [Nat.blt_eq] using this
 ·have:=List.all_eq_true.1 h2 _ (mem hj)
  simp only[hd,Bool.and_eq_true]at this
  obtain⟨h3,h4⟩:=this
  refine⟨fun hm=>?_,fun hne he=>?_⟩
  ·rw[Bool.or_eq_true,Bool.or_eq_true,Bool.or_eq_true]at h3
   rcases h3 with ((h3|h3)|h3)|h3
   ·simp[hm]at h3
   ·rw[k1u]at h3
    obtain⟨h5,h6⟩:=h3
    obtain⟨e,he,hb⟩:=List.any_eq_true.1 h6
    rw[k1u]at hb
    exact .inl ⟨by simpa [Nat.blt_eq] using h5,e,by simpa using he,hb.1,by simpa using hb.2⟩
   ·have h3:i=j:=by simpa using h3
    exact .inr ⟨by omega,.inl h3⟩
   ·rw[k1u]at h3
    obtain⟨h5,h6⟩:=h3
    obtain⟨e,he,hb⟩:=List.any_eq_true.1 h6
    rw[k1u]at hb
    have h5:i<j:=by simpa [Nat.blt_eq] using h5
    exact .inr ⟨by omega,.inr ⟨e,by simpa using he,hb.1,by simpa using hb.2⟩⟩
  ·rw[Bool.or_eq_true]at h4
   rcases h4 with h4|h4
   ·simp at h4;exact hne h4
   ·rw[he]at h4;simp at h4
theorem q6i {fr fr':Fr}(h:z2p fr fr'){g:Option (Nat × Bool)}{c:Bool}(k:q5c ops fr g c):q5c ops fr' g c:=by
 unfold q5c at k ⊢
 split at k
 ·exact k
 ·obtain⟨d,g1,g2⟩:=k
  exact⟨d,g1,by rw[h.2];exact g2⟩
end
def z8t (an:List Nat):List Nat→Bool
 |[]=>true
 |a :: r=>match r with
  |[]=>true
  |b :: _=>(an.getD b 0).testBit a&&z8t an r
def y3j (an:List Nat)(i j:Nat):List Nat→Nat→Bool
 |[],_=>true
 |e :: r,q=>(!((an.getD i 0).testBit e)||Nat.blt q j)&&(!((an.getD e 0).testBit i)||Nat.ble j q)&&y3j an i j r (q+1)
def obJ (an:List Nat)(ef:List Nat)(i p:Nat)(f:List ABlk→Prop):List (List ABlk)→Nat→Prop→Prop
 |[],_,G=>G
 |H :: r,j,G=>match y3j an i j ef 0&&!(Nat.beq j p) with
  |true=>f H∧obJ an ef i p f r (j+1) G
  |false=>obJ an ef i p f r (j+1) G
def v2z (an:List Nat)(ef:List Nat)(hs:List (List ABlk)):List (Nat × Nat × (List ABlk→Prop))→Prop→Prop
 |[],G=>G
 |(i,p,f) :: r,G=>obJ an ef i p f hs 0 (v2z an ef hs r G)
def x3p:List Nat→Nat→Bool
 |e :: _,k=>Nat.beq e k
 |[],_=>false
def aD (P:Program)(T:J1)(ops:Array Oper)(fz ef an:List Nat):List Oper→Nat→List Nat→Fr→List ABlk→List (List ABlk)→List (Nat × Nat × (List ABlk→Prop))→(Fr→List ABlk→Prop)→Prop
 |[],_,er,fr,H,hs,ob,K=>chk er.isEmpty (v2z an ef hs ob (K fr H))
 |o :: r,k,er,fr,H,hs,ob,K=>chk (z6h fr.n o.dst&&x5q o.op) (y5m ops fr o.guard fun c fr=>match x3p er k,c with
  |true,true=>match z2z fz k with
   |true=>x3e P T (z7b P) (evX fr) H (fun u H'=>z3k H.length H' u fun u H'=>q5z u fun u=>z6y H' fun H'=>aD P T ops fz ef an r (k+1) er.tail (q7y fr o.dst u) H' (hs++[H']) ob K) o.op
   |false=>x3e P T (z7b P) (evX fr) H (fun u H'=>q5z u fun u=>z6y H' fun H'=>aD P T ops fz ef an r (k+1) er.tail (q7y fr o.dst u) H' (hs++[H']) ob K) o.op
  |true,false=>aD P T ops fz ef an r (k+1) er.tail (q7y fr o.dst y3i) H (hs++[H]) ob K
  |false,true=>chk (!z2z ef k) (match z2z fz k with
   |true=>chk (y1c o.op) (x3e P T (q7d P) (evX fr) H (fun u H'=>z3k H.length H' u fun u _=>q5z u fun u=>aD P T ops fz ef an r (k+1) er (q7y fr o.dst u) H hs
    (ob++[(k,hs.length - 1,fun Hj=>x3e P T (q7d P) (evX fr) Hj (fun v H'=>z3k Hj.length H' v fun v _=>v=u) o.op)]) K) o.op)
   |false=>match z6i o.op with
    |true=>x3e P T (q7d P) (evX fr) H (fun u _=>q5z u fun u=>aD P T ops fz ef an r (k+1) er (q7y fr o.dst u) H hs ob K) o.op
    |false=>chk (x3h o.op) (x3e P T (q7d P) (evX fr) H (fun u _=>q5z u fun u=>aD P T ops fz ef an r (k+1) er (q7y fr o.dst u) H hs
     (ob++[(k,hs.length - 1,fun Hj=>x3e P T (q7d P) (evX fr) Hj (fun v _=>v=u) o.op)]) K) o.op))
  |false,false=>chk (!z2z ef k) (aD P T ops fz ef an r (k+1) er (q7y fr o.dst y3i) H hs ob K))
inductive DS (P:Program) (ops:Array Oper) (ef an:List Nat) (Hs:List (List ABlk)):List Oper→Nat→Nat→Fr→Fr→Prop where
 |nil (k p fr) (hp:p=ef.length):DS P ops ef an Hs [] k p fr fr
 |eff {o r k p fr0 fr F u} (hd:z6h fr.n o.dst=true) (ha:z2p fr0 fr) (hg:q5c ops fr0 o.guard true) (he:ef[p]?=some k) (hu:z7c P o (z2m fr) (Hs.getD p []) u (Hs.getD (p+1) [])) (h:DS P ops ef an Hs r (k+1) (p+1) (q7y fr o.dst u) F):DS P ops ef an Hs (o :: r) k p fr0 F
 |effs {o r k p fr0 fr F} (hd:z6h fr.n o.dst=true) (ha:z2p fr0 fr) (hg:q5c ops fr0 o.guard false) (he:ef[p]?=some k) (hu:Hs.getD (p+1) []=Hs.getD p []) (h:DS P ops ef an Hs r (k+1) (p+1) (q7y fr o.dst y3i) F):DS P ops ef an Hs (o :: r) k p fr0 F
 |qui {o r k p fr0 fr F u} (hd:z6h fr.n o.dst=true) (ha:z2p fr0 fr) (hg:q5c ops fr0 o.guard true) (he:k ∉ ef) (hu:(∀ j,j≤ef.length→y3j an k j ef 0=true→z7c P o (z2m fr) (Hs.getD j []) u (Hs.getD j []))∧(z6i o.op=true→∀ H2,z7c P o (z2m fr) H2 u H2)) (h:DS P ops ef an Hs r (k+1) p (q7y fr o.dst u) F):DS P ops ef an Hs (o :: r) k p fr0 F
 |quis {o r k p fr0 fr F} (hd:z6h fr.n o.dst=true) (ha:z2p fr0 fr) (hg:q5c ops fr0 o.guard false) (he:k ∉ ef) (h:DS P ops ef an Hs r (k+1) p (q7y fr o.dst y3i) F):DS P ops ef an Hs (o :: r) k p fr0 F
theorem v3a {an ef:List Nat}{i p:Nat}{f:List ABlk→Prop}:∀ {hs:List (List ABlk)} {j0:Nat} {G:Prop},obJ an ef i p f hs j0 G→G∧∀ (j:Nat) (H:List ABlk),hs[j]?=some H→y3j an i (j0+j) ef 0=true→j0+j≠p→f H
 |[],j0,G,h=>⟨h,fun j H hj=>by simp at hj⟩
 |H0 :: r,j0,G,h=>by
  simp only[obJ]at h
  have ih:obJ an ef i p f r (j0+1) G:=by
   split at h
   ·exact h.2
   ·exact h
  obtain⟨h1,h2⟩:=v3a ih
  refine⟨h1,fun j H hj hw hne=>?_⟩
  cases j with
  |succ j=>exact h2 j H (by simpa using hj) (by rw[Nat.add_assoc,Nat.add_comm 1 j];exact hw) (by omega)
  |zero=>
   simp only[List.getElem?_cons_zero,Option.some.injEq]at hj
   subst hj
   rw[Nat.add_zero]at hw hne
   split at h
   ·exact h.1
   ·rename_i hc
    rw[hw,Bool.true_and]at hc
    have:Nat.beq j0 p=true:=by
     cases e:Nat.beq j0 p with
     |true=>rfl
     |false=>rw[e]at hc;simp at hc
    exact absurd (Nat.eq_of_beq_eq_true this) hne
theorem x6k {an ef:List Nat}{hs:List (List ABlk)}:∀ {ob:List (Nat × Nat × (List ABlk→Prop))} {G:Prop},v2z an ef hs ob G→G∧∀ x∈ob,∀ (j:Nat) (H:List ABlk),hs[j]?=some H→y3j an x.1 j ef 0=true→j≠x.2.1→x.2.2 H
 |[],G,h=>⟨h,fun x hx=>by simp at hx⟩
 |(i,p,f) :: r,G,h=>by
  obtain⟨h1,h2⟩:=v3a h
  obtain⟨h3,h4⟩:=x6k h1
  refine⟨h3,fun x hx=>?_⟩
  rcases List.mem_cons.1 hx with rfl|hx
  ·intro j H hj hw hne
   have:=h2 j H hj
   rw[Nat.zero_add]at this
   exact this hw hne
  ·exact h4 x hx
theorem y5s {α:Type}{l l':List α}{d:α}{j:Nat}(h:l <+: l')(hj:j<l.length):l'.getD j d=l.getD j d:=by
 obtain⟨t,rfl⟩:=h
 rw[k0v,k0v,k0s hj]
theorem x0p {l:List Nat}{k:Nat}(h:(!z2z l k)=true):k ∉ l:=fun hm=>by rw[y5n.2 hm]at h;simp at h
theorem w7p {ef er:List Nat}{p k:Nat}(he:er=ef.drop p)(h:x3p er k=true):ef[p]?=some k∧er.tail=ef.drop (p+1):=by
 cases er with
 |nil=>simp[x3p]at h
 |cons e r=>
  have:=Nat.eq_of_beq_eq_true h
  subst this
  have h1:(ef.drop p)[0]?=some e:=by rw[← he];rfl
  rw[List.getElem?_drop,Nat.add_zero]at h1
  refine⟨h1,?_⟩
  rw[← List.tail_drop,← he]
theorem z3m {ops:Array Oper}{fz ef an:List Nat}(hT:TOk P T):∀ (l:List Oper) {k p:Nat} {er:List Nat} {fr:Fr} {H:List ABlk} {hs:List (List ABlk)} {ob:List (Nat × Nat × (List ABlk→Prop))} {K:Fr→List ABlk→Prop},
 aD P T ops fz ef an l k er fr H hs ob K→er=ef.drop p→p≤ef.length→hs.length=p+1→hs.getD p []=H →
 ∃ F HF Hs,hs <+: Hs∧Hs.length=ef.length+1∧HF=Hs.getD ef.length []∧DS P ops ef an Hs l k p fr F∧K F HF∧∀ x∈ob,∀ j,j≤ef.length→y3j an x.1 j ef 0=true→j≠x.2.1→x.2.2 (Hs.getD j [])
 |[],k,p,er,fr,H,hs,ob,K,h,he,hp,hl,hH=>by
  obtain⟨h1,h⟩:=J4 h
  have h1:er=[]:=by simpa using h1
  rw[h1]at he
  have hpe:p=ef.length:=by
   have:=congrArg List.length he
   simp at this;omega
  obtain⟨h2,h3⟩:=x6k h
  subst hpe
  refine⟨fr,H,hs,List.prefix_refl _,by omega,hH.symm,.nil _ _ _ rfl,h2,fun x hx j hj hw hne=>?_⟩
  refine h3 x hx j _ ?_ hw hne
  rw[k0v,k0w (by omega)];rfl
 |o :: r,k,p,er,fr,H,hs,ob,K,h,he,hp,hl,hH=>by
  obtain⟨hd,h⟩:=J4 h
  rw[k1u]at hd
  obtain⟨hd,hdk⟩:=hd
  obtain⟨c,fr',h1,h2,h7⟩:=x0k h
  rw[← h7.1]at hd
  have eff:∀ {u:AV} {H':List ABlk} {fr1:Fr},x3p er k=true→aD P T ops fz ef an r (k+1) er.tail fr1 H' (hs++[H']) ob K →
   ∃ F HF Hs,hs <+: Hs∧Hs.getD (p+1) []=H'∧ef[p]?=some k∧Hs.length=ef.length+1∧HF=Hs.getD ef.length []∧DS P ops ef an Hs r (k+1) (p+1) fr1 F∧K F HF∧∀ x∈ob,∀ j,j≤ef.length→y3j an x.1 j ef 0=true→j≠x.2.1→x.2.2 (Hs.getD j []):=by
   intro u H' fr1 hh h
   obtain⟨g1,g2⟩:=w7p he hh
   have hlt:p<ef.length:=(k0t.1 g1).1
   obtain⟨F,HF,Hs,k1,k2,k3,k4,k5,k6⟩:=z3m hT r h g2 (by omega) (by simp[hl]) (by rw[k0v,← hl,J9];rfl)
   refine⟨F,HF,Hs,(List.prefix_append _ _).trans k1,?_,g1,k2,k3,k4,k5,k6⟩
   rw[y5s k1 (by simp[hl]),k0v,← hl,J9];rfl
  have hcur:∀ {Hs:List (List ABlk)},hs <+: Hs→Hs.getD p []=H:=fun hpre=>by rw[y5s hpre (by omega)];exact hH
  split at h1
  ·rename_i hh
   split at h1
   ·obtain⟨u,H',h3,h4⟩:=w1x hT hdk (q8w h1)
    rw[q4r,z0c]at h4
    obtain⟨F,HF,Hs,k1,k2,k3,k4,k5,k6,k7,k8⟩:=eff (u:=u) hh h4
    exact⟨F,HF,Hs,k1,k4,k5,.eff hd h7 h2 k3 (by rw[hcur k1,k2];exact h3) k6,k7,k8⟩
   ·obtain⟨u,H',h3,h4⟩:=x6i hT hdk (q8w h1)
    rw[q4r,z0c]at h4
    obtain⟨F,HF,Hs,k1,k2,k3,k4,k5,k6,k7,k8⟩:=eff (u:=u) hh h4
    exact⟨F,HF,Hs,k1,k4,k5,.eff hd h7 h2 k3 (by rw[hcur k1,k2];exact h3) k6,k7,k8⟩
  ·rename_i hh
   obtain⟨F,HF,Hs,k1,k2,k3,k4,k5,k6,k7,k8⟩:=eff (u:=y3i) hh h1
   exact⟨F,HF,Hs,k1,k4,k5,.effs hd h7 h2 k3 (by rw[hcur k1,k2]) k6,k7,k8⟩
  ·obtain⟨hn,h1⟩:=J4 h1
   have hn:=x0p hn
   have qui:∀ {u:AV} {f:List ABlk→Prop},z6i o.op=false→z7c P o (z2m fr') H u H→(∀ Hj,f Hj→z7c P o (z2m fr') Hj u Hj)→aD P T ops fz ef an r (k+1) er (q7y fr' o.dst u) H hs (ob++[(k,hs.length - 1,f)]) K →
    ∃ F HF Hs,hs <+: Hs∧Hs.length=ef.length+1∧HF=Hs.getD ef.length []∧DS P ops ef an Hs (o :: r) k p fr F∧K F HF∧∀ x∈ob,∀ j,j≤ef.length→y3j an x.1 j ef 0=true→j≠x.2.1→x.2.2 (Hs.getD j []):=by
    intro u f hnf hu hf h
    obtain⟨F,HF,Hs,k1,k2,k3,k4,k5,k6⟩:=z3m hT r h he hp hl hH
    refine⟨F,HF,Hs,k1,k2,k3,.qui hd h7 h2 hn ⟨fun j hj hw=>?_,fun e=>absurd e (by rw[hnf];simp)⟩ k4,k5,fun x hx=>k6 x (List.mem_append_left _ hx)⟩
    by_cases hjp:j=p
    ·subst hjp;rw[hcur k1];exact hu
    ·exact hf _ (k6 (k,hs.length - 1,f) (List.mem_append_right _ (List.mem_singleton.2 rfl)) j hj hw (by show j≠hs.length - 1;omega))
   split at h1
   ·obtain⟨hq,h1⟩:=J4 h1
    obtain⟨u,h3,h4⟩:=x0n (K:=fun u=>q5z u _) hT hdk hq (q8w h1)
    rw[q4r]at h4
    refine qui (v2w hq) h3 (fun Hj hj=>?_) h4
    obtain⟨v,h5,h6⟩:=x0n (K:=fun v=>v=u) hT hdk hq (q8w hj)
    subst h6;exact h5
   ·split at h1
    ·rename_i hq
     obtain⟨u,h3,h4⟩:=w7n (K:=fun u=>q5z u _) hT hdk rfl hq (q8w h1)
     rw[q4r]at h4
     obtain⟨F,HF,Hs,k1,k2,k3,k4,k5,k6⟩:=z3m hT r h4 he hp hl hH
     exact⟨F,HF,Hs,k1,k2,k3,.qui hd h7 h2 hn ⟨fun j _ _=>h3 _,fun _=>h3⟩ k4,k5,k6⟩
    ·rename_i hnf
     obtain⟨hq,h1⟩:=J4 h1
     obtain⟨u,h3,h4⟩:=y5p (K:=fun u=>q5z u _) hT hdk hq (q8w h1)
     rw[q4r]at h4
     refine qui hnf h3 (fun Hj hj=>?_) h4
     obtain⟨v,h5,h6⟩:=y5p (K:=fun v=>v=u) hT hdk hq (q8w hj)
     subst h6;exact h5
  ·obtain⟨hn,h1⟩:=J4 h1
   have hn:=x0p hn
   obtain⟨F,HF,Hs,k1,k2,k3,k4,k5,k6⟩:=z3m hT r h1 he hp hl hH
   exact⟨F,HF,Hs,k1,k2,k3,.quis hd h7 h2 hn k4,k5,k6⟩
section
variable {ops:Array Oper} {ef an:List Nat} {Hs:List (List ABlk)}
theorem DS.length {l:List Oper}{k p:Nat}{fr F:Fr}(h:DS P ops ef an Hs l k p fr F):F.n=fr.n:=by
 induction h with
 |nil=>rfl
 |eff _ ha _ _ _ _ ih=>rw[ih,x3n,ha.1]
 |effs _ ha _ _ _ _ ih=>rw[ih,x3n,ha.1]
 |qui _ ha _ _ _ _ ih=>rw[ih,x3n,ha.1]
 |quis _ ha _ _ _ ih=>rw[ih,x3n,ha.1]
theorem DS.other {l:List Oper}{k p:Nat}{fr F:Fr}(h:DS P ops ef an Hs l k p fr F){t:Nat}(ht:∀ o∈l,o.dst≠some t):W4 F.l t=W4 fr.l t:=by
 induction h with
 |nil=>rfl
 |eff _ ha _ _ _ _ ih=>rw[ih (fun o ho=>ht o (List.mem_cons_of_mem _ ho)),q7z (ht _ List.mem_cons_self),ha.2]
 |effs _ ha _ _ _ _ ih=>rw[ih (fun o ho=>ht o (List.mem_cons_of_mem _ ho)),q7z (ht _ List.mem_cons_self),ha.2]
 |qui _ ha _ _ _ _ ih=>rw[ih (fun o ho=>ht o (List.mem_cons_of_mem _ ho)),q7z (ht _ List.mem_cons_self),ha.2]
 |quis _ ha _ _ _ ih=>rw[ih (fun o ho=>ht o (List.mem_cons_of_mem _ ho)),q7z (ht _ List.mem_cons_self),ha.2]
def u2m (P:Program)(ops:Array Oper)(ef an:List Nat)(Hs:List (List ABlk))(F0 F:Fr)(i:Nat)(o:Oper):Prop:=
 ∃ (fr:Fr) (c:Bool) (u:AV),fr.n=F.n∧z6h F.n o.dst=true∧q5c ops fr o.guard c∧(c=false→u=y3i) ∧
  ((∃ p,ef[p]?=some i∧(c=true→z7c P o (z2m fr) (Hs.getD p []) u (Hs.getD (p+1) []))∧(c=false→Hs.getD (p+1) []=Hs.getD p [])) ∨
   (i ∉ ef∧(c=true→(∀ j,j≤ef.length→y3j an i j ef 0=true→z7c P o (z2m fr) (Hs.getD j []) u (Hs.getD j []))∧(z6i o.op=true→∀ H2,z7c P o (z2m fr) H2 u H2)))) ∧
  (∀ t∈q7p ops o,(W4 fr.l t=W4 F.l t∧∀ (j:Nat) (o':Oper),ops[j]?=some o'→o'.dst=some t→∃ e∈o.after,Region.binds .any e=true∧e.on=j) ∨
   (W4 fr.l t=W4 F0.l t∧∀ (j:Nat) (o':Oper),ops[j]?=some o'→o'.dst=some t→i=j∨∃ e∈o'.after,Region.binds .any e=true∧e.on=i)) ∧
  (∀ d x,o.dst=some d→W4 F.l d=some x→x=u)
theorem DS.facts (hssa:w5h ops=true){F0:Fr}:∀ (l:List Oper) (k p:Nat) {fr F:Fr},(∀ (j:Nat) (o:Oper),l[j]?=some o→ops[k+j]?=some o)→(∀ t,(∀ (j:Nat) (o:Oper),ops[j]?=some o→o.dst=some t→k≤j)→W4 fr.l t=W4 F0.l t)→DS P ops ef an Hs l k p fr F→∀ (j:Nat) (o:Oper),l[j]?=some o→u2m P ops ef an Hs F0 F (k+j) o
 |[],_,_,_,_,_,_,_,j,o,hj=>by simp at hj
 |o :: r,k,p,fr,F,hl,hpre,h,j,o',hj=>by
  have ho:ops[k]?=some o:=hl 0 o rfl
  have hl':∀ (j:Nat) (o1:Oper),r[j]?=some o1→ops[k+1+j]?=some o1:=fun j o1 h1=>by have:=hl (j+1) o1 (by simpa using h1);rw[← this];congr 1;omega
  have hd:∀ d,o.dst=some d→∀ o1∈r,o1.dst≠some d:=fun d hod o1 h1 hd1=>by
   obtain⟨n,hn⟩:=List.getElem?_of_mem h1
   have hn:=hl' n o1 hn
   exact((y5r hssa ho).2 _ _ _ hn hd1).2 (by omega) hod
  have hpre':∀ {fr1:Fr} {u:AV},z2p fr fr1→∀ t,(∀ (j:Nat) (o:Oper),ops[j]?=some o→o.dst=some t→k+1≤j)→W4 (q7y fr1 o.dst u).l t=W4 F0.l t:=fun {fr1 u} ha t ht=>by
   rw[q7z (fun e=>by have:=ht k o ho e;omega),ha.2]
   exact hpre t fun j o hj hd=>by have:=ht j o hj hd;omega
  cases j with
  |succ j=>
   rw[List.getElem?_cons_succ]at hj
   rw[show k+(j+1)=k+1+j by omega]
   cases h with
   |eff _ ha _ _ _ h=>exact DS.facts hssa r (k+1) _ hl' (hpre' ha) h j o' hj
   |effs _ ha _ _ _ h=>exact DS.facts hssa r (k+1) _ hl' (hpre' ha) h j o' hj
   |qui _ ha _ _ _ h=>exact DS.facts hssa r (k+1) _ hl' (hpre' ha) h j o' hj
   |quis _ ha _ _ h=>exact DS.facts hssa r (k+1) _ hl' (hpre' ha) h j o' hj
  |zero=>
   rw[List.getElem?_cons_zero]at hj
   obtain rfl:=k0x hj
   have hn:=h.length
   have put:∀ {p:Nat} {fr:Fr} {u:AV},DS P ops ef an Hs r (k+1) p (q7y fr o.dst u) F→∀ d x,o.dst=some d→W4 F.l d=some x→x=u:=fun {p fr u} h2 d x hod hx=>by
    rw[h2.other (hd d hod),hod]at hx
    simp only[q7y]at hx
    rw[U3]at hx
    exact(k0x hx).symm
   have hread:∀ {fr1:Fr},z2p fr fr1→∀ t∈q7p ops o,(W4 fr1.l t=W4 F.l t∧∀ (j:Nat) (o':Oper),ops[j]?=some o'→o'.dst=some t→∃ e∈o.after,Region.binds .any e=true∧e.on=j) ∨
    (W4 fr1.l t=W4 F0.l t∧∀ (j:Nat) (o':Oper),ops[j]?=some o'→o'.dst=some t→k=j∨∃ e∈o'.after,Region.binds .any e=true∧e.on=k):=fun {fr1} ha t ht=>by
    by_cases hex:∃ (j:Nat) (o':Oper),ops[j]?=some o'∧o'.dst=some t∧j<k
    ·obtain⟨j0,o0,hj0,hd0,hlt⟩:=hex
     have huniq:∀ (j:Nat) (o':Oper),ops[j]?=some o'→o'.dst=some t→j=j0:=fun j o' hj hd'=>by
      by_cases e:j=j0
      ·exact e
      ·exact absurd hd0 (((y5r hssa hj0).2 j o' t hj hd').2 (by omega))
     refine .inl ⟨?_,fun j o' hj hd'=>?_⟩
     ·rw[ha.2]
      refine(h.other fun o1 h1 hd1=>?_).symm
      obtain⟨n,hn⟩:=List.getElem?_of_mem h1
      have hn:=hl n o1 hn
      have:=huniq _ _ hn hd1
      omega
     ·obtain rfl:=huniq j o' hj hd'
      rcases ((y5r hssa ho).2 _ _ _ hj hd').1 ht with h1|h1
      ·exact h1.2
      ·omega
    ·have hge:∀ (j:Nat) (o':Oper),ops[j]?=some o'→o'.dst=some t→k≤j:=fun j o' hj hd'=>Nat.le_of_not_lt fun hlt=>hex ⟨j,o',hj,hd',hlt⟩
     refine .inr ⟨by rw[ha.2];exact hpre t hge,fun j o' hj hd'=>?_⟩
     rcases ((y5r hssa ho).2 _ _ _ hj hd').1 ht with h1|h1
     ·have:=hge j o' hj hd';omega
     ·exact h1.2
   cases h with
   |@eff _ _ _ _ _ fr1 _ u hdo ha hg he hu h2=>exact⟨fr1,true,u,ha.1.trans hn.symm,by rw[hn,← ha.1];exact hdo,q6i ha hg,fun h=>absurd h (by simp),.inl ⟨p,he,fun _=>hu,fun h=>absurd h (by simp)⟩,hread ha,put h2⟩
   |@effs _ _ _ _ _ fr1 _ hdo ha hg he hu h2=>exact⟨fr1,false,y3i,ha.1.trans hn.symm,by rw[hn,← ha.1];exact hdo,q6i ha hg,fun _=>rfl,.inl ⟨p,he,fun h=>absurd h (by simp),fun _=>hu⟩,hread ha,put h2⟩
   |@qui _ _ _ _ _ fr1 _ u hdo ha hg he hu h2=>exact⟨fr1,true,u,ha.1.trans hn.symm,by rw[hn,← ha.1];exact hdo,q6i ha hg,fun h=>absurd h (by simp),.inr ⟨he,fun _=>hu⟩,hread ha,put h2⟩
   |@quis _ _ _ _ _ fr1 _ hdo ha hg he h2=>exact⟨fr1,false,y3i,ha.1.trans hn.symm,by rw[hn,← ha.1];exact hdo,q6i ha hg,fun _=>rfl,.inr ⟨he,fun h=>absurd h (by simp)⟩,hread ha,put h2⟩
end
theorem x6m {an:List Nat}:∀ {ef:List Nat},z8t an ef=true→∀ (q a b:Nat),ef[q]?=some a→ef[q+1]?=some b→(an.getD b 0).testBit a=true
 |[],_,q,a,b,h,_=>by simp at h
 |[x],_,q,a,b,_,h=>by simp at h
 |x :: y :: r,h,q,a,b,ha,hb=>by
  replace h:((an.getD y 0).testBit x&&z8t an (y :: r))=true:=h
  rw[k1u]at h
  cases q with
  |zero=>
   simp only[List.getElem?_cons_zero,Option.some.injEq]at ha
   have hb:y=b:=by simpa using hb
   subst ha hb;exact h.1
  |succ q=>exact x6m h.2 q a b (by simpa using ha) (by simpa using hb)
theorem v3b {an:List Nat}{i j:Nat}:∀ {ef:List Nat} {q0:Nat},(∀ q e,ef[q]?=some e→((an.getD i 0).testBit e=true→q0+q<j)∧((an.getD e 0).testBit i=true→j≤q0+q))→y3j an i j ef q0=true
 |[],_,_=>rfl
 |e :: r,q0,h=>by
  have h0:=h 0 e rfl
  simp only[y3j,Bool.and_eq_true]
  refine⟨⟨?_,?_⟩,v3b fun q e' he=>?_⟩
  ·cases hb:(an.getD i 0).testBit e with
   |false=>rfl
   |true=>simpa [Nat.blt_eq] using h0.1 hb
  ·cases hb:(an.getD e 0).testBit i with
   |false=>rfl
   |true=>simpa [Nat.ble_eq] using h0.2 hb
  ·have:=h (q+1) e' (by simpa using he)
   rw[show q0+1+q=q0+(q+1) by omega];exact this
section
variable {ops:Array Oper} {ef:List Nat} {Hs:List (List ABlk)} {m N:Nat}
def JD (N m:Nat)(ops:Array Oper)(ef:List Nat)(Hs:List (List ABlk))(Fz F:Fr)(w0:World)(I0:Nat→Prop)(ι0:Nat→Option Nat)(H0:List ABlk)(listed:Array Bool)(a:Act)(w:World):Prop:=
 ∃ p I ι,p≤ef.length∧(∀ q e,ef[q]?=some e→(listed[e]?=some true↔q<p))∧a.tmps.size=F.n∧(N≤w.heap.size∧(∀ d∈a.defers,Mark N w I ι (Hs.getD p []) d)∧a.defers.Pairwise (fun x y=>x.target≠y.target)) ∧
  SimH w I ι (Hs.getD p [])∧Ex m w0 I0 ι0 H0 w I ι (Hs.getD p []) ∧
  (∀ t u,W4 F.l t=some u→(∀ (j:Nat) (o:Oper),ops[j]?=some o→o.dst=some t→listed[j]?=some true)→ARep w I ι u (a.tmps.getD t undef)) ∧
  (∀ t u,W4 Fz.l t=some u→(∀ (j:Nat) (o:Oper),ops[j]?=some o→o.dst=some t→listed[j]?=some false)→ARep w I ι u (a.tmps.getD t undef)) ∧
  (∀ (j:Nat) (o:Oper),ops[j]?=some o→listed[j]?=some true→∀ e∈o.after,Region.binds .any e=true→listed[e.on]?=some true)
theorem w1y {ro:Option Nat}(hssa:w5h ops=true)(hch:z8t (anc ops) ef=true)(hnd:ef.Nodup)(hlt:∀ e∈ef,e<ops.size){Fz F:Fr}{Q:Exit→Act→World→Prop}{w0:World}{I0:Nat→Prop}{ι0:Nat→Option Nat}{H0:List ABlk}
 (hfact:∀ (i:Nat) (o:Oper),ops[i]?=some o→u2m P ops ef (anc ops) Hs Fz F i o) (hQ:∀ a w I ι,Sim N w I ι ⟨F,Hs.getD ef.length []⟩ a→Ex m w0 I0 ι0 H0 w I ι (Hs.getD ef.length [])→Q .normal a w) :
 ∀ (fuel:Nat) (listed:Array Bool) (a:Act) (w:World),listed.size=ops.size→listed.toList.count true+fuel=ops.size→JD N m ops ef Hs Fz F w0 I0 ι0 H0 listed a w→wpAnyIn (fen ro) 0 P .any ops Q fuel listed a w:=by
 intro fuel
 have hdone:∀ (listed:Array Bool) (a:Act) (w:World),listed.size=ops.size→JD N m ops ef Hs Fz F w0 I0 ι0 H0 listed a w→Region.ready .any ops listed=[]→Q .normal a w:=by
  intro listed a w hsz hJ hr
  obtain⟨p,I,ι,hp,hpe,h1,h2,h3,h4,h5,h6,h7⟩:=hJ
  have hall:∀ i,i<ops.size→listed[i]?=some true:=by
   intro i
   induction i using Nat.strongRecOn with
   |_ i ih=>
    intro hi
    cases hb:listed[i]? with
    |none=>have:=Array.getElem?_eq_none_iff.1 hb;omega
    |some b=>
     cases b with
     |true=>rfl
     |false=>
      exfalso
      have hmem:i∈Region.ready .any ops listed:=by
       unfold Region.ready
       rw[List.mem_filter]
       refine⟨by simpa using hi,?_⟩
       have ho:ops[i]?=some ops[i]:=Array.getElem?_eq_getElem hi
       rw[ho]
       simp only[Option.map_some,Option.getD_some,Bool.and_eq_true]
       refine⟨by rw[k2q,hb];rfl,?_⟩
       rw[Array.all_eq_true']
       intro e he
       cases hbe:Region.binds .any e with
       |false=>rfl
       |true=>
        have hlt:=(y5r hssa ho).1 e he hbe
        have:=ih e.on hlt (by omega)
        rw[k2q,this];rfl
      rw[hr]at hmem
      simp at hmem
  have hpn:p=ef.length:=by
   rcases Nat.lt_or_ge p ef.length with h|h
   ·have he:=k0w h
    have:=(hpe p _ he).1 (hall _ (hlt _ (k1w h)))
    omega
   ·omega
  subst hpn
  refine hQ a w I ι ⟨⟨h1,fun t u hu=>h5 t u hu (fun j o hj _=>hall j ?_)⟩,h3,h2.1,h2.2.1,h2.2.2⟩ h4
  exact(Array.getElem?_eq_some_iff.1 hj).1
 induction fuel with
 |zero=>
  intro listed a w hsz hcnt hJ
  have hr:Region.ready .any ops listed=[]:=by
   have hall:∀ b∈listed.toList,true=b:=List.count_eq_length.1 (by rw[Array.length_toList];omega)
   unfold Region.ready
   rw[List.filter_eq_nil_iff]
   intro i hi
   have hi:i<ops.size:=by simpa using hi
   have hi':i<listed.size:=by omega
   have:listed[i]=true:=(hall _ (by rw[Array.mem_toList_iff];exact Array.getElem_mem hi')).symm
   simp[Array.getD_eq_getD_getElem?,hi',this]
  exact⟨hr,hdone listed a w hsz hJ hr⟩
 |succ fuel ih=>
  intro listed a w hsz hcnt hJ
  refine⟨hdone listed a w hsz hJ,fun i hi=>?_⟩
  unfold Region.ready at hi
  rw[List.mem_filter]at hi
  obtain⟨hi1,hi2⟩:=hi
  have hi1:i<ops.size:=by simpa using hi1
  have ho:ops[i]?=some ops[i]:=Array.getElem?_eq_getElem hi1
  generalize ops[i]=o at ho
  rw[ho]at hi2
  simp only[Option.map_some,Option.getD_some,Bool.and_eq_true]at hi2
  obtain⟨hun,hed⟩:=hi2
  have hli:listed[i]?=some false:=by
   rw[k2q]at hun
   cases hb:listed[i]? with
   |none=>have:=Array.getElem?_eq_none_iff.1 hb;omega
   |some b=>rw[hb]at hun;cases b with
    |false=>rfl
    |true=>simp at hun
  have hedge:∀ e∈o.after,Region.binds .any e=true→listed[e.on]?=some true:=by
   intro e he hb
   have:=(Array.all_eq_true'.1 hed) e he
   rw[hb]at this
   rw[k2q]at this
   cases hx:listed[e.on]? with
   |none=>rw[hx]at this;simp at this
   |some b=>rw[hx]at this;cases b with
    |true=>rfl
    |false=>simp at this
  obtain⟨p,I,ι,hp,hpe,h1,h2,h3,h4,h5,h6,h7⟩:=hJ
  obtain⟨fr,c,u,f00,f0,f1,f3,fx,f4,f5⟩:=hfact i o ho
  have hdown:w5g ops (fun j=>listed[j]?=some true):=fun j oj hj hlj e he hb=>h7 j oj hj hlj e he hb
  have hdown':w5g ops (fun j=>listed[j]?=some true∨j=i):=fun j oj hj hlj e he hb=>by
   rcases hlj with hlj|rfl
   ·exact .inl (h7 j oj hj hlj e he hb)
   ·rw[ho]at hj;obtain rfl:=k0x hj
    exact .inl (hedge e he hb)
  have hanc:∀ e,((anc ops).getD i 0).testBit e=true→e≠i→listed[e]?=some true:=fun e hb hne=>by
   rcases v2x hdown' hb (.inr rfl) with h|h
   ·exact h
   ·exact absurd h hne
  have hdesc:∀ e,((anc ops).getD e 0).testBit i=true→¬ listed[e]?=some true:=fun e hb hl=>by
   have:=v2x hdown hb hl
   rw[hli]at this;simp at this
  have huniq:∀ q q' e,ef[q]?=some e→ef[q']?=some e→q=q':=fun q q' e hq hq'=>by
   obtain⟨a1,a2⟩:=k0t.1 hq
   obtain⟨b1,b2⟩:=k0t.1 hq'
   exact(List.getElem_inj hnd).1 (a2.trans b2.symm)
  have hread:∀ t x,t∈q7p ops o→W4 fr.l t=some x→ARep w I ι x (a.tmps.getD t undef):=by
   intro t x ht hx
   rcases f4 t ht with ⟨e1,e2⟩|⟨e1,e2⟩
   ·refine h5 t x (by rw[← e1];exact hx) (fun j o' hj hd=>?_)
    obtain⟨e,he,hb,hon⟩:=e2 j o' hj hd
    rw[← hon];exact hedge e he hb
   ·refine h6 t x (by rw[← e1];exact hx) (fun j o' hj hd=>?_)
    rcases e2 j o' hj hd with rfl|⟨e,he,hb,hon⟩
    ·exact hli
    ·have hjl:j<listed.size:=by rw[hsz];exact(Array.getElem?_eq_some_iff.1 hj).1
     cases hb2:listed[j]? with
     |none=>have:=Array.getElem?_eq_none_iff.1 hb2;omega
     |some b=>cases b with
      |false=>rfl
      |true=>
       have:=h7 j o' hj hb2 e he hb
       rw[hon,hli]at this
       simp at this
  have hcnt':(listed.setIfInBounds i true).toList.count true+fuel=ops.size:=by
   have hlt:i<listed.toList.length:=by rw[Array.length_toList];omega
   have hget:listed.toList[i]?=some false:=by rw[Array.getElem?_toList];exact hli
   have:(listed.setIfInBounds i true).toList.count true=listed.toList.count true+1:=by
    rw[Array.toList_setIfInBounds]
    have hdec:listed.toList=listed.toList.take i++false :: listed.toList.drop (i+1):=by
     have:=k0t.1 hget
     obtain⟨hlt',he⟩:=this
     rw[← he,List.getElem_cons_drop,List.take_append_drop]
    rw[List.set_eq_take_append_cons_drop,if_pos hlt]
    conv=>rhs;rw[hdec]
    simp only[List.count_append,List.count_cons]
    simp
    omega
   omega
  have hsz':(listed.setIfInBounds i true).size=ops.size:=by simp[hsz]
  have hil:i<listed.size:=by omega
  have step:∀ (p2:Nat) (w':World) (I':Nat→Prop) (ι':Nat→Option Nat) (v:Value),p2≤ef.length→(∀ q e,ef[q]?=some e→((listed.setIfInBounds i true)[e]?=some true↔q<p2))→SimH w' I' ι' (Hs.getD p2 [])→Ex (Hs.getD p []).length w I ι (Hs.getD p []) w' I' ι' (Hs.getD p2 [])→ARep w' I' ι' u v →
   JD N m ops ef Hs Fz F w0 I0 ι0 H0 (listed.setIfInBounds i true) (a.put o.dst v) w':=by
   intro p2 w' I' ι' v hp2 hpe2 hs' hx' hv
   have mv:∀ {x:AV} {v:Value},ARep w I ι x v→ARep w' I' ι' x v:=fun hold=>hold.move (hx'.ext.keepsI h3) hx'.ext.Isub (fun b B hb=>by
    rw[hx'.keep b];exact hb
    rcases Nat.lt_or_ge b (Hs.getD p []).length with h|h
    ·exact h
    ·rw[h3.dom b h]at hb;exact absurd hb (by simp)) hx'.ext.shape
   have e1:∀ t,o.dst≠some t→(a.put o.dst v).tmps.getD t undef=a.tmps.getD t undef:=fun t hd=>by
    cases hd':o.dst with
    |none=>rfl
    |some d=>
     simp only[Act.put]
     rw[k2q,Array.getElem?_setIfInBounds_ne (by intro e;exact hd (by rw[hd',e])),← k2q]
   refine⟨p2,I',ι',hp2,hpe2,?_,by rw[q4m];exact⟨Nat.le_trans h2.1 hx'.ext.size,fun d hd=>(h2.2.1 d hd).move hx'.ext,h2.2.2⟩,hs',h4.trans (hx'.less h4.len),fun t x hx hall=>?_,fun t x hx hall=>?_,fun j oj hj hlj e he hb=>?_⟩
   ·cases hd:o.dst <;> simp[Act.put,h1]
   ·by_cases hd:o.dst=some t
    ·have:=f5 t x hd hx
     subst this
     have hlt:t<a.tmps.size:=by rw[hd]at f0;rw[h1];simpa [z6h,Nat.blt_eq] using f0
     rw[hd]
     simp only[Act.put]
     rw[k2q,Array.getElem?_setIfInBounds_self_of_lt hlt]
     exact hv
    ·have hold:ARep w I ι x (a.tmps.getD t undef):=by
      refine h5 t x hx (fun j o' hj hd'=>?_)
      have hne:j≠i:=fun e=>by
       subst e
       rw[ho]at hj
       obtain rfl:=k0x hj
       exact hd hd'
      have:=hall j o' hj hd'
      rw[Array.getElem?_setIfInBounds_ne (by omega)]at this
      exact this
     rw[e1 t hd]
     exact mv hold
   ·have hd:o.dst≠some t:=fun hd=>by
     have:=hall i o ho hd
     rw[Array.getElem?_setIfInBounds_self_of_lt hil]at this
     simp at this
    rw[e1 t hd]
    refine mv (h6 t x hx (fun j o' hj hd'=>?_))
    have:=hall j o' hj hd'
    by_cases e:i=j
    ·subst e;rw[Array.getElem?_setIfInBounds_self_of_lt hil]at this;simp at this
    ·rw[Array.getElem?_setIfInBounds_ne e]at this;exact this
   ·have up:∀ n,listed[n]?=some true→(listed.setIfInBounds i true)[n]?=some true:=fun n hn=>by
     by_cases e:i=n
     ·subst e;exact Array.getElem?_setIfInBounds_self_of_lt hil
     ·rw[Array.getElem?_setIfInBounds_ne e];exact hn
    by_cases e:i=j
    ·subst e
     rw[ho]at hj;obtain rfl:=k0x hj
     exact up _ (hedge _ he hb)
    ·rw[Array.getElem?_setIfInBounds_ne e]at hlj
     exact up _ (h7 j oj hj hlj _ he hb)
  have heff:∀ p',ef[p']?=some i→p'=p∧p+1≤ef.length∧∀ q e,ef[q]?=some e→((listed.setIfInBounds i true)[e]?=some true↔q<p+1):=by
   intro p' hp'
   have hle:p≤p':=Nat.le_of_not_lt fun h=>by
    have:=(hpe p' i hp').2 h
    rw[hli]at this;simp at this
   have heq:p'=p:=by
    rcases Nat.lt_or_ge p p' with h|h
    ·obtain⟨r,rfl⟩:∃ r,p'=r+1:=⟨p' - 1,by omega⟩
     have hr:r<ef.length:=by have:=(k0t.1 hp').1;omega
     have har:=k0w hr
     have hb:=x6m hch r _ i har hp'
     have hne:ef[r]≠i:=fun e=>by
      rw[e]at har
      have:=huniq _ _ _ har hp'
      omega
     have:=(hpe r _ har).1 (hanc _ hb hne)
     omega
    ·omega
   subst heq
   have hlt':=(k0t.1 hp').1
   refine⟨rfl,hlt',fun q e he=>?_⟩
   by_cases hei:i=e
   ·subst hei
    have:=huniq _ _ _ he hp'
    rw[Array.getElem?_setIfInBounds_self_of_lt hil]
    exact⟨fun _=>by omega,fun _=>rfl⟩
   ·rw[Array.getElem?_setIfInBounds_ne hei,hpe q e he]
    have hne:q≠p':=fun h=>by
     subst h
     rw[hp']at he
     exact hei (k0x he)
    omega
  have hqui:i ∉ ef→(∀ q e,ef[q]?=some e→((listed.setIfInBounds i true)[e]?=some true↔q<p))∧y3j (anc ops) i p ef 0=true:=by
   intro hni
   have hne:∀ q e,ef[q]?=some e→i≠e:=fun q e he h=>hni (h ▸ k2x he)
   refine⟨fun q e he=>by rw[Array.getElem?_setIfInBounds_ne (hne q e he)];exact hpe q e he,v3b fun q e he=>⟨fun hb=>?_,fun hb=>?_⟩⟩
   ·rw[Nat.zero_add];exact(hpe q e he).1 (hanc e hb (fun h=>hne q e he h.symm))
   ·rw[Nat.zero_add];exact Nat.le_of_not_lt fun h=>hdesc e hb ((hpe q e he).2 h)
  have hwant:Region.wanted o (yielded ops a.tmps)=c:=by
   refine w5d (w:=w) (I:=I) (ι:=ι) (fr:=fr) (fun d b hdb hg=>?_) f1
   obtain⟨j,want,hg,g1⟩:=hg
   have hdm:d∈q7p ops o:=by simp[q7p,hg,g1]
   exact hread d _ hdm hdb
  have hops:∀ x∈J8 o.op,ARep w I ι (z2m fr x) (a.eval x):=fun x hx=>by
   cases x with
   |tmp t=>
    have ht:t∈q7p ops o:=by
     unfold q7p v2y
     exact List.mem_append_left _ (List.mem_filterMap.2 ⟨.tmp t,hx,rfl⟩)
    show ARep w I ι ((W4 fr.l t).getD .top) (a.tmps.getD t undef)
    cases hF:W4 fr.l t with
    |none=>exact .top _
    |some x=>exact hread t x ht hF
   |const v=>exact x5m v
   |global g=>exact .top _
   |func f=>exact .clo (.func f) [] #[] rfl (fun i u h=>by simp at h)
  unfold wpOpIn
  rw[ho]
  simp only
  rw[hwant]
  cases c with
  |false=>
   rw[if_neg (by simp)]
   have hu:=f3 rfl
   subst hu
   refine⟨fun f _=>x2m ro f,?_⟩
   have hrep:ARep w I ι y3i undef:=.tup [] #[] rfl (fun i u h=>by simp at h)
   rcases fx with ⟨p',hp',_,hsame⟩|⟨hni,_⟩
   ·obtain⟨rfl,hle,hpe2⟩:=heff p' hp'
    have hsame:=hsame rfl
    refine ih _ _ _ hsz' hcnt' (step (p'+1) w I ι undef hle hpe2 (by rw[hsame];exact h3) ?_ hrep)
    rw[hsame];exact Ex.refl (k1v _)
   ·obtain⟨hpe2,_⟩:=hqui hni
    exact ih _ _ _ hsz' hcnt' (step p w I ι undef hp hpe2 h3 (Ex.refl (k1v _)) hrep)
  |true=>
   rw[if_pos rfl]
   rcases fx with ⟨p',hp',hdo,_⟩|⟨hni,hdo⟩
   ·obtain⟨rfl,hle,hpe2⟩:=heff p' hp'
    refine hdo rfl h3 hops ?_
    rintro v w' r' H' I' ι' ⟨rfl,rfl⟩ hr hs' hx'
    exact ih _ _ _ hsz' hcnt' (step _ w' I' ι' v hle hpe2 hs' hx' hr)
   ·obtain⟨hpe2,hw⟩:=hqui hni
    refine(hdo rfl).1 p hp hw h3 hops ?_
    rintro v w' r' H' I' ι' ⟨rfl,rfl⟩ hr hs' hx'
    exact ih _ _ _ hsz' hcnt' (step _ w' I' ι' v hp hpe2 hs' hx' hr)
def v3c (ops:Array Oper)(ef:List Nat):Bool:=w5h ops&&z8t (anc ops) ef&&q4i ef&&ef.all (fun e=>Nat.blt e ops.size)
theorem v3d {w:World}{I:Nat→Prop}{ι:Nat→Option Nat}{H:List ABlk}(hs:SimH w I ι H):SimH w.drew I ι H:=by
 have hsh:Shape w w.drew:=fun B cs t fr h=>⟨cs,h,rfl⟩
 have mv:∀ {x:AV} {v:Value},ARep w I ι x v→ARep w.drew I ι x v:=fun h=>h.move (w:=w) (w':=w.drew) (fun _ _=>rfl) (fun _ h=>h) (fun _ _ h=>h) hsh
 refine⟨fun b k hb=>?_,hs.inj,hs.Ilt,hs.dom,hs.rng⟩
 have:=hs.blk b k hb
 cases k with
 |dead=>trivial
 |cells t l=>obtain⟨B,cs,g1,g2,g3,g4,g5⟩:=this;exact⟨B,cs,g1,g2,g3,g4,fun i u hu=>mv (g5 i u hu)⟩
 |lp q st pe l=>obtain⟨B,cs,g1,g2,g3,g4,g5⟩:=this;exact⟨B,cs,g1,g2,g3,g4,fun i u hu=>mv (g5 i u hu)⟩
 |row t sz xs=>
  rcases this with g0|⟨B,cs,g1,g2,g3,g4,g5,g6⟩
  ·exact .inl g0
  ·exact .inr ⟨B,cs,g1,g2,g3,g4,g5,fun j e hj=>⟨(g6 j e hj).1,fun i u hu=>((g6 j e hj).2 i u hu).move (w:=w) (w':=w.drew) (fun _ _=>rfl) (fun _ h=>h)⟩⟩
 |obj o=>exact this
theorem Z0 {ro:Option Nat}(ef fz:List Nat)(hT:TOk P T)(hm':P.follows .mixedOrders=true){id:Nat}{s:St}{Q:Exit→St→Prop}(hok:v3c ops ef=true)
 (h:aD P T ops fz ef (anc ops) ops.toList 0 ef s.fr s.H [s.H] [] (fun fr H=>Q .normal ⟨fr,H⟩)):AW P ro m (.region id ops true) s Q:=fun N w I ι a hs hm=>by
 simp only[v3c,Bool.and_eq_true]at hok
 obtain⟨⟨⟨hssa,hch⟩,hnd⟩,hlt⟩:=hok
 obtain⟨F,HF,Hs,k1,k2,rfl,k4,k5,_⟩:=z3m (p:=0) hT ops.toList h (by simp) (Nat.zero_le _) rfl rfl
 have hlen:=k4.length
 have hdst:∀ t,(∀ o∈ops.toList,o.dst≠some t)→W4 F.l t=W4 s.fr.l t:=fun t ht=>k4.other ht
 have hH0:Hs.getD 0 []=s.H:=by rw[y5s k1 (by simp)];rfl
 refine wpIn_region_any hm' (w1y (N:=N) (m:=m) (Fz:=s.fr) (F:=F) (w0:=w) (I0:=I) (ι0:=ι) (H0:=s.H) hssa hch (q6q hnd) (fun e he=>by simpa [Nat.blt_eq] using List.all_eq_true.1 hlt e he) (fun i o ho=>by
  have:=DS.facts hssa (F0:=s.fr) ops.toList 0 0 (fun j o h=>by rw[Nat.zero_add,← Array.getElem?_toList];exact h) (fun _ _=>rfl) k4 i o (by rw[Array.getElem?_toList];exact ho)
  rw[Nat.zero_add]at this;exact this) ?_ _ _ _ _ (by simp) (by simp[List.count_replicate]) ?_)
 ·intro a' w' I' ι' hs' hx'
  exact⟨_,I',ι',k5,hs',hx'⟩
 ·have hsh:Shape w w.drew:=fun B cs t fr h=>⟨cs,h,rfl⟩
  have mv:∀ {x:AV} {v:Value},ARep w I ι x v→ARep w.drew I ι x v:=fun h=>h.move (w:=w) (w':=w.drew) (fun _ _=>rfl) (fun _ h=>h) (fun _ _ h=>h) hsh
  have hex:Ext w I ι s.H w.drew I ι s.H:=⟨rfl,rfl,rfl,k1v _,hsh,fun _ h=>h,fun _ _ _=>rfl,fun _ h=>.inl h,fun b B hb h=>.inr ⟨b,hb,h⟩⟩
  refine⟨0,I,ι,Nat.zero_le _,fun q e _=>⟨fun h=>?_,fun h=>absurd h (by omega)⟩,by rw[hs.fr.1,hlen],⟨hs.hN,fun d hd=>by rw[hH0];exact(hs.d d hd).move hex,hs.nd⟩,by rw[hH0];exact v3d hs.H,by rw[hH0];exact⟨hex,fun _ _=>rfl,hm⟩,fun t u hu hall=>?_,fun t u hu _=>mv (hs.fr.2 t u hu),fun j o _ hlj=>?_⟩
  ·rw[Array.getElem?_replicate]at h
   split at h <;> simp at h
  ·have hnone:∀ o∈ops.toList,o.dst≠some t:=fun o ho hd=>by
    obtain⟨j,hj⟩:=List.getElem?_of_mem ho
    rw[Array.getElem?_toList]at hj
    have:=hall j o hj hd
    rw[Array.getElem?_replicate]at this
    split at this <;> simp at this
   rw[hdst t hnone]at hu
   exact mv (hs.fr.2 t u hu)
  ·rw[Array.getElem?_replicate]at hlj
   split at hlj <;> simp at hlj
end
end
end Go.Proofs.YtkjklhcfgbaceaaGreat.AL
namespace Go.Proofs.YtkjklhcfgbaceaaGreat.AL
open Go Go.RowKit
def Wk (m:Nat)(s s2:St):Prop:=
 ∀ (N:Nat) (w:World) (I:Nat→Prop) (ι:Nat→Option Nat) (a:Act),Sim N w I ι s a→m≤s.H.length→∃ I2 ι2,Sim N w I2 ι2 s2 a∧Ex m w I ι s.H w I2 ι2 s2.H
section
variable {P:Program} {T:J1} {ro:Option Nat} {m:Nat} {s s2:St} {Q:Exit→St→Prop}
theorem Wk.refl (m:Nat)(s:St):Wk m s s:=fun _ _ I ι _ hs hm=>⟨I,ι,hs,Ex.refl hm⟩
theorem Wk.trans {s3:St}(h:Wk m s s2)(k:Wk m s2 s3):Wk m s s3:=fun N w I ι a hs hm=>by
 obtain⟨I2,ι2,h1,h2⟩:=h N w I ι a hs hm
 obtain⟨I3,ι3,h3,h4⟩:=k N w I2 ι2 a h1 h2.len
 exact⟨I3,ι3,h3,h2.trans h4⟩
theorem Z3 {c:Code}(h:Wk m s s2)(k:AW P ro m c s2 Q):AW P ro m c s Q:=fun N w I ι a hs hm=>by
 obtain⟨I2,ι2,h1,h2⟩:=h N w I ι a hs hm
 exact wpIn_mono (k N w I2 ι2 a h1 h2.len) fun _ _ _ hh=>hh.step h2
theorem v7y {c:Code}(h:AW P ro m c s (fun e s'=>∃ s2,Wk m s' s2∧Q e s2)):AW P ro m c s Q:=fun N w I ι a hs hm=>by
 refine wpIn_mono (h N w I ι a hs hm) ?_
 rintro e a' w' ⟨s',I',ι',⟨s2,hw,hq⟩,h1,h2⟩
 obtain⟨I2,ι2,h3,h4⟩:=hw N w' I' ι' a' h1 h2.len
 exact⟨s2,I2,ι2,hq,h3,h2.trans h4⟩
theorem Q3 {c:Code}(Inv:Nat→St→Prop)(n:Nat)(s0:St)(hw:Wk m s s0)(h0:Inv n s0)
 (round:∀ n s,Inv n s→AW P ro m c s (z8j (fun s'=>∃ k,k<n∧∃ s2,Wk m s' s2∧Inv k s2) Q)):AW P ro m (.loop c) s Q:=by
 refine Z3 hw (v7j Inv n h0 fun n s hI=>v7y ((round n s hI).mono ?_))
 intro e s' h
 cases e with
 |normal=>obtain⟨k,hk,s2,hw,hI⟩:=h;exact⟨s2,hw,k,hk,hI⟩
 |_=>exact⟨s',Wk.refl _ _,h⟩
mutual
def AV.ren (ρ:Nat→Nat):AV→AV
 |.p x=>.p x
 |.agg l=>.agg (q3c ρ l)
 |.tup l=>.tup (q3c ρ l)
 |.ref b o=>.ref (ρ b) o
 |.msl b s o n=>.msl (ρ b) s o n
 |.elr b s i o=>.elr (ρ b) s i o
 |.clo f c=>.clo f (q3c ρ c)
 |.mth f c=>.mth f (q3c ρ c)
 |.yld b=>.yld (ρ b)
 |.mp b=>.mp (ρ b)
 |.top=>.top
def q3c (ρ:Nat→Nat):List AV→List AV
 |[]=>[]
 |u :: r=>u.ren ρ :: q3c ρ r
end
theorem X7 (ρ:Nat→Nat):∀ l:List AV,q3c ρ l=l.map (AV.ren ρ)
 |[]=>rfl
 |u :: r=>by rw[q3c,X7 ρ r];rfl
def ABlk.ren (ρ:Nat→Nat):ABlk→ABlk
 |.dead=>.dead
 |.cells t l=>.cells t (q3c ρ l)
 |.row t sz xs=>.row t sz xs
 |.obj o=>.obj o
 |.lp q st pe l=>.lp q st pe (q3c ρ l)
theorem ARep.ren_of {w:World}{I:Nat→Prop}{ι:Nat→Option Nat}{ρ:Nat→Nat}{u:AV}{v:Value}(h:ARep w I (fun b=>ι (ρ b)) u v):ARep w I ι (u.ren ρ) v:=by
 induction h with
 |p h=>exact .p h
 |top v=>exact .top v
 |agg l vs hn _ ih=>
  refine .agg _ vs (by rw[X7];simpa using hn) (fun i u hu=>?_)
  rw[X7]at hu
  simp only[List.getElem?_map,Option.map_eq_some_iff]at hu
  obtain⟨x,hx,rfl⟩:=hu
  exact ih i x hx
 |tup l vs hn _ ih=>
  refine .tup _ vs (by rw[X7];simpa using hn) (fun i u hu=>?_)
  rw[X7]at hu
  simp only[List.getElem?_map,Option.map_eq_some_iff]at hu
  obtain⟨x,hx,rfl⟩:=hu
  exact ih i x hx
 |ref b off B h=>exact .ref _ off B h
 |msl b sz off len B c h hc hs=>exact .msl _ sz off len B c h hc hs
 |msl0 b sz off A=>exact .msl0 _ sz off A
 |elr b sz i off B h=>exact .elr _ sz i off B h
 |clo fn caps vs hn _ ih=>
  refine .clo fn _ vs (by rw[X7];simpa using hn) (fun i u hu=>?_)
  rw[X7]at hu
  simp only[List.getElem?_map,Option.map_eq_some_iff]at hu
  obtain⟨x,hx,rfl⟩:=hu
  exact ih i x hx
 |mth fn caps vs hn _ ih=>
  refine .mth fn _ vs (by rw[X7];simpa using hn) (fun i u hu=>?_)
  rw[X7]at hu
  simp only[List.getElem?_map,Option.map_eq_some_iff]at hu
  obtain⟨x,hx,rfl⟩:=hu
  exact ih i x hx
 |yld b B h=>exact .yld _ B h
 |mp b B h=>exact .mp _ B h
mutual
theorem q8x {w:World}{I:Nat→Prop}{ι:Nat→Option Nat}{ρ:Nat→Nat}:∀ (u:AV) {v:Value},ARep w I ι (u.ren ρ) v→ARep w I (fun b=>ι (ρ b)) u v
 |.p x,v,h=>by cases h with|p h=>exact .p h
 |.agg l,v,h=>by
  cases h with
  |agg _ vs hn h=>exact .agg l vs (by rw[X7]at hn;simpa using hn) (fun i u hu=>z3n l i u hu (h i (u.ren ρ) (by rw[X7,List.getElem?_map,hu];rfl)))
 |.tup l,v,h=>by
  cases h with
  |tup _ vs hn h=>exact .tup l vs (by rw[X7]at hn;simpa using hn) (fun i u hu=>z3n l i u hu (h i (u.ren ρ) (by rw[X7,List.getElem?_map,hu];rfl)))
 |.ref b o,v,h=>by cases h with|ref _ _ B h=>exact .ref b o B h
 |.msl b s o n,v,h=>by
  cases h with
  |msl _ _ _ _ B c h hc hs=>exact .msl b s o n B c h hc hs
  |msl0 _ _ _ A=>exact .msl0 b s o A
 |.elr b s i o,v,h=>by cases h with|elr _ _ _ _ B h=>exact .elr b s i o B h
 |.clo f c,v,h=>by
  cases h with
  |clo _ _ vs hn h=>exact .clo f c vs (by rw[X7]at hn;simpa using hn) (fun i u hu=>z3n c i u hu (h i (u.ren ρ) (by rw[X7,List.getElem?_map,hu];rfl)))
 |.mth f c,v,h=>by
  cases h with
  |mth _ _ vs hn h=>exact .mth f c vs (by rw[X7]at hn;simpa using hn) (fun i u hu=>z3n c i u hu (h i (u.ren ρ) (by rw[X7,List.getElem?_map,hu];rfl)))
 |.yld b,v,h=>by cases h with|yld _ B h=>exact .yld b B h
 |.mp b,v,h=>by cases h with|mp _ B h=>exact .mp b B h
 |.top,v,_=>.top v
theorem z3n {w:World}{I:Nat→Prop}{ι:Nat→Option Nat}{ρ:Nat→Nat}:∀ (l:List AV) (i:Nat) (u:AV),l[i]?=some u→∀ {v:Value},ARep w I ι (u.ren ρ) v→ARep w I (fun b=>ι (ρ b)) u v
 |[],i,u,hu,v,_=>by simp at hu
 |x :: r,0,u,hu,v,h=>by
  simp at hu
  subst hu
  exact q8x x h
 |x :: r,i+1,u,hu,v,h=>z3n r i u (by simpa using hu) h
end
def rho (n:Nat)(ps:List Nat)(b:Nat):Nat:=ps.getD b n
structure Sel (ps:List Nat) (H H2:List ABlk):Prop where
 len:H2.length=ps.length
 nodup:ps.Nodup
 blk:∀ (b:Nat) (k:ABlk),H2[b]?=some k→k=.dead∨∃ p:Nat,ps[b]?=some p∧H[p]?=some (k.ren (rho H.length ps))
theorem Sel.sim {w:World}{I:Nat→Prop}{ι:Nat→Option Nat}{ps:List Nat}{H H2:List ABlk}(h:Sel ps H H2)(hs:SimH w I ι H):SimH w I (fun b=>ι (rho H.length ps b)) H2:=by
 have hget:∀ b p,ps[b]?=some p→rho H.length ps b=p:=fun b p hb=>by simp[rho,List.getD_eq_getElem?_getD,hb]
 refine⟨fun b k hb=>?_,fun b b' B hb hb' h1 h2=>?_,hs.Ilt,fun b hb=>?_,fun b B hb=>hs.rng _ B hb⟩
 ·rcases h.blk b k hb with rfl|⟨p,hp,hk⟩
  ·trivial
  ·have h0:=hs.blk p _ hk
   cases k with
   |dead=>trivial
   |cells t l=>
    obtain⟨B,cs,g1,g2,g3,g4,g5⟩:=h0
    refine⟨B,cs,by show ι (rho H.length ps b)=_;rw[hget b p hp];exact g1,g2,g3,by rw[X7]at g4;simpa using g4,fun i u hu=>?_⟩
    exact q8x u (g5 i (u.ren _) (by rw[X7,k1z,hu];rfl))
   |lp q st pe l=>
    obtain⟨B,cs,g1,g2,g3,g4,g5⟩:=h0
    refine⟨B,cs,by show ι (rho H.length ps b)=_;rw[hget b p hp];exact g1,g2,g3,by rw[X7]at g4;simpa using g4,fun i u hu=>?_⟩
    exact q8x u (g5 i (u.ren _) (by rw[X7,k1z,hu];rfl))
   |row t sz xs=>
    rcases h0 with ⟨g1,g2⟩|⟨B,cs,g1,g2⟩
    ·exact .inl ⟨g1,by show ι (rho H.length ps b)=_;rw[hget b p hp];exact g2⟩
    ·exact .inr ⟨B,cs,by show ι (rho H.length ps b)=_;rw[hget b p hp];exact g1,g2⟩
   |obj o=>
    obtain⟨g0,B,g1,g2⟩:=h0
    exact⟨g0,B,by show ι (rho H.length ps b)=_;rw[hget b p hp];exact g1,g2⟩
 ·have hlv:∀ b,live H2 b→∃ p,ps[b]?=some p∧live H p:=fun b hb=>by
   obtain⟨k,hk,hl⟩:=hb
   rcases h.blk b k hk with rfl|⟨p,hp,hk'⟩
   ·simp[ABlk.live]at hl
   ·exact⟨p,hp,_,hk',by cases k <;> first|exact hl|rfl⟩
  obtain⟨p,hp,hlp⟩:=hlv b hb
  obtain⟨p',hp',hlp'⟩:=hlv b' hb'
  replace h1:ι (rho H.length ps b)=some B:=h1
  replace h2:ι (rho H.length ps b')=some B:=h2
  rw[hget b p hp]at h1
  rw[hget b' p' hp']at h2
  have:=hs.inj p p' B hlp hlp' h1 h2
  subst this
  obtain⟨l1,e1⟩:=k0t.1 hp
  obtain⟨l2,e2⟩:=k0t.1 hp'
  have hnd:=List.pairwise_iff_getElem.1 h.nodup
  rcases Nat.lt_trichotomy b b' with hlt|heq|hgt
  ·exact absurd (e1.trans e2.symm) (hnd b b' l1 l2 hlt)
  ·exact heq
  ·exact absurd (e2.trans e1.symm) (hnd b' b l2 l1 hgt)
 ·have:rho H.length ps b=H.length:=by
   unfold rho;rw[k0v,List.getElem?_eq_none (by rw[← h.len];exact hb)];rfl
  show ι (rho H.length ps b)=none
  rw[this];exact hs.dom _ (k1v _)
theorem Sel.live {ps:List Nat}{H H2:List ABlk}(h:Sel ps H H2){b:Nat}(hb:live H2 b):live H (rho H.length ps b):=by
 obtain⟨k,hk,hl⟩:=hb
 rcases h.blk b k hk with rfl|⟨p,hp,hk'⟩
 ·simp[ABlk.live]at hl
 ·have:rho H.length ps b=p:=by simp[rho,List.getD_eq_getElem?_getD,hp]
  rw[this]
  exact⟨_,hk',by cases k <;> first|exact hl|rfl⟩
theorem x3q {w:World}{I:Nat→Prop}(sz:Nat):PRep w I (.sl sz []) (.slice none 0 0):=
 .sl sz [] none 0 (fun _ _=>undef) (by simp) (by simp) (.inl rfl) (fun j e i u h=>by simp at h)
def Less (ρ:Nat→Nat)(u u2:AV):Prop:=u2=.top∨u=u2.ren ρ∨(∃ b sz off,u=.p (.raw (.slice none 0 0))∧u2=.msl b sz off 0)∨(∃ sz,u=.p (.raw (.slice none 0 0))∧u2=.p (.sl sz []))
theorem Less.rep {w:World}{I:Nat→Prop}{ι:Nat→Option Nat}{ρ:Nat→Nat}{u u2:AV}{v:Value}(h:Less ρ u u2)(hu:ARep w I ι u v):ARep w I (fun b=>ι (ρ b)) u2 v:=by
 rcases h with rfl|rfl|⟨b,sz,off,rfl,rfl⟩|⟨sz,rfl,rfl⟩
 ·exact .top v
 ·exact q8x u2 hu
 ·rw[Y9 hu];exact .msl0 b sz off none
 ·rw[Y9 hu];exact .p (x3q sz)
theorem Sim.turn {N:Nat}{w:World}{I I2:Nat→Prop}{ι ι2:Nat→Option Nat}{a:Act}{H2:List ABlk}{fr2:Fr}{m:Nat}(hs:Sim N w I ι s a)(hf:FrOk w I2 ι2 fr2 a.tmps)(hH:SimH w I2 ι2 H2)(hx:Ex m w I ι s.H w I2 ι2 H2):Sim N w I2 ι2 ⟨fr2,H2⟩ a:=
 ⟨hf,hH,hs.hN,fun d hd=>(hs.d d hd).move hx.ext,hs.nd⟩
theorem w1z (ps:List Nat)(h:Sel ps s.H s2.H)(hm:∀ b:Nat,b<m→ps[b]?=some b)(hlen:s2.fr.n=s.fr.n)
 (hfr:∀ (i:Nat) (u2:AV),W4 s2.fr.l i=some u2→∃ u,W4 s.fr.l i=some u∧Less (rho s.H.length ps) u u2):Wk m s s2:=fun N w I ι a hs hm0=>by
 have hx:Ex m w I ι s.H w I (fun b=>ι (rho s.H.length ps b)) s2.H:=by
  refine⟨⟨rfl,rfl,rfl,k1v _,Shape.refl w,fun _ h=>h,fun _ _ _=>rfl,fun _ h=>.inl h,fun b B hb hB=>.inr ⟨_,h.live hb,hB⟩⟩,fun b hb=>?_,?_⟩
  ·have:rho s.H.length ps b=b:=by simp[rho,List.getD_eq_getElem?_getD,hm b hb]
   show ι (rho s.H.length ps b)=ι b
   rw[this]
  ·rw[h.len]
   rcases Nat.eq_zero_or_pos m with h0|h0
   ·omega
   ·have:=(k0t.1 (hm (m - 1) (by omega))).1
    omega
 refine⟨I,fun b=>ι (rho s.H.length ps b),hs.turn ⟨by rw[hs.fr.1,hlen],fun i u2 hu=>?_⟩ (h.sim hs.H) hx,hx⟩
 obtain⟨u,hu',hl⟩:=hfr i u2 hu
 exact hl.rep (hs.fr.2 i u hu')
def w2a (T:J1)(H:List ABlk)(fr:Fr)(r:ResultVar)(K:AV→Prop):Prop:=
 match r with
 |.tmp t=>W7 (W4 fr.l t) K
 |.cell a t=>W7 (W4 fr.l a) fun ua=>W7 (T t) fun ti=>chk (q0x ti.d||ti.size==1) <| y2q H ua ti.size fun us=>K (q7t ti.d us)
def u0x (T:J1)(H:List ABlk)(fr:Fr):List ResultVar→(List AV→Prop)→Prop
 |[],K=>K []
 |r :: rs,K=>w2a T H fr r fun u=>q5z u fun u=>u0x T H fr rs fun us=>K (u :: us)
def u0y (T:J1)(H:List ABlk)(fr:Fr)(rs:List ResultVar)(K:AV→Prop):Prop:=
 u0x T H fr rs fun us=>match us with
  |[u]=>K u
  |us=>K (.tup us)
theorem w2b (hT:TOk P T){w:World}{I:Nat→Prop}{ι:Nat→Option Nat}{H:List ABlk}{t:TypeId}{ti:TI}(hti:T t=some ti)(c1:(q0x ti.d||ti.size==1)=true){x:AV}{vx:Value}{K:List AV→Prop}
 (hs:SimH w I ι H) (hx:ARep w I ι x vx) (h:y2q H x ti.size K):∃ us ad v,K us∧vx=.pointer (some ad)∧(loadVar t ad).run P w=.ok v w∧ARep w I ι (q7t ti.d us) v:=by
 obtain⟨i,d,z,h1,h2,h3,h4,h5,h6,h7,h8⟩:=tok hT hti
 obtain⟨us,B,off,vs,k1,k2,k3,k4,k5,k6⟩:=w4w hs hx h
 cases hrow:q0x ti.d with
 |true=>
  have hd:d.isRow=true:=by rw[← q5y,← h4];exact hrow
  refine⟨us,_,.agg vs.toArray,k1,k2,run_loadVar_mid (P:=P) w B off t vs d k5 h2 hd (by rw[h1,k4];simp[h5]),?_⟩
  have:q7t ti.d us=.agg us:=by cases hdd:ti.d <;> simp[hdd,q0x]at hrow <;> rfl
  rw[this]
  exact .agg us vs.toArray (by simp[k3,k4]) (fun i u hu=>by rw[U7];exact k6 i u hu)
 |false=>
  have hd:d.isRow=false:=by rw[← q5y,← h4];exact hrow
  rw[hrow]at c1
  have hsz:ti.size=1:=by simpa using c1
  rw[hsz]at k3 k4
  obtain⟨u,rfl⟩:=List.length_eq_one_iff.1 k3
  obtain⟨v,rfl⟩:=List.length_eq_one_iff.1 k4
  have hcell:w.cell? ⟨B,off,none⟩=some v:=by simpa using k5 0 v rfl
  have hagg:(isAgg t).run P w=.ok false w:=by
   unfold isAgg
   rw[Sem.run_bind,run_underlying h2 w]
   cases d <;> simp_all
  refine⟨[u],_,v,k1,k2,by simp[loadVar,hagg,load,Sem.run,hcell],?_⟩
  have:q7t ti.d [u]=u:=by cases hdd:ti.d <;> simp[hdd,q0x]at hrow <;> rfl
  rw[this]
  exact k6 0 u rfl
def w5i (tmps:Array Value):ResultVar→Sem Value
 |.tmp t=>pure (tmps.getD t undef)
 |.cell a t=>do loadVar t (← asAddr (tmps.getD a undef))
theorem w7q (hT:TOk P T){w:World}{I:Nat→Prop}{ι:Nat→Option Nat}{H:List ABlk}{fr:Fr}{tmps:Array Value}(hs:SimH w I ι H)(hf:FrOk w I ι fr tmps){r:ResultVar}{K:AV→Prop}(h:w2a T H fr r K) :
 ∃ u v,K u∧(w5i tmps r).run P w=.ok v w∧ARep w I ι u v:=by
 cases r with
 |tmp t=>
  obtain⟨u,hu,h⟩:=V0 h
  exact⟨u,_,h,rfl,hf.2 t u hu⟩
 |cell a t=>
  simp only[w2a]at h
  obtain⟨ua,hua,h⟩:=V0 h
  obtain⟨ti,hti,h⟩:=V0 h
  obtain⟨c1,h⟩:=J4 h
  obtain⟨us,ad,v,k1,k2,k3,k4⟩:=w2b hT hti c1 hs (hf.2 a ua hua) h
  exact⟨_,v,k1,by simp only[w5i,k2];simp[asAddr,k3],k4⟩
theorem w5j (hT:TOk P T){w:World}{I:Nat→Prop}{ι:Nat→Option Nat}{H:List ABlk}{fr:Fr}{tmps:Array Value}(hs:SimH w I ι H)(hf:FrOk w I ι fr tmps):∀ (rs:List ResultVar) {K:List AV→Prop},u0x T H fr rs K →
 ∃ us vs,K us∧(rs.mapM (w5i tmps)).run P w=.ok vs w∧us.length=vs.length∧∀ (i:Nat) u,us[i]?=some u→ARep w I ι u (vs.getD i undef)
 |[],K,h=>⟨[],[],h,by simp,rfl,fun i u hu=>by simp at hu⟩
 |r :: rs,K,h=>by
  obtain⟨u,v,h1,h2,h3⟩:=w7q hT hs hf h
  rw[q4r]at h1
  obtain⟨us,vs,k1,k2,k3,k4⟩:=w5j hT hs hf rs h1
  refine⟨u :: us,v :: vs,k1,by simp[List.mapM_cons,h2,k2],by simp[k3],fun i x hx=>?_⟩
  cases i with
  |zero=>simp at hx;subst hx;exact h3
  |succ i=>simp at hx;exact k4 i x hx
theorem v7z (hT:TOk P T){fn:Func}{w:World}{I:Nat→Prop}{ι:Nat→Option Nat}{H:List ABlk}{fr:Fr}{tmps:Array Value}(hs:SimH w I ι H)(hf:FrOk w I ι fr tmps){K:AV→Prop}(h:u0y T H fr fn.results.toList K) :
 ∃ u v,K u∧(results fn tmps).run P w=.ok v w∧ARep w I ι u v:=by
 obtain⟨us,vs,h1,h2,h3,h4⟩:=w5j hT hs hf _ h
 have hrun:(results fn tmps).run P w=.ok (if h:vs.toArray.size=1 then vs.toArray[0] else .tuple vs.toArray) w:=by
  have e:results fn tmps=(do
   let vs ← fn.results.mapM (w5i tmps)
   pure (if h:vs.size=1 then vs[0] else .tuple vs)):=by
   unfold results
   congr 1
  rw[e,Sem.run_bind,Array.mapM_eq_mapM_toList]
  simp[h2]
 rcases us with _|⟨u,_|⟨u',us⟩⟩
 ·have:vs=[]:=List.length_eq_zero_iff.1 h3.symm
  subst this
  exact⟨_,_,h1,hrun,.tup [] #[] rfl (fun i u hu=>by simp at hu)⟩
 ·obtain⟨v,rfl⟩:=List.length_eq_one_iff.1 h3.symm
  exact⟨_,_,h1,hrun,h4 0 u rfl⟩
 ·refine⟨_,_,h1,hrun,?_⟩
  have hne:¬ vs.toArray.size=1:=by
   have:vs.length=us.length+2:=by rw[← h3];simp
   simp[this]
  rw[dif_neg hne]
  exact .tup _ vs.toArray (by simp[← h3]) (fun i u hu=>by rw[U7];exact h4 i u hu)
def w5k (T:J1)(m:Nat)(fn:Func)(R:AV→List ABlk→Prop):Exit→St→Prop
 |.normal,s|.ret,s=>u0y T s.H s.fr fn.results.toList fun u=>∃ u2 H2,Wk m ⟨⟨1,[(0,u)]⟩,s.H⟩ ⟨⟨1,[(0,u2)]⟩,H2⟩∧R u2 H2
 |_,_=>False
def z3p:Nat→List AV→List (Nat × AV)
 |_,[]=>[]
 |k,u :: r=>(k,u) :: z3p (k+1) r
theorem y1d:∀ (l:List AV) (k t:Nat),W4 (z3p k l) t=if k≤t then l[t - k]? else none
 |[],k,t=>by simp[z3p,W4]
 |u :: r,k,t=>by
  unfold z3p
  by_cases e:k=t
  ·subst e;rw[U3,if_pos (k1v _)];simp
  ·rw[V4 _ _ e,y1d r (k+1) t]
   by_cases h:k≤t
   ·rw[if_pos (by omega),if_pos h]
    obtain⟨d,rfl⟩:∃ d,t=k+1+d:=⟨t - (k+1),by omega⟩
    rw[show k+1+d - (k+1)=d by omega,show k+1+d - k=d+1 by omega,List.getElem?_cons_succ]
   ·rw[if_neg (by omega),if_neg h]
theorem v8a {w:World}{I:Nat→Prop}{ι:Nat→Option Nat}{H:List ABlk}{D:Nat}{o o':Obj}(hs:SimH w I ι H)(h0:w.heap[D]?=some o)(hno:o.noCells)(hI:¬ I D)(hl:∀ b,live H b→ι b≠some D) :
 SimH (w.putObj D o') I ι H∧Shape w (w.putObj D o'):=by
 have hoth:∀ k,k≠D→(w.putObj D o').heap[k]?=w.heap[k]?:=fun k hk=>World.putObj_heap_other hk
 have hsh:Shape w (w.putObj D o'):=fun B cs t fr h=>by
  by_cases e:B=D
  ·subst e;rw[h0]at h;exact absurd (k0x h) (hno cs t fr)
  ·exact⟨cs,by rw[hoth B e];exact h,rfl⟩
 have hI':∀ B,I B→(w.putObj D o').heap[B]?=w.heap[B]?:=fun B hB=>hoth B (fun e=>hI (e ▸ hB))
 refine⟨⟨fun b k hb=>?_,hs.inj,fun B hB=>by rw[World.putObj_size];exact hs.Ilt B hB,hs.dom,fun b B hb=>by rw[World.putObj_size];exact hs.rng b B hb⟩,hsh⟩
 have h:=hs.blk b k hb
 have hne:∀ B,k.live=true→ι b=some B→B≠D:=fun B hk hB e=>hl b ⟨k,hb,hk⟩ (e ▸ hB)
 cases k with
 |dead=>trivial
 |cells t l=>
  obtain⟨B,cs,g1,g2,g3,g4,g5⟩:=h
  exact⟨B,cs,g1,by rw[hoth B (hne B rfl g1)];exact g2,g3,g4,fun i u hu=>(g5 i u hu).move hI' (fun _ h=>h) (fun _ _ h=>h) hsh⟩
 |lp q st pe l=>
  obtain⟨B,cs,g1,g2,g3,g4,g5⟩:=h
  exact⟨B,cs,g1,by rw[hoth B (hne B rfl g1)];exact g2,g3,g4,fun i u hu=>(g5 i u hu).move hI' (fun _ h=>h) (fun _ _ h=>h) hsh⟩
 |row t sz xs=>
  rcases h with g0|⟨B,cs,g1,g2,g3,g4,g5,g6⟩
  ·exact .inl g0
  ·exact .inr ⟨B,cs,g1,by rw[hoth B (hne B rfl g1)];exact g2,g3,g4,g5,fun j e hj=>⟨(g6 j e hj).1,fun i u hu=>((g6 j e hj).2 i u hu).move hI' (fun _ h=>h)⟩⟩
 |obj q=>
  obtain⟨g0,B,g1,g2,g3⟩:=h
  exact⟨g0,B,g1,by rw[hoth B (hne B rfl g1)];exact g2,g3⟩
theorem u0z {w0 w:World}{I0 I:Nat→Prop}{ι0 ι:Nat→Option Nat}{H0 H:List ABlk}{D:Nat}{o:Obj}(h:Ex m w0 I0 ι0 H0 w I ι H)(hD:w0.heap.size≤D)(hsh:Shape w (w.putObj D o)):Ex m w0 I0 ι0 H0 (w.putObj D o) I ι H:=by
 have x:=h.ext
 exact⟨⟨x.os,x.tape,x.output,by rw[World.putObj_size];exact x.size,x.shape.trans hsh,x.Isub,fun B hB hn=>by rw[World.putObj_heap_other (by omega)];exact x.frame B hB hn,x.Inew,x.own⟩,h.keep,h.len⟩
theorem y1e (d:Option (List Deferred)):(Obj.deferred d).noCells:=fun _ _ _ h=>by cases h
theorem q5d (hT:TOk P T){fn:Func}{fr:Fr}{tmps:Array Value}{w0:World}{I0:Nat→Prop}{ι0:Nat→Option Nat}{H0:List ABlk}{R:AV→List ABlk→Prop}:∀ (ds:List Deferred) (w:World) (I:Nat→Prop) (ι:Nat→Option Nat) (H:List ABlk),
 FrOk w I ι fr tmps→SimH w I ι H→(∀ d∈ds,Mark w0.heap.size w I ι H d)→ds.Pairwise (fun x y=>x.target≠y.target)→Ex m w0 I0 ι0 H0 w I ι H →
 (u0y T H fr fn.results.toList fun u=>∃ u2 H2,Wk m ⟨⟨1,[(0,u)]⟩,H⟩ ⟨⟨1,[(0,u2)]⟩,H2⟩∧R u2 H2) →
 LeavesInM Fence.wide 0 P fn tmps (fun e w'=>∃ v r H' I' ι',e=.returned v∧R r H'∧ARep w' I' ι' r v∧SimH w' I' ι' H'∧Ex m w0 I0 ι0 H0 w' I' ι' H') ds .returning w
 |[],w,I,ι,H,hf,hs,_,_,hx,hr=>by
  obtain⟨u,v,⟨u2,H2,k1,k2⟩,k3,k4⟩:=v7z hT hs hf hr
  obtain⟨I2,ι2,k5,k6⟩:=k1 0 w I ι { tmps:=#[v],defers:=[] } ⟨⟨rfl,fun i x hx=>by
   by_cases e:0=i
   ·subst e;rw[U3]at hx;obtain rfl:=k0x hx;exact k4
   ·rw[V4 _ _ e]at hx;simp[W4]at hx⟩,hs,Nat.zero_le _,fun d hd=>by simp at hd,List.Pairwise.nil⟩ hx.len
  exact⟨v,k3,v,u2,H2,I2,ι2,rfl,k2,k5.fr.2 0 u2 rfl,k5.H,hx.trans k6⟩
 |d :: ds,w,I,ι,H,hf,hs,hm,hnd,hx,hr=>by
  obtain⟨D,rfl,hD,hh,hI,hl⟩:=hm d List.mem_cons_self
  obtain⟨s1,hsh⟩:=v8a (o':=.deferred none) hs hh (y1e _) hI hl
  have hI':∀ B,I B→(w.putObj D (.deferred none)).heap[B]?=w.heap[B]?:=fun B hB=>World.putObj_heap_other (fun e=>hI (e ▸ hB))
  rw[List.pairwise_cons]at hnd
  refine⟨by simp,.inl ⟨D,w.putObj D (.deferred none),rfl,run_takeDeferred hh,?_⟩⟩
  refine q5d hT ds _ I ι H ⟨hf.1,fun i u hu=>(hf.2 i u hu).move hI' (fun _ h=>h) (fun _ _ h=>h) hsh⟩ s1 (fun d hd=>?_) hnd.2 (u0z hx hD hsh) hr
  obtain⟨D',rfl,hD',hh',hI'',hl'⟩:=hm d (List.mem_cons_of_mem _ hd)
  have hne:D'≠D:=fun e=>hnd.1 _ hd (by rw[e])
  exact⟨D',rfl,hD',by rw[World.putObj_heap_other hne];exact hh',hI'',hl'⟩
theorem Q8 (hT:TOk P T){f:FuncId}{fn:Func}{c:Code}{args:List AV}{H:List ABlk}{R:AV→List ABlk→Prop}{n:Nat}(hf:P.funcs[f]?=some fn)(hb:fn.body=some c) (hname:(fn.name == "runtime.NumGoroutine")=false) (hn0:fn.ntmps=n) (hn1:Nat.ble args.length n=true)
 (h:AW P none H.length c ⟨⟨n,z3p 0 args⟩,H⟩ (w5k T H.length fn R)):AF P f args H R:=by
 have hn1:=Nat.le_of_ble_eq_true hn1
 refine⟨⟨fn,hf,by rw[hb];rfl,hname⟩,fun w I ι vals hn ha hs=>(callsIn_wide (n:=0)).1 (callsIn_of_wp_marks hf hb trivial ?_ rfl)⟩
 have hsim:Sim w.heap.size w I ι ⟨⟨n,z3p 0 args⟩,H⟩ { tmps:=vals++Array.replicate (fn.ntmps - vals.size) undef,defers:=[] }:=by
  refine⟨⟨by simp[hn,hn0];omega,fun i u hu=>?_⟩,hs,k1v _,fun d hd=>by simp at hd,List.Pairwise.nil⟩
  rw[y1d,if_pos (Nat.zero_le _),Nat.sub_zero]at hu
  have hlt:i<args.length:=(k0t.1 hu).1
  have:=ha i u hu
  rw[k2q]at this ⊢
  rw[Array.getElem?_append_left (by omega)]
  exact this
 refine wpIn_mono (h _ w I ι _ hsim (k1v _)) ?_
 rintro e a' w' ⟨s',I',ι',hq,h1,h2⟩
 cases e with
 |normal=>exact q5d hT _ _ _ _ _ h1.fr h1.H h1.d h1.nd h2 hq
 |ret=>exact q5d hT _ _ _ _ _ h1.fr h1.H h1.d h1.nd h2 hq
 |exit id=>exact hq.elim
 |goto l=>exact hq.elim
 |panic ch=>exact hq.elim
 |outgrown=>exact hq.elim
end
end Go.Proofs.YtkjklhcfgbaceaaGreat.AL
namespace Go.Proofs.YtkjklhcfgbaceaaGreat.AL
open Go Go.RowKit
section
variable {P:Program} {T:J1} {m:Nat} {s s2:St} {Q:Exit→St→Prop}
theorem z5f {f:FuncId}{args:List AV}{H:List ABlk}{R R':AV→List ABlk→Prop}(h:AF P f args H R)
 (hR:∀ r H',R r H'→∃ r2 H2,Wk H.length ⟨⟨1,[(0,r)]⟩,H'⟩ ⟨⟨1,[(0,r2)]⟩,H2⟩∧R' r2 H2):AF P f args H R':=by
 refine⟨h.1,fun w I ι vals hn ha hs=>(h.2 w I ι vals hn ha hs).mono ?_⟩
 rintro e w' ⟨v,r,H',I',ι',he,h1,h2,h3,h4⟩
 obtain⟨r2,H2,k1,k2⟩:=hR r H' h1
 obtain⟨I2,ι2,k5,k6⟩:=k1 0 w' I' ι' { tmps:=#[v],defers:=[] } ⟨⟨rfl,fun i x hx=>by
  by_cases e:0=i
  ·subst e;rw[U3]at hx;obtain rfl:=k0x hx;exact h2
  ·rw[V4 _ _ e]at hx;simp[W4]at hx⟩,h3,Nat.zero_le _,fun d hd=>by simp at hd,List.Pairwise.nil⟩ h4.len
 exact⟨v,r2,H2,I2,ι2,he,k2,k5.fr.2 0 r2 rfl,k5.H,h4.trans k6⟩
def Frz (b sz:Nat)(xs:List (List PV))(u u2:AV):Prop:=u2=u∨(∃ off len,u=.msl b sz off len∧off+len≤xs.length∧u2=.p (.sl sz ((xs.drop off).take len)))∨∃ off len v,u=.tup [.msl b sz off len,v]∧off+len≤xs.length∧u2=.tup [.p (.sl sz ((xs.drop off).take len)),v]
theorem x0q (b:Nat){t:TypeId}{sz:Nat}{xs:List (List PV)}(hb:s.H[b]?=some (.row t sz xs))(hH:s2.H=s.H.set b .dead)(hn:s2.fr.n=s.fr.n)
 (hfr:∀ (i:Nat) (u2:AV),W4 s2.fr.l i=some u2→∃ u,W4 s.fr.l i=some u∧Frz b sz xs u u2):Wk m s s2:=fun N w I ι a hs hm=>by
 have hlive:live s.H b:=⟨_,hb,rfl⟩
 obtain⟨k1,k2⟩:=hs.H.freeze b hlive
 have hblk:=hs.H.blk b _ hb
 rw[← hH]at k1 k2
 refine⟨_,ι,hs.turn ⟨by rw[hs.fr.1,hn],fun i u2 hu2=>?_⟩ k1 (k2.less hm),k2.less hm⟩
 obtain⟨u,hu,hz⟩:=hfr i u2 hu2
 have hu:=hs.fr.2 i u hu
 have hsl:∀ (v:Value) (off len:Nat),off+len≤xs.length→ARep w I ι (.msl b sz off len) v→PRep w (fun C=>I C∨ι b=some C) (.sl sz ((xs.drop off).take len)) v:=by
  intro v off len hle hu
  cases hu with
  |msl _ _ _ _ B c hB hc hsz=>
   rcases hblk with ⟨_,g1⟩|⟨B',cs,g1,g2,g3,g4,gl,g6⟩
   ·rw[g1]at hB;exact absurd hB (by simp)
   ·rw[g1]at hB;obtain rfl:=k0x hB
    exact x3g (fun _ h=>.inl h) (.inr g1) g2 g4 gl g6 hle hc
  |msl0 _ _ _ A=>
   have:=PRep.sl (w:=w) (I:=fun C=>I C∨ι b=some C) sz [] A 0 (fun _ _=>undef) (by simp) (by simp) (.inl rfl) (fun j e i u h=>by simp at h)
   simp only[List.take_zero]
   exact this
 rcases hz with rfl|⟨off,len,rfl,hle,rfl⟩|⟨off,len,v,rfl,hle,rfl⟩
 ·exact hu.move (fun _ _=>rfl) (fun _ h=>.inl h) (fun _ _ h=>h) (Shape.refl w)
 ·exact .p (hsl _ off len hle hu)
 ·generalize a.tmps.getD i undef=x at hu
  cases hu with
  |tup _ vs hn hr=>
   refine .tup _ vs hn fun j u hj=>?_
   match j,hj with
   |0,hj=>
    simp at hj;subst hj
    exact .p (hsl _ off len hle (hr 0 _ rfl))
   |1,hj=>exact(hr 1 u hj).move (fun _ _=>rfl) (fun _ h=>.inl h) (fun _ _ h=>h) (Shape.refl w)
   |j+2,hj=>simp at hj
def q1g (n:Nat)(ps:List Nat)(b:Nat):Nat:=if b<ps.length then ps.getD b n else n+(b - ps.length)
structure MergeOk (ps:List Nat) (H H1' H':List ABlk):Prop where
 len:H'.length=H.length+(H1'.length - ps.length)
 old:∀ (j p:Nat) (k:ABlk),ps[j]?=some p→H1'[j]?=some k→H'[p]?=some (k.ren (q1g H.length ps))
 other:∀ b:Nat,b<H.length→b ∉ ps→H'[b]?=H[b]?
 new:∀ (d:Nat) (k:ABlk),H1'[ps.length+d]?=some k→H'[H.length+d]?=some (k.ren (q1g H.length ps))
theorem v3e {w w':World}{I I':Nat→Prop}{ι ι1:Nat→Option Nat}{H H1 H1' H':List ABlk}{ps:List Nat}{r1:AV}{v:Value}(hs:SimH w I ι H)(hsel:Sel ps H H1)(hlt:∀ p∈ps,p<H.length)
 (h2:ARep w' I' ι1 r1 v) (h3:SimH w' I' ι1 H1') (h4:Ex H1.length w I (fun b=>ι (rho H.length ps b)) H1 w' I' ι1 H1') (hm:MergeOk ps H H1' H') :
 ∃ ι',ARep w' I' ι' (r1.ren (q1g H.length ps)) v∧SimH w' I' ι' H'∧Ex H.length w I ι H w' I' ι' H':=by
 have hs1:=hsel.sim hs
 have x:=h4.ext
 have hlen1:H1.length=ps.length:=hsel.len
 have hl1:ps.length≤H1'.length:=by rw[← hlen1];exact h4.len
 let ι':Nat→Option Nat:=fun b=>if b<H.length then ι b else ι1 (ps.length+(b - H.length))
 have hrho:∀ b p,ps[b]?=some p→rho H.length ps b=p:=fun b p hb=>by simp[rho,List.getD_eq_getElem?_getD,hb]
 have hkey:∀ b,ι1 b=ι' (q1g H.length ps b):=by
  intro b
  unfold q1g
  split
  ·rename_i hb
   have hp:ps[b]?=some ps[b]:=k0w hb
   have hpl:=hlt _ (k1w hb)
   rw[k0v,hp]
   simp only[Option.getD_some,ι']
   rw[if_pos hpl,h4.keep b (by rw[hlen1];exact hb)]
   show ι (rho H.length ps b)=_
   rw[hrho b _ hp]
  ·rename_i hb
   simp only[ι']
   rw[if_neg (by omega)]
   congr 1;omega
 have hkey':ι1=fun b=>ι' (q1g H.length ps b):=funext hkey
 have hold:∀ b B,ι b=some B→ι' b=some B:=fun b B hb=>by
  have:b<H.length:=by
   rcases Nat.lt_or_ge b H.length with h|h
   ·exact h
   ·rw[hs.dom b h]at hb;exact absurd hb (by simp)
  simp only[ι'];rw[if_pos this];exact hb
 have hlive1:∀ b,live H1 b→live H (rho H.length ps b):=fun b hb=>hsel.live hb
 have hcase:∀ (b:Nat) (k:ABlk),H'[b]?=some k→(∃ j k1,H1'[j]?=some k1∧b=q1g H.length ps j∧k=k1.ren (q1g H.length ps))∨(b<H.length∧b ∉ ps∧H[b]?=some k):=by
  intro b k hk
  rcases Nat.lt_or_ge b H.length with hb|hb
  ·by_cases hbp:b∈ps
   ·obtain⟨j,hj⟩:=List.getElem?_of_mem hbp
    have hjl:j<ps.length:=(k0t.1 hj).1
    have hj1:H1'[j]?=some H1'[j]:=k0w (by omega)
    have:=hm.old j b _ hj hj1
    rw[hk]at this
    refine .inl ⟨j,_,hj1,?_,k0x this⟩
    unfold q1g;rw[if_pos hjl,k0v,hj];rfl
   ·rw[hm.other b hb hbp]at hk
    exact .inr ⟨hb,hbp,hk⟩
  ·have hbl:b<H'.length:=(k0t.1 hk).1
   have hml:=hm.len
   obtain⟨d,rfl⟩:∃ d,b=H.length+d:=⟨b - H.length,by omega⟩
   have hd:ps.length+d<H1'.length:=by omega
   have hj1:H1'[ps.length+d]?=some H1'[ps.length+d]:=k0w hd
   have:=hm.new d _ hj1
   rw[hk]at this
   refine .inl ⟨ps.length+d,_,hj1,?_,k0x this⟩
   unfold q1g;rw[if_neg (by omega)];omega
 have hlive':∀ b,live H' b→(∃ j,live H1' j∧b=q1g H.length ps j)∨(b<H.length∧b ∉ ps∧live H b):=by
  rintro b ⟨k,hk,hl⟩
  rcases hcase b k hk with ⟨j,k1,h1,h2,h3⟩|⟨h1,h2,h3⟩
  ·exact .inl ⟨j,⟨k1,h1,by subst h3;cases k1 <;> first|exact hl|rfl⟩,h2⟩
  ·exact .inr ⟨h1,h2,k,h3,hl⟩
 have hunp:∀ b B,b<H.length→b ∉ ps→live H b→ι b=some B→(¬ ∃ b1,live H1 b1∧ι (rho H.length ps b1)=some B):=by
  rintro b B hb hbp hl hB ⟨b1,hl1,hB1⟩
  have:=hs.inj _ _ B (hlive1 b1 hl1) hl hB1 hB
  have hb1:b1<ps.length:=by rw[← hlen1];exact J6 hl1
  have hp:ps[b1]?=some ps[b1]:=k0w hb1
  rw[hrho b1 _ hp]at this
  exact hbp (this ▸ k1w hb1)
 have hImv:∀ C,I C→w'.heap[C]?=w.heap[C]?:=x.keepsI hs1
 refine⟨ι',?_,⟨fun b k hk=>?_,fun b b' B hb hb' e1 e2=>?_,h3.Ilt,fun b hb=>?_,fun b B hb=>?_⟩,⟨⟨x.os,x.tape,x.output,x.size,x.shape,x.Isub,fun C hC hn=>?_,fun C hC=>?_,fun b B hb hB=>?_⟩,fun b hb=>?_,?_⟩⟩
 ·rw[hkey']at h2;exact h2.ren_of
 ·rcases hcase b k hk with ⟨j,k1,h1,rfl,rfl⟩|⟨hb,hbp,hk0⟩
  ·have h0:=h3.blk j k1 h1
   cases k1 with
   |dead=>trivial
   |cells t l=>
    obtain⟨B,cs,g1,g2,g3,g4,g5⟩:=h0
    refine⟨B,cs,by rw[← hkey];exact g1,g2,g3,by rw[X7];simpa using g4,fun i u hu=>?_⟩
    rw[X7,k1z,Option.map_eq_some_iff]at hu
    obtain⟨y,hy,rfl⟩:=hu
    have:=g5 i y hy
    rw[hkey']at this
    exact this.ren_of
   |lp q st pe l=>
    obtain⟨B,cs,g1,g2,g3,g4,g5⟩:=h0
    refine⟨B,cs,by rw[← hkey];exact g1,g2,g3,by rw[X7];simpa using g4,fun i u hu=>?_⟩
    rw[X7,k1z,Option.map_eq_some_iff]at hu
    obtain⟨y,hy,rfl⟩:=hu
    have:=g5 i y hy
    rw[hkey']at this
    exact this.ren_of
   |row t sz xs=>
    rcases h0 with ⟨g1,g2⟩|⟨B,cs,g1,g2⟩
    ·exact .inl ⟨g1,by rw[← hkey];exact g2⟩
    ·exact .inr ⟨B,cs,by rw[← hkey];exact g1,g2⟩
   |obj o=>
    obtain⟨g0,B,g1,g2⟩:=h0
    exact⟨g0,B,by rw[← hkey];exact g1,g2⟩
  ·have h0:=hs.blk b k hk0
   have hI':∀ B,live H b→ι b=some B→B<w.heap.size→¬ I' B:=fun B hl hB hBl hI=>by
    rcases x.Inew B hI with h|h|h
    ·exact hs.notI hl hB h
    ·omega
    ·exact hunp b B hb hbp hl hB h
   cases k with
   |dead=>trivial
   |cells t l=>
    obtain⟨B,cs,g1,g2,g3,g4,g5⟩:=h0
    have hl:live H b:=⟨_,hk0,rfl⟩
    refine⟨B,cs,hold b B g1,by rw[x.frame B (hs.rng b B g1) (hunp b B hb hbp hl g1)];exact g2,hI' B hl g1 (hs.rng b B g1),g4,fun i u hu=>(g5 i u hu).move hImv x.Isub hold x.shape⟩
   |lp q st pe l=>
    obtain⟨B,cs,g1,g2,g3,g4,g5⟩:=h0
    have hl:live H b:=⟨_,hk0,rfl⟩
    refine⟨B,cs,hold b B g1,by rw[x.frame B (hs.rng b B g1) (hunp b B hb hbp hl g1)];exact g2,hI' B hl g1 (hs.rng b B g1),g4,fun i u hu=>(g5 i u hu).move hImv x.Isub hold x.shape⟩
   |row t sz xs=>
    rcases h0 with ⟨g1,g2⟩|⟨B,cs,g1,g2,g3,g4,g5,g6⟩
    ·exact .inl ⟨g1,by simp only[ι'];rw[if_pos hb];exact g2⟩
    ·have hl:live H b:=⟨_,hk0,rfl⟩
     exact .inr ⟨B,cs,hold b B g1,by rw[x.frame B (hs.rng b B g1) (hunp b B hb hbp hl g1)];exact g2,hI' B hl g1 (hs.rng b B g1),g4,g5,fun j e hj=>⟨(g6 j e hj).1,fun i u hu=>((g6 j e hj).2 i u hu).move hImv x.Isub⟩⟩
   |obj o=>
    obtain⟨g0,B,g1,g2,g3⟩:=h0
    have hl:live H b:=⟨_,hk0,rfl⟩
    exact⟨g0,B,hold b B g1,by rw[x.frame B (hs.rng b B g1) (hunp b B hb hbp hl g1)];exact g2,hI' B hl g1 (hs.rng b B g1)⟩
 ·rcases hlive' b hb with ⟨j,hj,rfl⟩|⟨q1,q2,q3⟩ <;> rcases hlive' b' hb' with ⟨j',hj',rfl⟩|⟨q1',q2',q3'⟩
  ·rw[← hkey]at e1 e2
   rw[h3.inj j j' B hj hj' e1 e2]
  ·rw[← hkey]at e1
   simp only[ι']at e2;rw[if_pos q1']at e2
   rcases x.own j B hj e1 with h|h
   ·have:=hs.rng b' B e2;omega
   ·exact absurd h (hunp b' B q1' q2' q3' e2)
  ·rw[← hkey]at e2
   simp only[ι']at e1;rw[if_pos q1]at e1
   rcases x.own j' B hj' e2 with h|h
   ·have:=hs.rng b B e1;omega
   ·exact absurd h (hunp b B q1 q2 q3 e1)
  ·simp only[ι']at e1 e2;rw[if_pos q1]at e1;rw[if_pos q1']at e2
   exact hs.inj b b' B q3 q3' e1 e2
 ·have hml:=hm.len
  simp only[ι'];rw[if_neg (by omega)]
  exact h3.dom _ (by omega)
 ·simp only[ι']at hb
  split at hb
  ·have:=hs.rng b B hb;have:=x.size;omega
  ·exact h3.rng _ B hb
 ·refine x.frame C hC ?_
  rintro⟨b1,hl1,hB1⟩
  exact hn ⟨_,hlive1 b1 hl1,hB1⟩
 ·rcases x.Inew C hC with h|h|⟨b1,hl1,hB1⟩
  ·exact .inl h
  ·exact .inr (.inl h)
  ·exact .inr (.inr ⟨_,hlive1 b1 hl1,hB1⟩)
 ·rcases hlive' b hb with ⟨j,hj,rfl⟩|⟨q1,q2,q3⟩
  ·rw[← hkey]at hB
   rcases x.own j B hj hB with h|⟨b1,hl1,hB1⟩
   ·exact .inl h
   ·exact .inr ⟨_,hlive1 b1 hl1,hB1⟩
  ·simp only[ι']at hB;rw[if_pos q1]at hB
   exact .inr ⟨b,q3,hB⟩
 ·simp only[ι'];rw[if_pos hb]
 ·have hml:=hm.len;omega
theorem v3f {f:FuncId}{args args1:List AV}{H H1:List ABlk}{R R':AV→List ABlk→Prop}(ps:List Nat)(h:AF P f args1 H1 R)(hsel:Sel ps H H1)(hlt:∀ p∈ps,p<H.length)(hargs:args=q3c (rho H.length ps) args1)
 (hR:∀ r1 H1',R r1 H1'→∃ H',MergeOk ps H H1' H'∧R' (r1.ren (q1g H.length ps)) H'):AF P f args H R':=by
 refine⟨h.1,fun w I ι vals hn ha hs=>?_⟩
 have hs1:=hsel.sim hs
 rw[X7]at hargs
 subst hargs
 refine(h.2 w I (fun b=>ι (rho H.length ps b)) vals (by simpa using hn) (fun i u hu=>q8x u (ha i _ (by rw[List.getElem?_map,hu];rfl))) hs1).mono ?_
 rintro e w' ⟨v,r1,H1',I',ι1,he,h1,h2,h3,h4⟩
 obtain⟨H',hm,hR'⟩:=hR r1 H1' h1
 obtain⟨ι',k1,k2,k3⟩:=v3e hs hsel hlt h2 h3 h4 hm
 exact⟨v,_,H',I',ι',he,hR',k1,k2,k3⟩
end
end Go.Proofs.YtkjklhcfgbaceaaGreat.AL
