/- A part of the proof. -/
import Derived.Shelf.Sort.Plain
import Derived.Shelf.Slices.In.SortNone
import Derived.Test.YtkjklhcfgbaceaaGreatScrucN
open Go.Proofs.Tryz renaming prog→k0q
open Option.some renaming inj→k0x
open List renaming getElem?_eq_getElem→k0w,getD_eq_getElem?_getD→k0v,getElem?_eq_some_iff→k0t,getElem?_map→k1z,length_append→k1y,length_map→k1x,getElem_mem→k1w,mem_of_getElem?→k2x,length_take→k2u,take_add_one→k2t,getElem?_range→k2s,length_range→k3q
open Int renaming toNat_natCast→k0u
open Nat renaming le_refl→k1v
open Bool renaming and_eq_true→k1u
open Array renaming getD_eq_getD_getElem?→k2q
set_option maxHeartbeats 2000000
set_option maxRecDepth 20000
namespace Go.Proofs.YtkjklhcfgbaceaaGreat.AL
open Go Go.Proofs
theorem q8s {B:List x8}{j:Nat}{s:x8}(h:B[j]?=some s):B.getD j []=s:=by rw[k0v,h];rfl
theorem w7p (l:List Put9)(x:Put9):px (l++[x])=px l++[x.pv]:=by simp[px]
abbrev z0c (x:Sup)(next i:Int)(at_:List Int)(S:List x8):List PV:=[.raw (.int .i64 x.vol),.raw (.int .i64 x.gen),.raw (.int .i64 x.epoch),.raw (.int .i64 x.area),.raw (.int .i64 x.snap),.raw (.int .i64 x.long),.raw (.int .i64 x.start),.raw (.int .i64 x.chain),.raw (.int .i64 x.g.w),.raw (.int .i64 x.g.s),.raw (.int .i64 x.g.k),.raw (.int .i64 x.g.m),.raw (.int .i64 next),.raw (.int .i64 i),.sl 1 (Y3 at_),.sl 1 (x9 S)]
/-- The first members of which what they are is not what they should be. -/
def U2 (W:Nat→x8)(S:List x8)(at_:List Int):Nat→List Put9
 |0=>[]
 |k+1=>match W k==S.getD k []with
  |true=>U2 W S at_ k
  |false=>U2 W S at_ k++[⟨at_.getD k 0,W k⟩]
theorem q4y (W:Nat→x8)(S:List x8)(at_:List Int):∀ k,(U2 W S at_ k).length≤k
 |0=>k1v _
 |k+1=>by
  have ih:=q4y W S at_ k
  unfold U2
  split
  ·omega
  ·rw[k1y,List.length_singleton];omega
theorem y3q (c1:PV)(f:FuncId)(W:Nat→x8)(x:Sup)(next i:Int)(at_:List Int)(S:List x8)(hl:at_.length=S.length)(hn:at_.length≤1000)(hS:∀ s∈S,s.length≤1000000)(hWl:∀ k,(W k).length≤1000000)
 (hW:∀ k:Nat,k<at_.length→AF k0q f [i64 k,.p c1] [] (Q8 (bA (W k)) [])) :
 AF k0q q8d [.p (.box (z0c x next i at_ S)),.clo (.func f) [.p c1]] [] (Q8 (.p (.sl 2 (px (U2 W S at_ at_.length)))) []):=by
 refine AF.mono (R:=fun r H'=>∃ z,z=U2 W S at_ at_.length∧r=.p (.sl 2 (px z))∧H'=[]) ?_ (by rintro r H' ⟨z,rfl,rfl,rfl⟩;exact⟨rfl,rfl⟩)
 have hil:=W8 at_
 have hcl:=Y5 S
 have hds:∀ k,U2 W S at_ (k+1)=match W k==S.getD k []with
  |true=>U2 W S at_ k
  |false=>U2 W S at_ k++[⟨at_.getD k 0,W k⟩]:=fun k=>rfl
 have hdl:=q4y W S at_
 have hd0:U2 W S at_ 0=[]:=rfl
 generalize U2 W S at_=d at hds hdl hd0 ⊢
 refine Q7 hT Tryz.func85 rfl rfl Tryz.ntmps85 rfl ?_
 refine z7 hT ?_
 refine w9 ⟨⟨40,[(0,.p (.box (z0c x next i at_ S))),(1,.clo (.func f) [.p c1]),(5,.msl 0 2 0 (px []).length)]⟩,[.row X7 2 (px [])]⟩ True (z8 hT ?_) (fun _=>?_)
 ·exact⟨Wk.trans (W9 X7 2) (Wk.trans (q5f 5 0 2 0 rfl) (z6 [0] [0,1,5] rfl)),trivial⟩
 refine Q3 (fun st=>∃ X,X=d at_.length∧st=⟨⟨40,[(5,.msl 0 2 0 (px X).length)]⟩,[.row X7 2 (px X)]⟩) (z7 hT ?_) ?_
 ·refine y8 ?_
  refine Q2 (fun n st=>∃ (k:Nat) (jk:Int) (X:List Put9),n+k=at_.length∧jk=k∧X=d k∧st=⟨⟨40,[(0,.p (.box (z0c x next i at_ S))),(1,.clo (.func f) [.p c1]),(5,.msl 0 2 0 (px X).length),(12,.p (.sl 1 (Y3 at_))),(13,i64 (Y3 at_).length),(14,i64 jk)]⟩,[.row X7 2 (px X)]⟩) at_.length ⟨⟨40,_⟩,_⟩ (z6 [0] [0,1,5,12,13,14] rfl) ⟨0,0,[],by omega,rfl,hd0.symm,rfl⟩ ?_
  rintro n st ⟨k,jk,X,hnk,hjk,hX,rfl⟩
  refine z7 hT ?_
  refine u5 (y6 (u7 (fun h=>?_) (fun h=>?_)))
  ·have h:=k0z (show decide (jk<(((Y3 at_).length:Nat):Int))=true from h)
   have hk:k<at_.length:=by omega
   refine x6 ?_
   have ha:at_[k]?=some (at_.getD k 0):=by rw[k0v,k0w hk];rfl
   have hs:=k0w (show k<S.length by omega)
   have hsl:=hS _ (k1w (show k<S.length by omega))
   have hdk:=hds k
   rw[q8s hs]at hdk
   generalize S[k]=s at hs hsl hdk
   have w:=hW k hk
   have hwl:=hWl k
   rw[← hjk]at w
   generalize W k=v at w hwl hdk
   generalize at_.getD k 0=a at ha hdk
   have hap:(Y3 at_)[jk.toNat]?=some [.raw (.int .i64 a)]:=by rw[hjk,k0u];exact q0k ha
   have hsp:(x9 S)[jk.toNat]?=some [bP s]:=by rw[hjk,k0u];exact Y2 hs
   have wE:=q7b v s
   have hXl:(px X).length≤1000:=by rw[z8c,hX];have:=hdl k;omega
   refine Q3 (fun st=>∃ X',X'=d (k+1)∧st=⟨⟨40,[(0,.p (.box (z0c x next i at_ S))),(1,.clo (.func f) [.p c1]),(5,.msl 0 2 0 (px X').length),(12,.p (.sl 1 (Y3 at_))),(13,i64 (Y3 at_).length),(14,i64 jk)]⟩,[.row X7 2 (px X')]⟩) (y8 (z7 hT ?_)) ?_
   ·refine⟨by omega,Z1 hap ?_⟩
    refine z7 hT ?_
    refine Q0 (Q4 w _ rfl rfl) ?_
    refine z7 hT ?_
    refine⟨by omega,Z1 hsp ?_⟩
    refine Q0 (Q4 wE _ rfl rfl) ?_
    refine y6 (u7 (fun h=>?_) (fun h=>?_))
    ·have h:(!(v==s))=true:=h
     rw[Bool.not_eq_true']at h
     rw[h]at hdk
     refine z8 hT ?_
     refine⟨rfl,⟨by show ((px X).length+1)*32≤_;omega,by show (px X).length+1≤_;omega⟩,?_⟩
     refine⟨_,z6 [2] [0,1,5,12,13,14] rfl,X++[⟨a,v⟩],by rw[hX];exact hdk.symm,?_⟩
     rw[w7p];rfl
    ·have h:(!(v==s))=false:=h
     rw[Bool.not_eq_false']at h
     rw[h]at hdk
     exact x6 ⟨_,z6 [0] [0,1,5,12,13,14] rfl,X,by rw[hX];exact hdk.symm,rfl⟩
   ·rintro _ ⟨X',hX',rfl⟩
    refine z8 hT ?_
    exact⟨n - 1,by omega,_,z6 [0] [0,1,5,12,13,14] rfl,k+1,IntKind.i64.wrap (jk+1),X',by omega,by rw[Q1 _ (by omega) (by omega)];omega,hX',rfl⟩
  ·have h:=k0y (show decide (jk<(((Y3 at_).length:Nat):Int))=false from h)
   rw[show k=at_.length by omega]at hX
   refine Q6 ?_
   exact⟨_,z6 [0] [5] rfl,X,hX,rfl⟩
 rintro _ ⟨X,hX,rfl⟩
 refine Z2 (z9t 5 0 2 _ rfl rfl rfl rfl) ?_
 refine z7 hT ?_
 refine u0 ?_
 exact x7 [] ⟨X,hX,rfl,rfl⟩ rfl
theorem y3r (c1 c2:PV)(f:FuncId)(W:Nat→x8)(x:Sup)(next i:Int)(at_:List Int)(S:List x8)(hl:at_.length=S.length)(hn:at_.length≤1000)(hS:∀ s∈S,s.length≤1000000)(hWl:∀ k,(W k).length≤1000000)
 (hW:∀ k:Nat,k<at_.length→AF k0q f [i64 k,.p c1,.p c2] [] (Q8 (bA (W k)) [])) :
 AF k0q q8d [.p (.box (z0c x next i at_ S)),.clo (.func f) [.p c1,.p c2]] [] (Q8 (.p (.sl 2 (px (U2 W S at_ at_.length)))) []):=by
 refine AF.mono (R:=fun r H'=>∃ z,z=U2 W S at_ at_.length∧r=.p (.sl 2 (px z))∧H'=[]) ?_ (by rintro r H' ⟨z,rfl,rfl,rfl⟩;exact⟨rfl,rfl⟩)
 have hil:=W8 at_
 have hcl:=Y5 S
 have hds:∀ k,U2 W S at_ (k+1)=match W k==S.getD k []with
  |true=>U2 W S at_ k
  |false=>U2 W S at_ k++[⟨at_.getD k 0,W k⟩]:=fun k=>rfl
 have hdl:=q4y W S at_
 have hd0:U2 W S at_ 0=[]:=rfl
 generalize U2 W S at_=d at hds hdl hd0 ⊢
 refine Q7 hT Tryz.func85 rfl rfl Tryz.ntmps85 rfl ?_
 refine z7 hT ?_
 refine w9 ⟨⟨40,[(0,.p (.box (z0c x next i at_ S))),(1,.clo (.func f) [.p c1,.p c2]),(5,.msl 0 2 0 (px []).length)]⟩,[.row X7 2 (px [])]⟩ True (z8 hT ?_) (fun _=>?_)
 ·exact⟨Wk.trans (W9 X7 2) (Wk.trans (q5f 5 0 2 0 rfl) (z6 [0] [0,1,5] rfl)),trivial⟩
 refine Q3 (fun st=>∃ X,X=d at_.length∧st=⟨⟨40,[(5,.msl 0 2 0 (px X).length)]⟩,[.row X7 2 (px X)]⟩) (z7 hT ?_) ?_
 ·refine y8 ?_
  refine Q2 (fun n st=>∃ (k:Nat) (jk:Int) (X:List Put9),n+k=at_.length∧jk=k∧X=d k∧st=⟨⟨40,[(0,.p (.box (z0c x next i at_ S))),(1,.clo (.func f) [.p c1,.p c2]),(5,.msl 0 2 0 (px X).length),(12,.p (.sl 1 (Y3 at_))),(13,i64 (Y3 at_).length),(14,i64 jk)]⟩,[.row X7 2 (px X)]⟩) at_.length ⟨⟨40,_⟩,_⟩ (z6 [0] [0,1,5,12,13,14] rfl) ⟨0,0,[],by omega,rfl,hd0.symm,rfl⟩ ?_
  rintro n st ⟨k,jk,X,hnk,hjk,hX,rfl⟩
  refine z7 hT ?_
  refine u5 (y6 (u7 (fun h=>?_) (fun h=>?_)))
  ·have h:=k0z (show decide (jk<(((Y3 at_).length:Nat):Int))=true from h)
   have hk:k<at_.length:=by omega
   refine x6 ?_
   have ha:at_[k]?=some (at_.getD k 0):=by rw[k0v,k0w hk];rfl
   have hs:=k0w (show k<S.length by omega)
   have hsl:=hS _ (k1w (show k<S.length by omega))
   have hdk:=hds k
   rw[q8s hs]at hdk
   generalize S[k]=s at hs hsl hdk
   have w:=hW k hk
   have hwl:=hWl k
   rw[← hjk]at w
   generalize W k=v at w hwl hdk
   generalize at_.getD k 0=a at ha hdk
   have hap:(Y3 at_)[jk.toNat]?=some [.raw (.int .i64 a)]:=by rw[hjk,k0u];exact q0k ha
   have hsp:(x9 S)[jk.toNat]?=some [bP s]:=by rw[hjk,k0u];exact Y2 hs
   have wE:=q7b v s
   have hXl:(px X).length≤1000:=by rw[z8c,hX];have:=hdl k;omega
   refine Q3 (fun st=>∃ X',X'=d (k+1)∧st=⟨⟨40,[(0,.p (.box (z0c x next i at_ S))),(1,.clo (.func f) [.p c1,.p c2]),(5,.msl 0 2 0 (px X').length),(12,.p (.sl 1 (Y3 at_))),(13,i64 (Y3 at_).length),(14,i64 jk)]⟩,[.row X7 2 (px X')]⟩) (y8 (z7 hT ?_)) ?_
   ·refine⟨by omega,Z1 hap ?_⟩
    refine z7 hT ?_
    refine Q0 (Q4 w _ rfl rfl) ?_
    refine z7 hT ?_
    refine⟨by omega,Z1 hsp ?_⟩
    refine Q0 (Q4 wE _ rfl rfl) ?_
    refine y6 (u7 (fun h=>?_) (fun h=>?_))
    ·have h:(!(v==s))=true:=h
     rw[Bool.not_eq_true']at h
     rw[h]at hdk
     refine z8 hT ?_
     refine⟨rfl,⟨by show ((px X).length+1)*32≤_;omega,by show (px X).length+1≤_;omega⟩,?_⟩
     refine⟨_,z6 [2] [0,1,5,12,13,14] rfl,X++[⟨a,v⟩],by rw[hX];exact hdk.symm,?_⟩
     rw[w7p];rfl
    ·have h:(!(v==s))=false:=h
     rw[Bool.not_eq_false']at h
     rw[h]at hdk
     exact x6 ⟨_,z6 [0] [0,1,5,12,13,14] rfl,X,by rw[hX];exact hdk.symm,rfl⟩
   ·rintro _ ⟨X',hX',rfl⟩
    refine z8 hT ?_
    exact⟨n - 1,by omega,_,z6 [0] [0,1,5,12,13,14] rfl,k+1,IntKind.i64.wrap (jk+1),X',by omega,by rw[Q1 _ (by omega) (by omega)];omega,hX',rfl⟩
  ·have h:=k0y (show decide (jk<(((Y3 at_).length:Nat):Int))=false from h)
   rw[show k=at_.length by omega]at hX
   refine Q6 ?_
   exact⟨_,z6 [0] [5] rfl,X,hX,rfl⟩
 rintro _ ⟨X,hX,rfl⟩
 refine Z2 (z9t 5 0 2 _ rfl rfl rfl rfl) ?_
 refine z7 hT ?_
 refine u0 ?_
 exact x7 [] ⟨X,hX,rfl,rfl⟩ rfl
theorem y5c (b:Blk):b.sld.1.length≤256:=by
 unfold Blk.sld
 split
 ·exact Nat.zero_le _
 ·split
  ·exact Nat.zero_le _
  ·rename_i h
   show (J3 b.all).length≤256
   rw[q3r,q6p b (by have:=k0y h;omega)]
   exact k1v _
theorem v1j (x:Sup)(k:Int):(x.sector k).1.length≤256:=by
 unfold Sup.sector
 split
 ·exact Nat.zero_le _
 ·exact y5c _
theorem u0w {S:List x8}{n:Nat}(h:∀ s∈S,s.length≤n)(k:Nat):(S.getD k []).length≤n:=by
 rw[k0v]
 cases e:S[k]? with
 |none=>exact Nat.zero_le _
 |some s=>exact h s (k2x e)
abbrev q2y (x:Sup)(next i:Int)(at_:List Int)(S:List x8):PV:=.box [.box (z0c x next i at_ S)]
theorem x0m (x:Sup)(next i:Int)(at_:List Int)(S:List x8)(k:Nat):AF k0q q5h [i64 k,.p (q2y x next i at_ S)] [] (Q8 (bA (x.sector k).1) []):=by
 refine AF.mono (R:=fun r H'=>∃ z,z=(x.sector k).1∧r=bA z∧H'=[]) ?_ (by rintro r H' ⟨z,rfl,rfl,rfl⟩;exact⟨rfl,rfl⟩)
 have w:=y8v x k
 generalize x.sector k=Z at w ⊢
 obtain⟨z,e⟩:=Z
 refine Q7 hT Tryz.func86 rfl rfl Tryz.ntmps86 rfl ?_
 refine z7 hT ?_
 refine z7 hT ?_
 refine Q0 (Q4 w _ rfl rfl) ?_
 refine z7 hT ?_
 refine u0 ?_
 exact x7 [] ⟨z,rfl,rfl,rfl⟩ rfl
theorem x5u (x:Sup)(next i:Int)(at_:List Int)(S:List x8)(hl:at_.length=S.length)(hn:at_.length≤1000)(hS:∀ s∈S,s.length≤1000000) :
 AF k0q z4a [.p (.box (z0c x next i at_ S))] [] (Q8 (.tup [.p (.sl 2 (px (U2 (fun k=>(x.sector k).1) S at_ at_.length))),i64 0]) []):=by
 refine AF.mono (R:=fun r H'=>∃ z,z=U2 (fun k=>(x.sector k).1) S at_ at_.length∧r=.tup [.p (.sl 2 (px z)),i64 0]∧H'=[]) ?_ (by rintro r H' ⟨z,rfl,rfl,rfl⟩;exact⟨rfl,rfl⟩)
 have w:=y3q (q2y x next i at_ S) q5h (fun k=>(x.sector k).1) x next i at_ S hl hn hS (fun k=>Nat.le_trans (v1j x k) (by decide)) (fun k _=>x0m x next i at_ S k)
 generalize U2 (fun k=>(x.sector k).1) S at_ at_.length=Z at w ⊢
 refine Q7 hT Tryz.func49 rfl rfl Tryz.ntmps49 rfl ?_
 refine z7 hT ?_
 refine Z2 (Z3 0 [.box (z0c x next i at_ S)] rfl rfl) ?_
 refine z7 hT ?_
 refine Q0 (Q4 w _ rfl rfl) ?_
 refine u0 ?_
 exact x7 [] ⟨Z,rfl,rfl,rfl⟩ rfl
def q4f (vol a:Int)(s:x8):x8:=match (X8 s).2==0&&(X8 s).1.vol==vol&&(X8 s).1.addr==a with
 |true=>s
 |false=>(Blk.mk 1 vol a 0 0 []).sld.1
theorem v7t {vol a:Int}{s:x8}(hs:s.length≤1000000):(q4f vol a s).length≤1000000:=by
 unfold q4f
 split
 ·exact hs
 ·exact Nat.le_trans (y5c _) (by decide)
theorem w0q (x:Sup)(next i:Int)(at_:List Int)(S:List x8)(hl:at_.length=S.length)(_hn:at_.length≤1000)(hS:∀ s∈S,s.length≤1000000)(k:Nat)(hk:k<at_.length) :
 AF k0q q6v [i64 k,.p (q2y x next i at_ S)] [] (Q8 (bA (q4f x.vol (at_.getD k 0) (S.getD k []))) []):=by
 refine AF.mono (R:=fun r H'=>∃ z,z=q4f x.vol (at_.getD k 0) (S.getD k [])∧r=bA z∧H'=[]) ?_ (by rintro r H' ⟨z,rfl,rfl,rfl⟩;exact⟨rfl,rfl⟩)
 have hil:=W8 at_
 have hcl:=Y5 S
 have ha:at_[k]?=some (at_.getD k 0):=by rw[k0v,k0w hk];rfl
 have hs:=k0w (show k<S.length by omega)
 have hsl:=hS _ (k1w (show k<S.length by omega))
 rw[q8s hs]
 generalize S[k]=s at hs hsl ⊢
 generalize at_.getD k 0=a at ha ⊢
 have wO:=z7v s hsl
 have wS:=q6d ⟨1,x.vol,a,0,0,[]⟩
 have eF:q4f x.vol a s=match (X8 s).2==0&&(X8 s).1.vol==x.vol&&(X8 s).1.addr==a with
  |true=>s
  |false=>(Blk.mk 1 x.vol a 0 0 []).sld.1:=rfl
 generalize q4f x.vol a s=Z at eF ⊢
 generalize X8 s=OB at wO eF
 obtain⟨ob,oe⟩:=OB
 generalize (Blk.mk 1 x.vol a 0 0 []).sld=SL at wS eF
 obtain⟨sl,se⟩:=SL
 have hap:(Y3 at_)[((k:Nat):Int).toNat]?=some [.raw (.int .i64 a)]:=by rw[k0u];exact q0k ha
 have hsp:(x9 S)[((k:Nat):Int).toNat]?=some [bP s]:=by rw[k0u];exact Y2 hs
 refine Q7 hT Tryz.func127 rfl rfl Tryz.ntmps127 rfl ?_
 refine z7 hT ?_
 refine w9 ⟨⟨68,[(0,i64 k),(1,.p (q2y x next i at_ S)),(4,.p (.box ob.pv)),(5,i64 oe)]⟩,[]⟩ True (z8 hT ?_) (fun _=>?_)
 ·refine⟨by omega,Z1 hsp ?_⟩
  refine Q0 (Q4 wO _ rfl rfl) ?_
  exact⟨Wk.trans (Z3 0 ob.pv rfl rfl) (z6 [] [0,1,4,5] rfl),trivial⟩
 refine w9 ⟨⟨68,[(0,i64 k),(1,.p (q2y x next i at_ S))]⟩,[]⟩ ((oe==0&&ob.vol==x.vol&&ob.addr==a)=false) ?_ ?_
 ·refine Q3 (fun st=>∃ v,v=(oe==0&&ob.vol==x.vol&&ob.addr==a)∧st=⟨⟨68,[(0,i64 k),(1,.p (q2y x next i at_ S)),(42,bl v)]⟩,[]⟩) ?_ ?_
  ·refine Q9 [] [] hT u6 (by rfl) ?_
   refine u7 (fun h=>?_) (fun h=>?_)
   ·rw[show (oe==0)=true from h]
    refine u7 (fun h=>?_) (fun h=>?_)
    ·rw[show (ob.vol==x.vol)=true from h]
     refine⟨by omega,Z1 hap ?_⟩
     exact⟨_,z6 [] [0,1,42] rfl,_,rfl,rfl⟩
    ·rw[show (ob.vol==x.vol)=false from h]
     exact⟨_,z6 [] [0,1,42] rfl,_,rfl,rfl⟩
   ·rw[show (oe==0)=false from h]
    exact⟨_,z6 [] [0,1,42] rfl,_,rfl,rfl⟩
  rintro _ ⟨v,hv,rfl⟩
  refine y6 (u7 (fun h=>?_) (fun h=>?_))
  ·have h:v=true:=h
   have eF:Z=s:=by rw[eF,← hv,h]
   refine z7 hT ?_
   refine⟨by omega,Z1 hsp ?_⟩
   refine u0 ?_
   exact x7 [] ⟨s,eF.symm,rfl,rfl⟩ rfl
  ·have h:v=false:=h
   exact x6 ⟨z6 [] [0,1] rfl,by rw[← hv];exact h⟩
 intro hv
 have eF:Z=sl:=by rw[eF];show (match (oe==0&&ob.vol==x.vol&&ob.addr==a) with|true=>s|false=>sl)=sl;rw[hv]
 refine u5 ?_
 refine Q9 [] [] hT u6 (by rfl) ?_
 refine⟨by omega,Z1 hap ?_⟩
 refine⟨_,y2k (Q4 wS _ rfl rfl) ⟨.inl rfl,.inl rfl,.inl rfl,.inl rfl,.inl rfl,.inr ⟨rfl,1,rfl⟩,trivial⟩,?_⟩
 refine z7 hT ?_
 refine u0 ?_
 exact x7 [] ⟨sl,eF.symm,rfl,rfl⟩ rfl
theorem y9b (x:Sup)(next i:Int)(at_:List Int)(S:List x8)(hl:at_.length=S.length)(hn:at_.length≤1000)(hS:∀ s∈S,s.length≤1000000) :
 AF k0q z7n [.p (.box (z0c x next i at_ S))] [] (Q8 (.tup [.p (.sl 2 (px (U2 (fun k=>q4f x.vol (at_.getD k 0) (S.getD k [])) S at_ at_.length))),i64 0]) []):=by
 refine AF.mono (R:=fun r H'=>∃ z,z=U2 (fun k=>q4f x.vol (at_.getD k 0) (S.getD k [])) S at_ at_.length∧r=.tup [.p (.sl 2 (px z)),i64 0]∧H'=[]) ?_ (by rintro r H' ⟨z,rfl,rfl,rfl⟩;exact⟨rfl,rfl⟩)
 have w:=y3q (q2y x next i at_ S) q6v (fun k=>q4f x.vol (at_.getD k 0) (S.getD k [])) x next i at_ S hl hn hS (fun k=>v7t (u0w hS k)) (fun k hk=>w0q x next i at_ S hl hn hS k hk)
 generalize U2 (fun k=>q4f x.vol (at_.getD k 0) (S.getD k [])) S at_ at_.length=Z at w ⊢
 refine Q7 hT Tryz.func88 rfl rfl Tryz.ntmps88 rfl ?_
 refine z7 hT ?_
 refine Z2 (Z3 0 [.box (z0c x next i at_ S)] rfl rfl) ?_
 refine z7 hT ?_
 refine Q0 (Q4 w _ rfl rfl) ?_
 refine u0 ?_
 exact x7 [] ⟨Z,rfl,rfl,rfl⟩ rfl
def q9t (x:Sup)(slot:Int):Int:=x.start+(slot - x.start.tmod x.g.w+x.g.w).tmod x.g.w
theorem u0x {x:Sup}{slot:Int}(hs:0≤x.start∧x.start≤4294967295)(hw:8≤x.g.w∧x.g.w≤512)(h0:0≤slot)(_h1:slot<x.g.w) :
 0≤x.start.tmod x.g.w∧x.start.tmod x.g.w<x.g.w∧0≤(slot - x.start.tmod x.g.w+x.g.w).tmod x.g.w∧(slot - x.start.tmod x.g.w+x.g.w).tmod x.g.w<x.g.w:=by
 have a0:=Int.tmod_nonneg (a:=x.start) x.g.w hs.1
 have a1:=Int.tmod_lt_of_pos x.start (b:=x.g.w) (by omega)
 have b0:=Int.tmod_nonneg (a:=slot - x.start.tmod x.g.w+x.g.w) x.g.w (by omega)
 have b1:=Int.tmod_lt_of_pos (slot - x.start.tmod x.g.w+x.g.w) (b:=x.g.w) (by omega)
 exact⟨a0,a1,b0,b1⟩
theorem w4x (x:Sup)(next i:Int)(at_:List Int)(S:List x8)(slot:Int)(hs:0≤x.start∧x.start≤4294967295)(hw:8≤x.g.w∧x.g.w≤512)(h0:0≤slot)(h1:slot<x.g.w) :
 AF k0q z7m [.p (.box (z0c x next i at_ S)),i64 slot] [] (Q8 (.tup [i64 (q9t x slot),bl (decide (q9t x slot<next))]) []):=by
 obtain⟨a0,a1,b0,b1⟩:=u0x hs hw h0 h1
 have e1:IntKind.i64.wrap (slot - x.start.tmod x.g.w)=slot - x.start.tmod x.g.w:=Q1 _ (by omega) (by omega)
 have e2:IntKind.i64.wrap (slot - x.start.tmod x.g.w+x.g.w)=slot - x.start.tmod x.g.w+x.g.w:=Q1 _ (by omega) (by omega)
 have e3:IntKind.i64.wrap (x.start+(slot - x.start.tmod x.g.w+x.g.w).tmod x.g.w)=q9t x slot:=Q1 _ (by omega) (by omega)
 refine AF.mono (R:=fun r H'=>∃ z,z=q9t x slot∧r=.tup [i64 z,bl (decide (z<next))]∧H'=[]) ?_ (by rintro r H' ⟨z,rfl,rfl,rfl⟩;exact⟨rfl,rfl⟩)
 refine Q7 hT Tryz.func87 rfl rfl Tryz.ntmps87 rfl ?_
 refine z7 hT ?_
 refine z7 hT ?_
 refine Q3 (fun st=>∃ z,z=q9t x slot∧st=⟨⟨40,[(0,.p (.box (z0c x next i at_ S))),(7,i64 z)]⟩,[]⟩) ?_ ?_
 ·refine Q9 [] [] hT u6 (by rfl) ?_
  refine neI (show x.g.w≠0 by omega) ?_
  refine neI (show x.g.w≠0 by omega) ?_
  refine⟨_,z6 [] [0,7] rfl,IntKind.i64.wrap (x.start+(IntKind.i64.wrap (IntKind.i64.wrap (slot - x.start.tmod x.g.w)+x.g.w)).tmod x.g.w),?_,rfl⟩
  rw[e1,e2,e3]
 rintro _ ⟨z,hz,rfl⟩
 refine u5 ?_
 refine Q9 [] [] hT u6 (by rfl) ?_
 refine u0 ?_
 exact x7 [] ⟨z,hz,rfl,rfl⟩ rfl
def q5v (x:Sup)(slot seq:Int)(S:List x8):Nat→Pc × Bool
 |0=>(Pc.zero,false)
 |m+1=>match (q0a (S.getD m []) x.vol x.g m slot).2&&((q0a (S.getD m []) x.vol x.g m slot).1.seq==seq&&(!(q5v x slot seq S m).2||decide ((q0a (S.getD m []) x.vol x.g m slot).1.epoch > (q5v x slot seq S m).1.epoch))) with
  |true=>((q0a (S.getD m []) x.vol x.g m slot).1,true)
  |false=>q5v x slot seq S m
def z3b (x:Sup)(next slot:Int)(at_:List Int)(S:List x8):List Put9 × Int:=match decide (q9t x slot<next) with
 |false=>(U2 (fun k=>q4f x.vol (at_.getD k 0) (S.getD k [])) S at_ at_.length,0)
 |true=>match (q5v x slot (q9t x slot) S S.length).2 with
  |false=>([],22)
  |true=>(U2 (fun k=>((q5v x slot (q9t x slot) S S.length).1.sector x.vol x.g k).1) S at_ at_.length,0)
theorem w4y (p:Pc)(vol:Int)(g:GeoV)(m:Int):(p.sector vol g m).1.length≤256:=by
 unfold Pc.sector
 split
 ·exact Nat.zero_le _
 ·exact y5c _
theorem w0r (x:Sup)(next i:Int)(at_:List Int)(S:List x8)(p:Pc)(k:Nat):AF k0q q6u [i64 k,.p (q2y x next i at_ S),.p (.box p.pv)] [] (Q8 (bA (p.sector x.vol x.g k).1) []):=by
 refine AF.mono (R:=fun r H'=>∃ z,z=(p.sector x.vol x.g k).1∧r=bA z∧H'=[]) ?_ (by rintro r H' ⟨z,rfl,rfl,rfl⟩;exact⟨rfl,rfl⟩)
 have w:=q9j x.vol x.g k p
 generalize p.sector x.vol x.g k=Z at w ⊢
 obtain⟨z,e⟩:=Z
 refine Q7 hT Tryz.func90 rfl rfl Tryz.ntmps90 rfl ?_
 refine z7 hT ?_
 refine u5 ?_
 refine Q9 [] [] hT u6 (by rfl) ?_
 refine⟨_,Q4 w _ rfl rfl,?_⟩
 refine z7 hT ?_
 refine u0 ?_
 exact x7 [] ⟨z,rfl,rfl,rfl⟩ rfl
theorem w4z (x:Sup)(next i:Int)(at_:List Int)(S:List x8)(slot:Int)(hs:0≤x.start∧x.start≤4294967295)(hw:8≤x.g.w∧x.g.w≤512)(h0:0≤slot)(h1:slot<x.g.w)(hl:at_.length=S.length)(hn:at_.length≤1000)(hS:∀ s∈S,s.length≤1000000) :
 AF k0q z7j [.p (.box (z0c x next i at_ S)),i64 slot] [] (Q8 (.tup [.p (.sl 2 (px (z3b x next slot at_ S).1)),i64 (z3b x next slot at_ S).2]) []):=by
 refine AF.mono (R:=fun r H'=>∃ z,z=z3b x next slot at_ S∧r=.tup [.p (.sl 2 (px z.1)),i64 z.2]∧H'=[]) ?_ (by rintro r H' ⟨z,rfl,rfl,rfl⟩;exact⟨rfl,rfl⟩)
 have wl:=w4x x next i at_ S slot hs hw h0 h1
 have wf:=y9b x next i at_ S hl hn hS
 have hcl:=Y5 S
 have eZ:z3b x next slot at_ S=match decide (q9t x slot<next) with
  |false=>(U2 (fun k=>q4f x.vol (at_.getD k 0) (S.getD k [])) S at_ at_.length,0)
  |true=>match (q5v x slot (q9t x slot) S S.length).2 with
   |false=>([],22)
   |true=>(U2 (fun k=>((q5v x slot (q9t x slot) S S.length).1.sector x.vol x.g k).1) S at_ at_.length,0):=rfl
 generalize z3b x next slot at_ S=Z at eZ ⊢
 generalize q9t x slot=seq at wl eZ
 have hbs:∀ m,q5v x slot seq S (m+1)=match (q0a (S.getD m []) x.vol x.g m slot).2&&((q0a (S.getD m []) x.vol x.g m slot).1.seq==seq&&(!(q5v x slot seq S m).2||decide ((q0a (S.getD m []) x.vol x.g m slot).1.epoch > (q5v x slot seq S m).1.epoch))) with
  |true=>((q0a (S.getD m []) x.vol x.g m slot).1,true)
  |false=>q5v x slot seq S m:=fun m=>rfl
 have hb0:q5v x slot seq S 0=(Pc.zero,false):=rfl
 generalize q5v x slot seq S=best at eZ hbs hb0
 have wp:=fun p=>y3r (q2y x next i at_ S) (.box (Pc.pv p)) q6u (fun k=>(p.sector x.vol x.g k).1) x next i at_ S hl hn hS (fun k=>Nat.le_trans (w4y p _ _ _) (by decide)) (fun k _=>w0r x next i at_ S p k)
 refine Q7 hT Tryz.func50 rfl rfl Tryz.ntmps50 rfl ?_
 refine z7 hT ?_
 refine Z2 (Z3 0 [.box (z0c x next i at_ S)] rfl rfl) ?_
 refine w9 ⟨⟨78,[(1,i64 slot),(2,.p (q2y x next i at_ S)),(6,i64 seq),(7,bl (decide (seq<next)))]⟩,[]⟩ True (z8 hT ?_) (fun _=>?_)
 ·refine Q0 (Q4 wl _ rfl rfl) ?_
  exact⟨z6 [] [1,2,6,7] rfl,trivial⟩
 refine w9 ⟨⟨78,[(1,i64 slot),(2,.p (q2y x next i at_ S)),(6,i64 seq)]⟩,[]⟩ (decide (seq<next)=true) (z7 hT ?_) (fun hlv=>?_)
 ·refine y6 (u7 (fun h=>?_) (fun h=>?_))
  ·have h:(!decide (seq<next))=true:=h
   rw[Bool.not_eq_true']at h
   rw[h]at eZ
   refine z7 hT ?_
   refine Q0 (Q4 wf _ rfl rfl) ?_
   refine u0 ?_
   exact x7 [] ⟨_,eZ.symm,rfl,rfl⟩ rfl
  ·have h:(!decide (seq<next))=false:=h
   rw[Bool.not_eq_false']at h
   exact x6 ⟨z6 [] [1,2,6] rfl,h⟩
 rw[hlv]at eZ
 refine z7 hT ?_
 refine w9 ⟨⟨78,[(1,i64 slot),(2,.p (q2y x next i at_ S)),(6,i64 seq),(8,.ref 0 0),(9,bl false)]⟩,[.cells q1p Pc.zero.cv]⟩ True (z8 hT ?_) (fun _=>?_)
 ·exact⟨Wk.trans (V8 0 Pc.zero.cv rfl ⟨.inl rfl,.inl rfl,.inl rfl,.inl rfl,.inl rfl,.inl rfl,.inr (.inr (.inr ⟨1,rfl,rfl⟩)),trivial⟩) (z6 [0] [1,2,6,8,9] rfl),trivial⟩
 refine Q3 (fun st=>∃ B,B=best S.length∧st=⟨⟨78,[(2,.p (q2y x next i at_ S)),(8,.ref 0 0),(9,bl B.2)]⟩,[.cells q1p B.1.cv]⟩) (z7 hT ?_) ?_
 ·refine y8 ?_
  refine Q2 (fun n st=>∃ (m:Nat) (jm:Int) (B:Pc × Bool),n+m=S.length∧jm=m∧B=best m∧st=⟨⟨78,[(1,i64 slot),(2,.p (q2y x next i at_ S)),(6,i64 seq),(8,.ref 0 0),(9,bl B.2),(29,.p (.sl 1 (x9 S))),(30,i64 (x9 S).length),(31,i64 jm)]⟩,[.cells q1p B.1.cv]⟩) S.length ⟨⟨78,_⟩,_⟩ (z6 [0] [1,2,6,8,9,29,30,31] rfl) ⟨0,0,(Pc.zero,false),by omega,rfl,hb0.symm,rfl⟩ ?_
  rintro n st ⟨m,jm,B,hnm,hjm,hB,rfl⟩
  refine z7 hT ?_
  refine u5 (y6 (u7 (fun h=>?_) (fun h=>?_)))
  ·have h:=k0z (show decide (jm<(((x9 S).length:Nat):Int))=true from h)
   have hm:m<S.length:=by omega
   refine x6 ?_
   have hs:=k0w hm
   have hsl:=hS _ (k1w hm)
   have hbm:=hbs m
   rw[q8s hs,← hjm]at hbm
   generalize S[m]=s at hs hsl hbm
   have hsp:(x9 S)[jm.toNat]?=some [bP s]:=by rw[hjm,k0u];exact Y2 hs
   have w:=v0r s x.vol x.g jm slot hsl
   generalize q0a s x.vol x.g jm slot=T at w hbm
   obtain⟨tp,tb⟩:=T
   rw[← hB]at hbm
   obtain⟨bp,bb⟩:=B
   have hbm:best (m+1)=match tb&&(tp.seq==seq&&(!bb||decide (tp.epoch > bp.epoch))) with|true=>(tp,true)|false=>(bp,bb):=hbm
   refine Q3 (fun st=>∃ B',B'=best (m+1)∧st=⟨⟨78,[(1,i64 slot),(2,.p (q2y x next i at_ S)),(6,i64 seq),(8,.ref 0 0),(9,bl B'.2),(29,.p (.sl 1 (x9 S))),(30,i64 (x9 S).length),(31,i64 jm)]⟩,[.cells q1p B'.1.cv]⟩) (y8 (z7 hT ?_)) ?_
   ·refine⟨by omega,Z1 hsp ?_⟩
    refine w9 ⟨⟨78,[(1,i64 slot),(2,.p (q2y x next i at_ S)),(6,i64 seq),(8,.ref 0 0),(9,bl bb),(12,.ref 1 0),(13,bl tb),(29,.p (.sl 1 (x9 S))),(30,i64 (x9 S).length),(31,i64 jm)]⟩,[.cells q1p bp.cv,.cells q1p tp.cv]⟩ True ?_ (fun _=>?_)
    ·refine Q9 [17,18] [] hT u6 (by rfl) ?_
     refine⟨_,Q4 w _ rfl rfl,?_⟩
     repeat first|refine⟨rfl,?_⟩|refine⟨⟨_,Q4 w _ rfl rfl,rfl⟩,?_⟩
     exact⟨z6 [0,1] [1,2,6,8,9,12,13,29,30,31] rfl,trivial⟩
    refine Q3 (fun st=>∃ v,v=(tb&&(tp.seq==seq&&(!bb||decide (tp.epoch > bp.epoch))))∧st=⟨⟨78,[(1,i64 slot),(2,.p (q2y x next i at_ S)),(6,i64 seq),(8,.ref 0 0),(9,bl bb),(12,.ref 1 0),(29,.p (.sl 1 (x9 S))),(30,i64 (x9 S).length),(31,i64 jm),(70,bl v)]⟩,[.cells q1p bp.cv,.cells q1p tp.cv]⟩) (z8 hT ?_) ?_
    ·refine u7 (fun h=>?_) (fun h=>?_)
     ·rw[show tb=true from h]
      refine u7 (fun h=>?_) (fun h=>?_)
      ·rw[show (tp.seq==seq)=true from h]
       refine u7 (fun h=>?_) (fun h=>?_)
       ·rw[show (!bb)=true from h]
        exact⟨_,z6 [0,1] [1,2,6,8,9,12,29,30,31,70] rfl,_,rfl,rfl⟩
       ·rw[show (!bb)=false from h]
        exact⟨_,z6 [0,1] [1,2,6,8,9,12,29,30,31,70] rfl,_,rfl,rfl⟩
      ·rw[show (tp.seq==seq)=false from h]
       exact⟨_,z6 [0,1] [1,2,6,8,9,12,29,30,31,70] rfl,_,rfl,rfl⟩
     ·rw[show tb=false from h]
      exact⟨_,z6 [0,1] [1,2,6,8,9,12,29,30,31,70] rfl,_,rfl,rfl⟩
    rintro _ ⟨v,hv,rfl⟩
    rw[← hv]at hbm
    refine y6 (u7 (fun h=>?_) (fun h=>?_))
    ·have h:v=true:=h
     rw[h]at hbm
     refine z8 hT ?_
     exact⟨_,z6 [0] [1,2,6,8,9,29,30,31] rfl,(tp,true),hbm.symm,rfl⟩
    ·have h:v=false:=h
     rw[h]at hbm
     exact x6 ⟨_,z6 [0] [1,2,6,8,9,29,30,31] rfl,(bp,bb),hbm.symm,rfl⟩
   ·rintro _ ⟨B',hB',rfl⟩
    refine z8 hT ?_
    exact⟨n - 1,by omega,_,z6 [0] [1,2,6,8,9,29,30,31] rfl,m+1,IntKind.i64.wrap (jm+1),B',by omega,by rw[Q1 _ (by omega) (by omega)];omega,hB',rfl⟩
  ·have h:=k0y (show decide (jm<(((x9 S).length:Nat):Int))=false from h)
   rw[show m=S.length by omega]at hB
   refine Q6 ?_
   exact⟨_,z6 [0] [2,8,9] rfl,B,hB,rfl⟩
 rintro _ ⟨⟨p,ok⟩,hB,rfl⟩
 rw[← hB]at eZ
 have wp:=wp p
 generalize U2 (fun k=>(p.sector x.vol x.g k).1) S at_ at_.length=Dp at wp eZ
 clear hB
 have eZ:Z=match (generalizing:=false) ok with|false=>([],22)|true=>(Dp,0):=by rw[eZ]
 refine Z2 (Z3 0 (Pc.pv p) rfl rfl) ?_
 refine w9 ⟨⟨78,[(2,.p (q2y x next i at_ S)),(8,.p (.box (Pc.pv p)))]⟩,[]⟩ (ok=true) (z7 hT ?_) (fun hok=>?_)
 ·refine y6 (u7 (fun h=>?_) (fun h=>?_))
  ·have h:(!ok)=true:=h
   rw[Bool.not_eq_true']at h
   rw[h]at eZ
   refine z7 hT ?_
   refine Z2 (J8 4 2 rfl) ?_
   refine u0 ?_
   exact x7 [] ⟨([],22),eZ.symm,rfl,rfl⟩ rfl
  ·have h:(!ok)=false:=h
   rw[Bool.not_eq_false']at h
   exact x6 ⟨z6 [] [2,8] rfl,h⟩
 rw[hok]at eZ
 refine z7 hT ?_
 refine Q0 (Q4 wp _ rfl rfl) ?_
 refine u0 ?_
 exact x7 [] ⟨(Dp,0),eZ.symm,rfl,rfl⟩ rfl
def q4g (x:Sup)(n:Int)(at_:List Int)(S:List x8):List Put9 × Int:=match n.tdiv x.g.s != x.area with
 |true=>(U2 (fun k=>q4f x.vol (at_.getD k 0) (S.getD k [])) S at_ at_.length,0)
 |false=>match (q1s S x.vol x.g (n.tdiv x.g.s) (n.tmod x.g.s) x.snap).2 != 0 with
  |true=>([],(q1s S x.vol x.g (n.tdiv x.g.s) (n.tmod x.g.s) x.snap).2)
  |false=>(U2 (fun k=>(Blk.mk 4 x.vol (at_.getD k 0) 0 x.snap ((q1s S x.vol x.g (n.tdiv x.g.s) (n.tmod x.g.s) x.snap).1.getD k [])).sld.1) S at_ at_.length,0)
theorem x5v {l:List x8}{vol:Int}{g:GeoV}{area stripe no:Int}(h:(q1s l vol g area stripe no).2=0):(q1s l vol g area stripe no).1.length=l.length:=by
 unfold q1s at h ⊢
 split at h
 ·exact absurd h (by decide)
 ·rename_i hc
  simp only[Bool.or_eq_false_iff,Bool.not_eq_false',beq_iff_eq]at hc
  obtain⟨⟨h1,_⟩,h3⟩:=hc
  have hf:q1z g area stripe:=by
   by_cases hf:q1z g area stripe
   ·exact hf
   ·rw[z4v hf]at h1;exact absurd h1 (by decide)
  obtain⟨_,_,_,_,h5,h6,h7,h8⟩:=V4 (V2 hf.1)
  generalize hS:q7d vol (q1v g area stripe).1 no l=S at h ⊢
  have hd:(z0u S g.k.toNat g.m.toNat 228).2=0:=by
   by_cases e:(z0u S g.k.toNat g.m.toNat 228).2=0
   ·exact e
   ·rw[bne_iff_ne.mpr e]at h;exact absurd (show (22:Int)=0 from h) (by decide)
  rw[hd]
  show (z0u S g.k.toNat g.m.toNat 228).1.length=_
  unfold z0u at hd ⊢
  cases hg:decide ((V0 S g.k.toNat (g.k.toNat+g.m.toNat)).length<g.k.toNat) with
  |true=>rw[hg]at hd;exact absurd (show (9:Int)=0 from hd) (by decide)
  |false=>
   have hg:=k0y hg
   have hg2:=(z0t S g.k.toNat (g.k.toNat+g.m.toNat)).2
   show (z4p S _ _ _++q8w _ _ _).length=_
   rw[k1y,z4t]
   unfold z4p
   rw[k1x,y8j,x5p (by omega)]
   omega
theorem x0n (x:Sup)(next i:Int)(at_:List Int)(S L:List x8)(k:Nat)(hk:k<at_.length)(hL:at_.length=L.length) :
 AF k0q q5i [i64 k,.p (q2y x next i at_ S),.p (.box [.sl 1 (x9 L)])] [] (Q8 (bA (Blk.mk 4 x.vol (at_.getD k 0) 0 x.snap (L.getD k [])).sld.1) []):=by
 refine AF.mono (R:=fun r H'=>∃ z,z=(Blk.mk 4 x.vol (at_.getD k 0) 0 x.snap (L.getD k [])).sld.1∧r=bA z∧H'=[]) ?_ (by rintro r H' ⟨z,rfl,rfl,rfl⟩;exact⟨rfl,rfl⟩)
 have ha:at_[k]?=some (at_.getD k 0):=by rw[k0v,k0w hk];rfl
 have hs:=k0w (show k<L.length by omega)
 rw[q8s hs]
 generalize L[k]=s at hs ⊢
 generalize at_.getD k 0=a at ha ⊢
 have w:=q6d ⟨4,x.vol,a,0,x.snap,s⟩
 generalize (Blk.mk 4 x.vol a 0 x.snap s).sld=Z at w ⊢
 obtain⟨z,e⟩:=Z
 have hap:(Y3 at_)[((k:Nat):Int).toNat]?=some [.raw (.int .i64 a)]:=by rw[k0u];exact q0k ha
 have hsp:(x9 L)[((k:Nat):Int).toNat]?=some [bP s]:=by rw[k0u];exact Y2 hs
 refine Q7 hT Tryz.func93 rfl rfl Tryz.ntmps93 rfl ?_
 refine z7 hT ?_
 refine u5 ?_
 refine Q9 [] [] hT u6 (by rfl) ?_
 refine⟨by omega,Z1 hap ?_⟩
 refine⟨by omega,Z1 hsp ?_⟩
 refine⟨_,Q4 w _ rfl rfl,?_⟩
 refine z7 hT ?_
 refine u0 ?_
 exact x7 [] ⟨z,rfl,rfl,rfl⟩ rfl
theorem x5w (x:Sup)(next i:Int)(at_:List Int)(S:List x8)(n:Int)(h0:0≤n)(h1:n≤1000000)(hs:1≤x.g.s∧x.g.s≤32)(hk4:x.g.k≤4)(hm3:x.g.m≤3)(hl:at_.length=S.length)(hn:at_.length≤1000)(hS:∀ s∈S,s.length≤1000000) :
 AF k0q z4b [.p (.box (z0c x next i at_ S)),i64 n] [] (Q8 (.tup [.p (.sl 2 (px (q4g x n at_ S).1)),i64 (q4g x n at_ S).2]) []):=by
 refine AF.mono (R:=fun r H'=>∃ z,z=q4g x n at_ S∧r=.tup [.p (.sl 2 (px z.1)),i64 z.2]∧H'=[]) ?_ (by rintro r H' ⟨z,rfl,rfl,rfl⟩;exact⟨rfl,rfl⟩)
 have wf:=y9b x next i at_ S hl hn hS
 have hcl:=Y5 S
 have eZ:q4g x n at_ S=match n.tdiv x.g.s != x.area with
  |true=>(U2 (fun k=>q4f x.vol (at_.getD k 0) (S.getD k [])) S at_ at_.length,0)
  |false=>match (q1s S x.vol x.g (n.tdiv x.g.s) (n.tmod x.g.s) x.snap).2 != 0 with
   |true=>([],(q1s S x.vol x.g (n.tdiv x.g.s) (n.tmod x.g.s) x.snap).2)
   |false=>(U2 (fun k=>(Blk.mk 4 x.vol (at_.getD k 0) 0 x.snap ((q1s S x.vol x.g (n.tdiv x.g.s) (n.tmod x.g.s) x.snap).1.getD k [])).sld.1) S at_ at_.length,0):=rfl
 generalize q4g x n at_ S=Z at eZ ⊢
 have d0:=Int.tdiv_nonneg (a:=n) (b:=x.g.s) h0 (by omega)
 have d1:n.tdiv x.g.s≤n:=by rw[Int.tdiv_eq_ediv_of_nonneg h0];exact Int.ediv_le_self _ h0
 have eq1:IntKind.i64.wrap (n.tdiv x.g.s)=n.tdiv x.g.s:=Q1 _ (by omega) (by omega)
 generalize hq:n.tdiv x.g.s=qa at eZ d0 d1 eq1
 have wS:=w0k S x.vol x.g qa (n.tmod x.g.s) x.snap hk4 hm3 (by omega) hS
 have hfull:=x5v (l:=S) (vol:=x.vol) (g:=x.g) (area:=qa) (stripe:=n.tmod x.g.s) (no:=x.snap)
 refine Q7 hT Tryz.func51 rfl rfl Tryz.ntmps51 rfl ?_
 refine z7 hT ?_
 refine Z2 (Z3 0 [.box (z0c x next i at_ S)] rfl rfl) ?_
 refine Q3 (fun st=>∃ a b,a=qa∧b=n.tmod x.g.s∧st=⟨⟨68,[(2,.p (q2y x next i at_ S)),(6,i64 a),(7,i64 b)]⟩,[]⟩) ?_ ?_
 ·refine Q9 [] [] hT u6 (by rfl) ?_
  refine neI (show x.g.s≠0 by omega) ?_
  refine neI (show x.g.s≠0 by omega) ?_
  exact⟨_,z6 [] [2,6,7] rfl,IntKind.i64.wrap (n.tdiv x.g.s),n.tmod x.g.s,by rw[hq,eq1],rfl,rfl⟩
 rintro _ ⟨a,b,ha,hb,rfl⟩
 rw[← ha,← hb]at wS hfull
 rw[← ha,← hb]at eZ
 generalize q1s S x.vol x.g a b x.snap=SB at wS hfull eZ
 obtain⟨L,e⟩:=SB
 have hfull:e=0→L.length=S.length:=hfull
 refine w9 ⟨⟨68,[(2,.p (q2y x next i at_ S)),(6,i64 a),(7,i64 b)]⟩,[]⟩ ((a != x.area)=false) (z7 hT ?_) (fun har=>?_)
 ·refine y6 (u7 (fun h=>?_) (fun h=>?_))
  ·have h:(a != x.area)=true:=h
   rw[h]at eZ
   refine z7 hT ?_
   refine Q0 (Q4 wf _ rfl rfl) ?_
   refine u0 ?_
   exact x7 [] ⟨_,eZ.symm,rfl,rfl⟩ rfl
  ·exact x6 ⟨z6 [] [2,6,7] rfl,h⟩
 rw[har]at eZ
 have eZ:Z=match (generalizing:=false) e != 0 with|true=>([],e)|false=>(U2 (fun k=>(Blk.mk 4 x.vol (at_.getD k 0) 0 x.snap (L.getD k [])).sld.1) S at_ at_.length,0):=by rw[eZ]
 refine w9 ⟨⟨68,[(2,.p (q2y x next i at_ S)),(8,.ref 0 0),(9,i64 e)]⟩,[.cells v4y [.p (.sl 1 (x9 L))]]⟩ True ?_ (fun _=>?_)
 ·refine Q9 [25,26] [] hT u6 (by rfl) ?_
  refine⟨_,Q4 wS _ rfl rfl,?_⟩
  repeat first|refine⟨rfl,?_⟩|refine⟨⟨_,Q4 wS _ rfl rfl,rfl⟩,?_⟩
  exact⟨z6 [0] [2,8,9] rfl,trivial⟩
 refine Z2 (Z3 0 [.sl 1 (x9 L)] rfl rfl) ?_
 refine w9 ⟨⟨68,[(2,.p (q2y x next i at_ S)),(8,.p (.box [.sl 1 (x9 L)]))]⟩,[]⟩ ((e != 0)=false) (z7 hT ?_) (fun he=>?_)
 ·refine y6 (u7 (fun h=>?_) (fun h=>?_))
  ·have h:(e != 0)=true:=h
   rw[h]at eZ
   refine z7 hT ?_
   refine Z2 (J8 4 2 rfl) ?_
   refine u0 ?_
   exact x7 [] ⟨([],e),eZ.symm,rfl,rfl⟩ rfl
  ·exact x6 ⟨z6 [] [2,8] rfl,h⟩
 rw[he]at eZ
 have hLl:at_.length=L.length:=by have:=hfull (by simpa using he);omega
 have wp:=y3r (q2y x next i at_ S) (.box [.sl 1 (x9 L)]) q5i (fun k=>(Blk.mk 4 x.vol (at_.getD k 0) 0 x.snap (L.getD k [])).sld.1) x next i at_ S hl hn hS (fun k=>Nat.le_trans (y5c _) (by decide)) (fun k hk=>x0n x next i at_ S L k hk hLl)
 generalize U2 (fun k=>(Blk.mk 4 x.vol (at_.getD k 0) 0 x.snap (L.getD k [])).sld.1) S at_ at_.length=Dp at wp eZ
 refine z7 hT ?_
 refine Q0 (Q4 wp _ rfl rfl) ?_
 refine u0 ?_
 exact x7 [] ⟨(Dp,0),eZ.symm,rfl,rfl⟩ rfl
def z0d (V:Nat→Int)(n k:Nat):List (List PV):=(List.range n).map fun j=>([.raw (.int .i64 (if j<k then V j else 0))]:List PV)
theorem z1b (V:Nat→Int)(n k:Nat):(z0d V n k).length=n:=by unfold z0d;rw[k1x,k3q]
theorem z1c {V:Nat→Int}{n k j:Nat}(h:j<n):(z0d V n k)[j]?=some [.raw (.int .i64 (if j<k then V j else 0))]:=by
 unfold z0d;rw[k1z,k2s h];rfl
theorem w0s {V:Nat→Int}{n k:Nat}(h:k<n):(z0d V n k).set k [.raw (.int .i64 (V k))]=z0d V n (k+1):=by
 refine List.ext_getElem? fun j=>?_
 rw[List.getElem?_set]
 by_cases hj:j<n
 ·rw[z1b]
  by_cases e:k=j
  ·subst e
   rw[if_pos rfl,if_pos h,z1c h,if_pos (by omega)]
  ·rw[if_neg e,z1c hj,z1c hj]
   by_cases h2:j<k
   ·rw[if_pos h2,if_pos (by omega)]
   ·rw[if_neg h2,if_neg (by omega)]
 ·rw[if_neg (by omega),List.getElem?_eq_none (by rw[z1b];omega),List.getElem?_eq_none (by rw[z1b];omega)]
theorem x2r (V:Nat→Int)(n:Nat):z0d V n 0=List.replicate n [.raw (.int .i64 0)]:=by
 refine List.ext_getElem? fun j=>?_
 rw[List.getElem?_replicate]
 by_cases hj:j<n
 ·rw[z1c hj,if_neg (by omega),if_pos hj]
 ·rw[List.getElem?_eq_none (by rw[z1b];omega),if_neg hj]
theorem w0t (V:Nat→Int)(n:Nat):z0d V n n=Y3 ((List.range n).map V):=by
 unfold z0d Y3
 rw[List.map_map]
 refine List.map_congr_left fun j hj=>?_
 rw[if_pos (List.mem_range.mp hj)];rfl
theorem v1k (f:FuncId)(V:Nat→Int)(n:Nat)(n2:n≤1000)(w:∀ j:Nat,j<n→AF k0q f [i64 j] [] (Q8 (i64 (V j)) [])) :
 AF k0q y2a [i64 n,.clo (.func f) []] [] (Q8 (.p (.sl 1 (Y3 ((List.range n).map V)))) []):=by
 refine AF.mono (R:=fun r H'=>∃ z,z=z0d V n n∧r=.p (.sl 1 z)∧H'=[]) ?_ (by rintro r H' ⟨z,rfl,rfl,rfl⟩;exact⟨by rw[w0t],rfl⟩)
 have hz:=x2r V n
 have hl:=z1b V n n
 refine Q7 hT Tryz.func79 rfl rfl Tryz.ntmps79 rfl ?_
 refine z7 hT ?_
 refine Q3 (fun st=>∃ X,X=z0d V n 0∧st=⟨⟨22,[(1,.clo (.func f) []),(5,.msl 0 1 0 n)]⟩,[.row W5 1 X]⟩) (z8 hT ?_) ?_
 ·refine⟨⟨rfl,by omega,⟨by show (n:Int)*8≤_;omega,by omega⟩⟩,?_⟩
  exact⟨_,z6 [0] [1,5] rfl,_,hz.symm,rfl⟩
 rintro _ ⟨X,hX,rfl⟩
 refine Q3 (fun st=>∃ X,X=z0d V n n∧st=⟨⟨22,[(5,.msl 0 1 0 n)]⟩,[.row W5 1 X]⟩) (z7 hT ?_) ?_
 ·refine y8 ?_
  refine Q2 (fun m s=>∃ (k:Nat) (j:Int) (X:_),m+k=n∧j=k∧X=z0d V n k∧s=⟨⟨22,[(1,.clo (.func f) []),(5,.msl 0 1 0 n),(10,i64 n),(11,i64 j)]⟩,[.row W5 1 X]⟩) n ⟨⟨22,_⟩,_⟩ (z6 [0] [1,5,10,11] rfl) ⟨0,0,X,by omega,rfl,hX,rfl⟩ ?_
  clear hz
  rintro m s ⟨k,j,X,hmk,hj,hX,rfl⟩
  refine z7 hT ?_
  refine u5 (y6 (u7 (fun h=>?_) (fun h=>?_)))
  ·have h:=k0z (show decide (j<(n:Int))=true from h)
   have hk:k<n:=by omega
   refine x6 ?_
   have w:=w k hk
   rw[← hj]at w
   have hgx:X[0+j.toNat]?=some [.raw (.int .i64 0)]:=by
    rw[show 0+j.toNat=k by omega,hX,z1c hk,if_neg (by omega)]
   have hset:X.set (0+j.toNat) [.raw (.int .i64 (V k))]=z0d V n (k+1):=by
    rw[show 0+j.toNat=k by omega,hX];exact w0s hk
   generalize V k=v at w hset
   refine Q3 (fun st=>∃ X,X=z0d V n (k+1)∧st=⟨⟨22,[(1,.clo (.func f) []),(5,.msl 0 1 0 n),(10,i64 n),(11,i64 j)]⟩,[.row W5 1 X]⟩) (y8 ?_) ?_
   ·refine z7 hT ?_
    refine z8 hT ?_
    refine Q0 (Q4 w _ rfl rfl) ?_
    refine⟨⟨by omega,by omega⟩,?_⟩
    refine Z1 hgx ?_
    exact⟨_,z6 [0] [1,5,10,11] rfl,_,hset,rfl⟩
   ·rintro _ ⟨X,rfl,rfl⟩
    refine z8 hT ?_
    exact⟨m - 1,by omega,_,z6 [0] [1,5,10,11] rfl,k+1,IntKind.i64.wrap (j+1),_,by omega,by rw[Q1 _ (by omega) (by omega)];omega,rfl,rfl⟩
  ·have h:=k0y (show decide (j<(n:Int))=false from h)
   rw[show k=n by omega]at hX
   refine Q6 ?_
   exact⟨_,z6 [0] [5] rfl,_,hX,rfl⟩
 rintro _ ⟨X,hX,rfl⟩
 refine Z2 (q1e 5 0 n rfl (by rw[hX,hl]) rfl rfl) ?_
 refine z7 hT ?_
 refine u0 ?_
 exact x7 [] ⟨X,hX,rfl,rfl⟩ rfl
theorem v1m (c1 c2:PV)(f:FuncId)(V:Nat→Int)(n:Nat)(n2:n≤1000)(w:∀ j:Nat,j<n→AF k0q f [i64 j,.p c1,.p c2] [] (Q8 (i64 (V j)) [])) :
 AF k0q y2a [i64 n,.clo (.func f) [.p c1,.p c2]] [] (Q8 (.p (.sl 1 (Y3 ((List.range n).map V)))) []):=by
 refine AF.mono (R:=fun r H'=>∃ z,z=z0d V n n∧r=.p (.sl 1 z)∧H'=[]) ?_ (by rintro r H' ⟨z,rfl,rfl,rfl⟩;exact⟨by rw[w0t],rfl⟩)
 have hz:=x2r V n
 have hl:=z1b V n n
 refine Q7 hT Tryz.func79 rfl rfl Tryz.ntmps79 rfl ?_
 refine z7 hT ?_
 refine Q3 (fun st=>∃ X,X=z0d V n 0∧st=⟨⟨22,[(1,.clo (.func f) [.p c1,.p c2]),(5,.msl 0 1 0 n)]⟩,[.row W5 1 X]⟩) (z8 hT ?_) ?_
 ·refine⟨⟨rfl,by omega,⟨by show (n:Int)*8≤_;omega,by omega⟩⟩,?_⟩
  exact⟨_,z6 [0] [1,5] rfl,_,hz.symm,rfl⟩
 rintro _ ⟨X,hX,rfl⟩
 refine Q3 (fun st=>∃ X,X=z0d V n n∧st=⟨⟨22,[(5,.msl 0 1 0 n)]⟩,[.row W5 1 X]⟩) (z7 hT ?_) ?_
 ·refine y8 ?_
  refine Q2 (fun m s=>∃ (k:Nat) (j:Int) (X:_),m+k=n∧j=k∧X=z0d V n k∧s=⟨⟨22,[(1,.clo (.func f) [.p c1,.p c2]),(5,.msl 0 1 0 n),(10,i64 n),(11,i64 j)]⟩,[.row W5 1 X]⟩) n ⟨⟨22,_⟩,_⟩ (z6 [0] [1,5,10,11] rfl) ⟨0,0,X,by omega,rfl,hX,rfl⟩ ?_
  clear hz
  rintro m s ⟨k,j,X,hmk,hj,hX,rfl⟩
  refine z7 hT ?_
  refine u5 (y6 (u7 (fun h=>?_) (fun h=>?_)))
  ·have h:=k0z (show decide (j<(n:Int))=true from h)
   have hk:k<n:=by omega
   refine x6 ?_
   have w:=w k hk
   rw[← hj]at w
   have hgx:X[0+j.toNat]?=some [.raw (.int .i64 0)]:=by
    rw[show 0+j.toNat=k by omega,hX,z1c hk,if_neg (by omega)]
   have hset:X.set (0+j.toNat) [.raw (.int .i64 (V k))]=z0d V n (k+1):=by
    rw[show 0+j.toNat=k by omega,hX];exact w0s hk
   generalize V k=v at w hset
   refine Q3 (fun st=>∃ X,X=z0d V n (k+1)∧st=⟨⟨22,[(1,.clo (.func f) [.p c1,.p c2]),(5,.msl 0 1 0 n),(10,i64 n),(11,i64 j)]⟩,[.row W5 1 X]⟩) (y8 ?_) ?_
   ·refine z7 hT ?_
    refine z8 hT ?_
    refine Q0 (Q4 w _ rfl rfl) ?_
    refine⟨⟨by omega,by omega⟩,?_⟩
    refine Z1 hgx ?_
    exact⟨_,z6 [0] [1,5,10,11] rfl,_,hset,rfl⟩
   ·rintro _ ⟨X,rfl,rfl⟩
    refine z8 hT ?_
    exact⟨m - 1,by omega,_,z6 [0] [1,5,10,11] rfl,k+1,IntKind.i64.wrap (j+1),_,by omega,by rw[Q1 _ (by omega) (by omega)];omega,rfl,rfl⟩
  ·have h:=k0y (show decide (j<(n:Int))=false from h)
   rw[show k=n by omega]at hX
   refine Q6 ?_
   exact⟨_,z6 [0] [5] rfl,_,hX,rfl⟩
 rintro _ ⟨X,hX,rfl⟩
 refine Z2 (q1e 5 0 n rfl (by rw[hX,hl]) rfl rfl) ?_
 refine z7 hT ?_
 refine u0 ?_
 exact x7 [] ⟨X,hX,rfl,rfl⟩ rfl
theorem x5x (j:Nat):AF k0q z2w [i64 j] [] (Q8 (i64 j) []):=by
 refine Q7 hT Tryz.func80 rfl rfl Tryz.ntmps80 rfl ?_
 refine z7 hT ?_
 refine z7 hT ?_
 refine u0 ?_
 exact x7 [] ⟨rfl,rfl⟩ rfl
theorem x5y (g:GeoV)(i:Int)(hw:8≤g.w∧g.w≤512)(h0:1≤i)(h1:i≤g.w)(j:Nat)(hj:j<2):AF k0q z2x [i64 j,.p (.box g.pv),.p (.box [.raw (.int .i64 i)])] [] (Q8 (i64 (4+j*g.w+i - 1)) []):=by
 have hm:0≤(j:Int)*g.w∧(j:Int)*g.w≤512:=by
  rcases (show j=0∨j=1 by omega) with rfl|rfl <;> omega
 have e:IntKind.i64.wrap (IntKind.i64.wrap (IntKind.i64.wrap (4+IntKind.i64.wrap (j*g.w))+i) - 1)=4+j*g.w+i - 1:=by
  rw[Q1 (j*g.w) (by omega) (by omega),Q1 (4+j*g.w) (by omega) (by omega),Q1 (4+j*g.w+i) (by omega) (by omega),Q1 _ (by omega) (by omega)]
 rw[← e]
 refine Q7 hT Tryz.func81 rfl rfl Tryz.ntmps81 rfl ?_
 refine z7 hT ?_
 refine z7 hT ?_
 refine u0 ?_
 exact x7 [] ⟨rfl,rfl⟩ rfl
def q1x (g:GeoV)(i:Int):List Int:=match decide (i=0) with
 |true=>(List.range 4).map fun j:Nat=>(j:Int)
 |false=>match decide (i≤g.w) with
  |true=>(List.range 2).map fun j:Nat=>4+j*g.w+i - 1
  |false=>(List.range (g.k+g.m).toNat).map fun j:Nat=>4+2*g.w+(i - 1 - g.w)*(g.k+g.m)+j
theorem v7u (first:Int)(n:Nat):z2j first n n=Y3 ((List.range n).map fun j:Nat=>first+j):=by
 unfold z2j Y3
 rw[List.map_map]
 refine List.map_congr_left fun j hj=>?_
 rw[if_pos (List.mem_range.mp hj)];rfl
theorem y0q (g:GeoV)(i:Int)(hg:g.may=true)(h0:0≤i)(h1:i<g.groups):AF k0q z6s [g.av,i64 i] [] (Q8 (.p (.sl 1 (Y3 (q1x g i)))) []):=by
 obtain⟨g1,g2,g3,g4,g5,g6,g7,g8⟩:=V4 (V2 hg)
 have hgr:g.groups=1+g.w+2*g.s:=by unfold GeoV.groups;rw[hg]
 by_cases hi:g.w<i
 ·have e1:q1x g i=(List.range (g.k+g.m).toNat).map fun j:Nat=>4+2*g.w+(i - 1 - g.w)*(g.k+g.m)+j:=by
   unfold q1x
   rw[k1s (show ¬ i=0 by omega),k1s (show ¬ i≤g.w by omega)]
  rw[e1,← v7u]
  have w:=y3k g (i - 1 - g.w) hg (by omega) (by omega) (g.k+g.m).toNat (by omega) _ rfl
  rw[show 1+g.w+(i - 1 - g.w)=i by omega]at w
  exact z3u (t:=W5) (sz:=1) w (z4u _ _ _).symm
 have wG:=z2i g
 rw[hgr]at wG
 refine AF.mono (R:=fun r H'=>∃ z,z=q1x g i∧r=.p (.sl 1 (Y3 z))∧H'=[]) ?_ (by rintro r H' ⟨z,rfl,rfl,rfl⟩;exact⟨rfl,rfl⟩)
 have eM:q1x g i=match decide (i=0) with
  |true=>(List.range 4).map fun j:Nat=>(j:Int)
  |false=>match decide (i≤g.w) with
   |true=>(List.range 2).map fun j:Nat=>4+j*g.w+i - 1
   |false=>(List.range (g.k+g.m).toNat).map fun j:Nat=>4+2*g.w+(i - 1 - g.w)*(g.k+g.m)+j:=rfl
 generalize q1x g i=Z at eM ⊢
 refine Q7 hT Tryz.func48 rfl rfl Tryz.ntmps48 rfl ?_
 refine z7 hT ?_
 refine w9 ⟨⟨41,[(2,.p (.box g.pv)),(3,.p (.box [.raw (.int .i64 i)]))]⟩,[]⟩ False (y8 ?_) (fun hF=>hF.elim)
 refine Z2 (Z3 0 g.pv rfl rfl) ?_
 refine Z2 (Z3 1 [.raw (.int .i64 i)] rfl rfl) ?_
 refine u5 ?_
 refine Q9 [] [] hT u6 (by rfl) ?_
 refine u7 (fun h=>?_) (fun h=>?_)
 ·have h:=k0z (show decide (i<0)=true from h)
  omega
 refine⟨_,Q4 wG _ rfl rfl,?_⟩
 refine y6 (u7 (fun h=>?_) (fun h=>?_))
 ·have h:=k0z (show decide (i≥1+g.w+2*g.s)=true from h)
  omega
 refine z7 hT ?_
 refine y6 (u7 (fun h=>?_) (fun h=>?_))
 ·have h:(i==0)=true:=h
  rw[beq_iff_eq]at h
  rw[k1t h]at eM
  have w:=v1k z2w (fun j=>(j:Int)) 4 (by decide) (fun j _=>x5x j)
  refine z7 hT ?_
  refine Q0 (Q4 w _ rfl rfl) ?_
  refine u0 ?_
  exact x7 [] ⟨_,eM.symm,rfl,rfl⟩ rfl
 have h:(i==0)=false:=h
 rw[beq_eq_false_iff_ne]at h
 rw[k1s h,k1t (show i≤g.w by omega)]at eM
 refine z7 hT ?_
 refine y6 (u7 (fun h2=>?_) (fun h2=>?_))
 ·have w:=v1m (.box g.pv) (.box [.raw (.int .i64 i)]) z2x (fun j=>4+j*g.w+i - 1) 2 (by decide) (fun j hj=>x5y g i (by omega) (by omega) (by omega) j hj)
  refine z7 hT ?_
  refine Q0 (Q4 w _ rfl rfl) ?_
  refine u0 ?_
  exact x7 [] ⟨_,eM.symm,rfl,rfl⟩ rfl
 ·have h2:=k0y (show decide (i≤g.w)=false from h2)
  omega
def GeoV.sectors (g:GeoV):Int:=match g.may with|true=>4+2*g.w+2*g.s*(g.k+g.m)|false=>0
theorem w0u (g:GeoV):AF k0q y9w [g.av] [] (Q8 (i64 g.sectors) []):=by
 have wo:AF k0q y6m [g.av,.clo (.func z6u) []] [] (Q8 (i64 g.sectors) []):=by
  refine Q7 hT Tryz.func99 rfl rfl Tryz.ntmps99 rfl ?_
  refine z7 hT ?_
  refine Z2 (Z3 0 g.pv rfl rfl) ?_
  unfold GeoV.sectors
  refine u5 (z7 hT ?_)
  refine Q0 (Q4 (q9i g) _ rfl rfl) ?_
  refine y6 (u7 (fun h=>?_) (fun h=>?_))
  ·have h:(!g.may)=true:=h
   rw[Bool.not_eq_true']at h
   rw[h]
   refine z7 hT ?_
   refine u0 ?_
   exact x7 [] ⟨rfl,rfl⟩ rfl
  ·have h:(!g.may)=false:=h
   rw[Bool.not_eq_false']at h
   rw[h]
   have hf:=V2 h
   refine x6 ?_
   refine z7 hT ?_
   refine Q0 (Q4 (y3j g hf) _ rfl rfl) ?_
   refine u0 ?_
   exact x7 [] ⟨rfl,rfl⟩ rfl
 refine Q7 hT Tryz.func78 rfl rfl Tryz.ntmps78 rfl ?_
 refine z7 hT ?_
 refine Z2 (Z3 0 g.pv rfl rfl) ?_
 refine z7 hT ?_
 refine Q0 (Q4 wo _ rfl rfl) ?_
 refine u0 ?_
 exact x7 [] ⟨rfl,rfl⟩ rfl
def z0e (D:Dev)(x:Sup)(next i:Int):Int:=match !x.may||decide (next<x.start)||decide (next > 4294967295)||decide (next - x.start > x.g.w) with
 |true=>1
 |false=>match decide ((D.cells.length:Int)<x.g.sectors)||decide (i<0)||decide (i≥x.g.groups) with
  |true=>1
  |false=>match D.dead with|true=>21|false=>0
theorem y2x {x:Sup}(h:x.may=true):(0≤x.start∧x.start≤4294967295)∧x.g.may=true:=by
 unfold Sup.may at h
 simp only[Bool.and_eq_true]at h
 refine⟨?_,h.1.1.2⟩
 have hw:=h.1.1.1.1.1.1
 unfold Sup.words Y7 at hw
 simp only[List.all_cons,List.all_nil,Bool.and_true,Bool.and_eq_true,decide_eq_true_eq]at hw
 omega
theorem x2s (D:Dev)(x:Sup)(next i:Int):AFm k0q 3 x7v [.ref 0 0,x.av,i64 next,i64 i] (Y1 D) (Q8 (i64 (z0e D x next i)) (Y1 D)):=by
 refine AFm.mono (R:=fun r H'=>∃ z,z=z0e D x next i∧r=i64 z∧H'=Y1 D) ?_ (by rintro r H' ⟨z,rfl,rfl,rfl⟩;exact⟨rfl,rfl⟩)
 have eZ:z0e D x next i=match !x.may||decide (next<x.start)||decide (next > 4294967295)||decide (next - x.start > x.g.w) with
  |true=>1
  |false=>match decide ((D.cells.length:Int)<x.g.sectors)||decide (i<0)||decide (i≥x.g.groups) with
   |true=>1
   |false=>match D.dead with|true=>21|false=>0:=rfl
 have w1:=w7m x
 have w2:=w0u x.g
 have w3:=z2i x.g
 have w4:=x8n D
 have w5:=z5n D
 have hst:=y2x (x:=x)
 generalize z0e D x next i=Z at eZ ⊢
 refine Z5 3 hT Tryz.func47 rfl rfl Tryz.ntmps47 rfl rfl ?_
 refine z7 hT ?_
 refine Z2 (Z3 3 x.pv rfl rfl) ?_
 have eZ:∃ c1 c2,c1=(!x.may||decide (next<x.start)||decide (next > 4294967295)||decide (next - x.start > x.g.w))∧c2=(decide ((D.cells.length:Int)<x.g.sectors)||decide (i<0)||decide (i≥x.g.groups))∧(c1=true→Z=1)∧(c1=false→c2=true→Z=1)∧(c1=false→c2=false→D.dead=true→Z=21)∧(c1=false→c2=false→D.dead=false→Z=0):=by
  refine⟨_,_,rfl,rfl,fun h=>by rw[eZ,h],fun h h2=>by rw[eZ,h,h2],fun h h2 h3=>by rw[eZ,h,h2,h3],fun h h2 h3=>by rw[eZ,h,h2,h3]⟩
 obtain⟨c1,c2,e1,e2,z1,z2,z3,z4⟩:=eZ
 refine w9 ⟨⟨44,[]⟩,Y1 D⟩ (c1=false∧c2=false∧D.dead=false) (y8 ?_) ?_
 ·refine Q3 (fun st=>∃ v,v=c1∧st=⟨⟨44,[(0,.ref 0 0),(2,i64 next),(3,i64 i),(5,.p (.box x.pv)),(9,bl v)]⟩,Y1 D⟩) (z7 hT ?_) ?_
  ·refine Q0 (Q4 w1 _ rfl rfl) ?_
   refine y6 (u7 (fun h=>?_) (fun h=>?_))
   ·have h:(!x.may)=true:=h
    rw[h]at e1
    exact x6 ⟨_,z6 [0,1,2] [0,2,3,5,9] rfl,_,by rw[h,e1];rfl,rfl⟩
   have h:(!x.may)=false:=h
   rw[h]at e1
   obtain⟨⟨s0,s1⟩,hg⟩:=hst (by simpa using h)
   obtain⟨g1,g2,g3,g4,g5,g6,g7,g8⟩:=V4 (V2 hg)
   refine z7 hT ?_
   refine y6 (u7 (fun h2=>?_) (fun h2=>?_))
   ·have h2:decide (next<x.start)=true:=h2
    rw[h2]at e1
    exact x6 ⟨_,z6 [0,1,2] [0,2,3,5,9] rfl,_,by rw[h2,e1];rfl,rfl⟩
   have h2:decide (next<x.start)=false:=h2
   rw[h2]at e1
   refine z7 hT ?_
   refine y6 (u7 (fun h3=>?_) (fun h3=>?_))
   ·have h3:decide (next > 4294967295)=true:=h3
    rw[h3]at e1
    exact x6 ⟨_,z6 [0,1,2] [0,2,3,5,9] rfl,_,by rw[h3,e1];rfl,rfl⟩
   have h3:decide (next > 4294967295)=false:=h3
   rw[h3]at e1
   have h2:=k0y h2
   have h3:=k0y h3
   have hwr:IntKind.i64.wrap (next - x.start)=next - x.start:=Q1 _ (by omega) (by omega)
   refine z8 hT ?_
   exact⟨_,z6 [0,1,2] [0,2,3,5,9] rfl,decide (IntKind.i64.wrap (next - x.start) > x.g.w),by rw[hwr,e1];rfl,rfl⟩
  rintro _ ⟨v,hv,rfl⟩
  refine y6 (u7 (fun h=>?_) (fun h=>?_))
  ·have h:v=true:=h
   refine z7 hT ?_
   refine u0 ?_
   exact x7 [0,1,2] ⟨1,(z1 (by rw[← hv];exact h)).symm,rfl,rfl⟩ rfl
  have h:v=false:=h
  have hc1:c1=false:=by rw[← hv];exact h
  refine Q3 (fun st=>∃ v,v=c2∧st=⟨⟨44,[(0,.ref 0 0),(27,bl v)]⟩,Y1 D⟩) (u5 ?_) ?_
  ·refine Q9 [] [] hT u6 (by rfl) ?_
   refine⟨_,Z7 [0,1,2] w4 rfl rfl rfl,?_⟩
   refine⟨_,Q4 w2 _ rfl rfl,?_⟩
   refine y6 (u7 (fun h=>?_) (fun h=>?_))
   ·have h:decide ((D.cells.length:Int)<x.g.sectors)=true:=h
    rw[h]at e2
    exact x6 ⟨_,z6 [0,1,2] [0,27] rfl,_,by rw[h,e2];rfl,rfl⟩
   have h:decide ((D.cells.length:Int)<x.g.sectors)=false:=h
   rw[h]at e2
   refine z7 hT ?_
   refine y6 (u7 (fun h2=>?_) (fun h2=>?_))
   ·have h2:decide (i<0)=true:=h2
    rw[h2]at e2
    exact x6 ⟨_,z6 [0,1,2] [0,27] rfl,_,by rw[h2,e2];rfl,rfl⟩
   have h2:decide (i<0)=false:=h2
   rw[h2]at e2
   refine z8 hT ?_
   refine Q0 (Q4 w3 _ rfl rfl) ?_
   exact⟨_,z6 [0,1,2] [0,27] rfl,decide (i≥x.g.groups),by rw[e2];rfl,rfl⟩
  rintro _ ⟨v,hv,rfl⟩
  refine y6 (u7 (fun h=>?_) (fun h=>?_))
  ·have h:v=true:=h
   refine z7 hT ?_
   refine u0 ?_
   exact x7 [0,1,2] ⟨1,(z2 hc1 (by rw[← hv];exact h)).symm,rfl,rfl⟩ rfl
  have h:v=false:=h
  have hc2:c2=false:=by rw[← hv];exact h
  refine z7 hT ?_
  refine Q0 (Z7 [0,1,2] w5 rfl rfl rfl) ?_
  refine y6 (u7 (fun h=>?_) (fun h=>?_))
  ·have h:D.dead=true:=h
   refine z7 hT ?_
   refine u0 ?_
   exact x7 [0,1,2] ⟨21,(z3 hc1 hc2 h).symm,rfl,rfl⟩ rfl
  ·have h:D.dead=false:=h
   exact x6 ⟨z6 [0,1,2] [] rfl,hc1,hc2,h⟩
 rintro⟨h1,h2,h3⟩
 refine z7 hT ?_
 refine u0 ?_
 exact x7 [0,1,2] ⟨0,(z4 h1 h2 h3).symm,rfl,rfl⟩ rfl
def Dev.snapWrite (D:Dev)(vol:Int)(g:GeoV)(area epoch no:Int)(b:x8):Int × Dev:=match (putsB vol g area epoch no b).2 != 0 with
 |true=>((putsB vol g area epoch no b).2,D)
 |false=>D.all9 (putsB vol g area epoch no b).1
theorem v1n {vol:Int}{g:GeoV}{area epoch no:Int}{b:x8}(hk4:g.k≤4)(hm3:g.m≤3):(putsB vol g area epoch no b).1.length≤224:=by
 unfold putsB
 split
 ·exact Nat.zero_le _
 ·rename_i h
  split
  ·exact Nat.zero_le _
  ·have hf:q1z g area 0:=by
    by_cases hf:q1z g area 0
    ·exact hf
    ·rw[z4v hf]at h;exact absurd h (by simp)
   obtain⟨h1,h2,h3,h4,h5,h6,h7,h8⟩:=V4 (V2 hf.1)
   show (q5s _ _ _ _ _ _ _ _ _).length≤_
   rw[q4w]
   exact Nat.le_trans (Nat.mul_le_mul (show g.s.toNat≤32 by omega) (show g.k.toNat+g.m.toNat≤7 by omega)) (by decide)
theorem w5a (D:Dev)(vol:Int)(g:GeoV)(area epoch no:Int)(b:x8)(hk4:g.k≤4)(hm3:g.m≤3)(hb:b.length≤1000000)(n:Nat)(hD:D.Ok n)(hn:n+1000<1000000) :
 AFm k0q 1 x4q [.ref 0 0,i64 vol,g.av,i64 area,i64 epoch,i64 no,bA b] (Y1 D) (Q8 (i64 (D.snapWrite vol g area epoch no b).1) (Y1 (D.snapWrite vol g area epoch no b).2)):=by
 refine AFm.mono (R:=fun r H'=>∃ z,z=D.snapWrite vol g area epoch no b∧r=i64 z.1∧H'=Y1 z.2) ?_ (by rintro r H' ⟨z,rfl,rfl,rfl⟩;exact⟨rfl,rfl⟩)
 have wP:=v1d vol g area epoch no b hk4 hm3 hb
 have eZ:D.snapWrite vol g area epoch no b=match (putsB vol g area epoch no b).2 != 0 with
  |true=>((putsB vol g area epoch no b).2,D)
  |false=>D.all9 (putsB vol g area epoch no b).1:=rfl
 have hlen:=v1n (vol:=vol) (g:=g) (area:=area) (epoch:=epoch) (no:=no) (b:=b) hk4 hm3
 generalize D.snapWrite vol g area epoch no b=Z at eZ
 generalize putsB vol g area epoch no b=F at wP eZ hlen
 refine Z5 1 hT Tryz.func32 rfl rfl Tryz.ntmps32 rfl rfl ?_
 refine z7 hT ?_
 refine Z2 (Z3 3 g.pv rfl rfl) ?_
 refine w9 ⟨⟨33,[(0,.ref 0 0),(15,.p (.sl 2 (px F.1))),(16,i64 F.2)]⟩,Y1 D⟩ True (z8 hT ?_) (fun _=>?_)
 ·refine Q0 (Q4 wP _ rfl rfl) ?_
  exact⟨z6 [0,1,2] [0,15,16] rfl,trivial⟩
 refine u5 (z7 hT ?_)
 refine y6 (u7 (fun h=>?_) (fun h=>?_))
 ·have h:(F.2 != 0)=true:=h
  rw[h]at eZ
  refine z7 hT ?_
  refine u0 ?_
  exact x7 [0,1,2] ⟨_,eZ.symm,rfl,rfl⟩ rfl
 ·have h:(F.2 != 0)=false:=h
  rw[h]at eZ
  refine x6 ?_
  have wA:=y0m D F.1 n hD (by omega)
  refine z7 hT ?_
  refine Q0 (Z7 [0,1,2] wA rfl rfl rfl) ?_
  refine u0 ?_
  exact x7 [0,3,4] ⟨_,eZ.symm,rfl,rfl⟩ rfl
def Dev.reads (D:Dev)(A:Int):Nat→List x8 × Dev
 |0=>([],D)
 |i+1=>((D.reads A i).1++[((D.reads A i).2.read (A+i)).1.1],((D.reads A i).2.read (A+i)).2)
def Dev.readsL (D:Dev)(at_:List Int):Nat→List x8 × Dev
 |0=>([],D)
 |k+1=>((D.readsL at_ k).1++[((D.readsL at_ k).2.read (at_.getD k 0)).1.1],((D.readsL at_ k).2.read (at_.getD k 0)).2)
theorem z5z {D:Dev}{b:Nat}(h:D.Ok b)(at_:List Int):∀ k,(D.readsL at_ k).2.Ok b
 |0=>h
 |k+1=>(z5z h at_ k).read _
theorem y9c (D:Dev)(at_:List Int):∀ k,(D.readsL at_ k).1.length=k
 |0=>rfl
 |k+1=>by show ((D.readsL at_ k).1++[_]).length=_;rw[k1y,y9c D at_ k];rfl
theorem y0r {D:Dev}{b:Nat}(h:D.Ok b)(at_:List Int):∀ k,∀ s∈(D.readsL at_ k).1,s.length≤256
 |0,s,hs=>by simp[Dev.readsL]at hs
 |k+1,s,hs=>by
  have hs:s∈(D.readsL at_ k).1++[((D.readsL at_ k).2.read (at_.getD k 0)).1.1]:=hs
  rcases List.mem_append.mp hs with hs|hs
  ·exact y0r h at_ k s hs
  ·rw[List.mem_singleton.mp hs]
   exact v5p (z5z h at_ k) _
def q4z (x:Sup)(next i:Int)(at_:List Int)(S:List x8):List Put9 × Int:=match decide (i=0) with
 |true=>(U2 (fun k=>(x.sector k).1) S at_ at_.length,0)
 |false=>match decide (i≤x.g.w) with
  |true=>z3b x next (i - 1) at_ S
  |false=>q4g x (i - 1 - x.g.w) at_ S
def Dev.want (D:Dev)(x:Sup)(next i:Int):(List Put9 × Int) × Dev:=match z0e D x next i != 0 with
 |true=>(([],z0e D x next i),D)
 |false=>(q4z x next i (q1x x.g i) (D.readsL (q1x x.g i) (q1x x.g i).length).1,(D.readsL (q1x x.g i) (q1x x.g i).length).2)
abbrev v7v (x:Sup)(next i:Int)(at_:List Int)(s:AV):List AV:=[i64 x.vol,i64 x.gen,i64 x.epoch,i64 x.area,i64 x.snap,i64 x.long,i64 x.start,i64 x.chain,i64 x.g.w,i64 x.g.s,i64 x.g.k,i64 x.g.m,i64 next,i64 i,.p (.sl 1 (Y3 at_)),s]
theorem v7w {D:Dev}{x:Sup}{next i:Int}(h:z0e D x next i=0):(0≤x.start∧x.start≤4294967295)∧x.g.may=true∧0≤i∧i<x.g.groups:=by
 unfold z0e at h
 split at h
 ·exact absurd h (by decide)
 ·rename_i h1
  simp only[Bool.or_eq_false_iff,Bool.not_eq_false']at h1
  obtain⟨a,b⟩:=y2x h1.1.1.1
  split at h
  ·exact absurd h (by decide)
  ·rename_i h2
   simp only[Bool.or_eq_false_iff,decide_eq_false_iff_not]at h2
   exact⟨a,b,by omega,by omega⟩
theorem z6a {g:GeoV}(hg:g.may=true)(i:Int):(q1x g i).length≤24:=by
 obtain⟨g1,g2,g3,g4,g5,g6,g7,g8⟩:=V4 (V2 hg)
 unfold q1x
 split
 ·rw[k1x,k3q];decide
 ·split
  ·rw[k1x,k3q];decide
  ·rw[k1x,k3q];omega
theorem y9d (D:Dev)(x:Sup)(next i:Int)(hk4:x.g.k≤4)(hm3:x.g.m≤3)(n:Nat)(hD:D.Ok n)(hn:n≤1000000) :
 AFm k0q 1 z9b [.ref 0 0,x.av,i64 next,i64 i] (Y1 D) (Q8 (.tup [.p (.sl 2 (px (D.want x next i).1.1)),i64 (D.want x next i).1.2]) (Y1 (D.want x next i).2)):=by
 refine AFm.mono (R:=fun r H'=>∃ z,z=D.want x next i∧r=.tup [.p (.sl 2 (px z.1.1)),i64 z.1.2]∧H'=Y1 z.2) ?_ (by rintro r H' ⟨z,rfl,rfl,rfl⟩;exact⟨rfl,rfl⟩)
 have wm:=x2s D x next i
 have hm0:=v7w (D:=D) (x:=x) (next:=next) (i:=i)
 have eZ:D.want x next i=match z0e D x next i != 0 with
  |true=>(([],z0e D x next i),D)
  |false=>(q4z x next i (q1x x.g i) (D.readsL (q1x x.g i) (q1x x.g i).length).1,(D.readsL (q1x x.g i) (q1x x.g i).length).2):=rfl
 generalize D.want x next i=Z at eZ ⊢
 generalize z0e D x next i=me at wm hm0 eZ
 refine Z5 1 hT Tryz.func21 rfl rfl Tryz.ntmps21 rfl rfl ?_
 refine z7 hT ?_
 refine Z2 (Z3 3 x.pv rfl rfl) ?_
 refine w9 ⟨⟨88,[(0,.ref 0 0),(2,i64 next),(3,i64 i),(5,.p (.box x.pv))]⟩,Y1 D⟩ ((me != 0)=false) (z7 hT ?_) (fun hme=>?_)
 ·refine Q0 (Z7 [0,1,2] wm rfl rfl rfl) ?_
  refine z7 hT ?_
  refine y6 (u7 (fun h=>?_) (fun h=>?_))
  ·have h:(me != 0)=true:=h
   rw[h]at eZ
   refine z7 hT ?_
   refine Z2 (J8 8 2 rfl) ?_
   refine u0 ?_
   exact x7 [0,1,2] ⟨(([],me),D),eZ.symm,rfl,rfl⟩ rfl
  ·exact x6 ⟨z6 [0,1,2] [0,2,3,5] rfl,h⟩
 rw[hme]at eZ
 obtain⟨hst,hg,i0,i1⟩:=hm0 (by simpa using hme)
 obtain⟨g1,g2,g3,g4,g5,g6,g7,g8⟩:=V4 (V2 hg)
 have wM:=y0q x.g i hg i0 i1
 have hml:=z6a hg i
 have hgr:x.g.groups=1+x.g.w+2*x.g.s:=by unfold GeoV.groups;rw[hg]
 generalize q1x x.g i=at_ at wM hml eZ
 have hil:=W8 at_
 have hrs:∀ k,D.readsL at_ (k+1)=((D.readsL at_ k).1++[((D.readsL at_ k).2.read (at_.getD k 0)).1.1],((D.readsL at_ k).2.read (at_.getD k 0)).2):=fun k=>rfl
 have hro:=z5z hD at_
 have hrl:=y9c D at_
 have hrb:=y0r hD at_
 have hr0:D.readsL at_ 0=([],D):=rfl
 generalize D.readsL at_=rd at eZ hrs hro hrl hrb hr0
 refine w9 ⟨⟨88,[(0,.ref 0 0),(3,i64 i),(5,.p (.box x.pv)),(11,.ref 3 0)]⟩,Y1 D++[.cells q6n (v7v x next i at_ (.msl 4 1 0 (x9 []).length)),.row y7 1 (x9 [])]⟩ True ?_ (fun _=>?_)
 ·refine Q9 [8] [] hT u6 (by rfl) ?_
  refine⟨_,Q4 wM _ rfl rfl,?_⟩
  repeat first|refine⟨rfl,?_⟩|refine⟨⟨_,Q4 wM _ rfl rfl,rfl⟩,?_⟩
  exact⟨Wk.trans (W9 y7 1) (Wk.trans (V8 3 (v7v x next i at_ (.msl 4 1 0 0)) rfl ⟨.inl rfl,.inl rfl,.inl rfl,.inl rfl,.inl rfl,.inl rfl,.inl rfl,.inl rfl,.inl rfl,.inl rfl,.inl rfl,.inl rfl,.inl rfl,.inl rfl,.inl rfl,.inr (.inr (.inl ⟨4,1,0,rfl,rfl⟩)),trivial⟩) (z6 [0,1,2,3,4] [0,3,5,11] rfl)),trivial⟩
 refine Q3 (fun st=>∃ X F,X=(rd at_.length).1∧F=(rd at_.length).2∧st=⟨⟨88,[(3,i64 i),(5,.p (.box x.pv)),(11,.ref 3 0)]⟩,Y1 F++[.cells q6n (v7v x next i at_ (.msl 4 1 0 (x9 X).length)),.row y7 1 (x9 X)]⟩) (z7 hT ?_) ?_
 ·refine y8 ?_
  refine Q2 (fun c st=>∃ (k:Nat) (jk:Int) (X:List x8) (F:Dev),c+k=at_.length∧jk=k∧X=(rd k).1∧F=(rd k).2∧st=⟨⟨88,[(0,.ref 0 0),(3,i64 i),(5,.p (.box x.pv)),(11,.ref 3 0),(36,.p (.sl 1 (Y3 at_))),(37,i64 (Y3 at_).length),(38,i64 jk)]⟩,Y1 F++[.cells q6n (v7v x next i at_ (.msl 4 1 0 (x9 X).length)),.row y7 1 (x9 X)]⟩) at_.length ⟨⟨88,_⟩,[_,_,_,_,_]⟩ (z6 [0,1,2,3,4] [0,3,5,11,36,37,38] rfl) ⟨0,0,[],D,by omega,rfl,by rw[hr0],by rw[hr0],rfl⟩ ?_
  rintro c st ⟨k,jk,X,F,hck,hjk,hX,hF,rfl⟩
  refine z7 hT ?_
  refine u5 (y6 (u7 (fun h=>?_) (fun h=>?_)))
  ·have h:=k0z (show decide (jk<(((Y3 at_).length:Nat):Int))=true from h)
   have hk:k<at_.length:=by omega
   refine x6 ?_
   have ha:at_[k]?=some (at_.getD k 0):=by rw[k0v,k0w hk];rfl
   have hrk:=hrs k
   generalize at_.getD k 0=a at ha hrk
   have hap:(Y3 at_)[jk.toNat]?=some [.raw (.int .i64 a)]:=by rw[hjk,k0u];exact q0k ha
   have hFo:=hro k
   rw[← hF]at hFo hrk
   rw[← hX]at hrk
   have w:=x1r F a (by have:=hFo.wl;omega) (fun x hx=>by have:=hFo.ws x hx;omega) (fun c hc=>by have:=hFo.cs c hc;omega)
   generalize F.read a=Y at w hrk
   obtain⟨⟨u,f⟩,G⟩:=Y
   have w:AFm k0q 3 z0h [.ref 0 0,i64 a] (Y1 F) (Q8 (.tup [bA u,i64 f]) (Y1 G)):=w
   have hrk:rd (k+1)=(X++[u],G):=hrk
   have hXl:(x9 X).length≤24:=by rw[Y5,hX,hrl];omega
   refine Q3 (fun st=>∃ X' G',X'=(rd (k+1)).1∧G'=(rd (k+1)).2∧st=⟨⟨88,[(0,.ref 0 0),(3,i64 i),(5,.p (.box x.pv)),(11,.ref 3 0),(36,.p (.sl 1 (Y3 at_))),(37,i64 (Y3 at_).length),(38,i64 jk)]⟩,Y1 G'++[.cells q6n (v7v x next i at_ (.msl 4 1 0 (x9 X').length)),.row y7 1 (x9 X')]⟩) (y8 (z7 hT ?_)) ?_
   ·refine⟨by omega,Z1 hap ?_⟩
    refine z7 hT ?_
    refine Q0 (Z7 [0,1,2] w rfl rfl rfl) ?_
    refine z8 hT ?_
    refine⟨rfl,⟨by show ((x9 X).length+1)*24≤_;omega,by show (x9 X).length+1≤_;omega⟩,?_⟩
    refine⟨_,z6 [0,1,2,3,6] [0,3,5,11,36,37,38] rfl,X++[u],G,by rw[hrk],by rw[hrk],?_⟩
    rw[q4v];rfl
   ·rintro _ ⟨X',G',hX',hG',rfl⟩
    refine z8 hT ?_
    exact⟨c - 1,by omega,_,z6 [0,1,2,3,4] [0,3,5,11,36,37,38] rfl,k+1,IntKind.i64.wrap (jk+1),X',G',by omega,by rw[Q1 _ (by omega) (by omega)];omega,hX',hG',rfl⟩
  ·have h:=k0y (show decide (jk<(((Y3 at_).length:Nat):Int))=false from h)
   rw[show k=at_.length by omega]at hX hF
   refine Q6 ?_
   exact⟨_,z6 [0,1,2,3,4] [3,5,11] rfl,X,F,hX,hF,rfl⟩
 rintro _ ⟨S,F,hS,hF,rfl⟩
 have hSl:at_.length=S.length:=by rw[hS,hrl]
 have hSb:∀ s∈S,s.length≤1000000:=fun s hs=>by rw[hS]at hs;have:=hrb _ s hs;omega
 have eZ:Z=(q4z x next i at_ S,F):=by rw[eZ,hS,hF]
 clear hS hF hrs hro hrl hrb hr0 wm wM
 have eW:q4z x next i at_ S=match decide (i=0) with
  |true=>(U2 (fun k=>(x.sector k).1) S at_ at_.length,0)
  |false=>match decide (i≤x.g.w) with
   |true=>z3b x next (i - 1) at_ S
   |false=>q4g x (i - 1 - x.g.w) at_ S:=rfl
 generalize q4z x next i at_ S=W at eZ eW
 refine Z2 (J9 4 3 15 _ rfl rfl rfl rfl) ?_
 refine Z2 (Z3 3 (z0c x next i at_ S) rfl rfl) ?_
 have e1:IntKind.i64.wrap (i - 1)=i - 1:=Q1 _ (by omega) (by omega)
 refine w9 ⟨⟨88,[(3,i64 i),(5,.p (.box x.pv)),(11,.p (.box (z0c x next i at_ S)))]⟩,Y1 F⟩ (¬ i=0∧¬ i≤x.g.w) (y8 (z7 hT ?_)) ?_
 ·refine y6 (u7 (fun h=>?_) (fun h=>?_))
  ·have h:(i==0)=true:=h
   rw[beq_iff_eq]at h
   rw[k1t h]at eW
   have w:=x5u x next i at_ S hSl (by omega) hSb
   rw[← show W.1=U2 (fun k=>(x.sector k).1) S at_ at_.length by rw[eW],show (0:Int)=W.2 by rw[eW]]at w
   refine z7 hT ?_
   refine Q0 (Q4 w _ rfl rfl) ?_
   refine u0 ?_
   exact x7 [0,1,2] ⟨(W,F),eZ.symm,rfl,rfl⟩ rfl
  have h:(i==0)=false:=h
  rw[beq_eq_false_iff_ne]at h
  rw[k1s h]at eW
  refine z7 hT ?_
  refine y6 (u7 (fun h2=>?_) (fun h2=>?_))
  ·have h2:=k0z (show decide (i≤x.g.w)=true from h2)
   rw[k1t h2]at eW
   have w:=w4z x next i at_ S (i - 1) hst (by omega) (by omega) (by omega) hSl (by omega) hSb
   rw[← e1,e1,show z3b x next (i - 1) at_ S=W from eW.symm,← e1]at w
   refine z7 hT ?_
   refine Q0 (Q4 w _ rfl rfl) ?_
   refine u0 ?_
   exact x7 [0,1,2] ⟨(W,F),eZ.symm,rfl,rfl⟩ rfl
  ·have h2:=k0y (show decide (i≤x.g.w)=false from h2)
   exact x6 ⟨z6 [0,1,2] [3,5,11] rfl,h,h2⟩
 rintro⟨h,h2⟩
 rw[k1s h,k1s h2]at eW
 have e2:IntKind.i64.wrap (IntKind.i64.wrap (i - 1) - x.g.w)=i - 1 - x.g.w:=by rw[e1,Q1 _ (by omega) (by omega)]
 have w:=x5w x next i at_ S (i - 1 - x.g.w) (by omega) (by omega) (by omega) hk4 hm3 hSl (by omega) hSb
 rw[show q4g x (i - 1 - x.g.w) at_ S=W from eW.symm,← e2]at w
 refine z7 hT ?_
 refine Q0 (Q4 w _ rfl rfl) ?_
 refine u0 ?_
 exact x7 [0,1,2] ⟨(W,F),eZ.symm,rfl,rfl⟩ rfl
theorem v1p (x:Sup)(next slot:Int)(at_:List Int)(S:List x8):(z3b x next slot at_ S).1.length≤at_.length:=by
 unfold z3b
 split
 ·exact q4y _ _ _ _
 ·split
  ·exact Nat.zero_le _
  ·exact q4y _ _ _ _
theorem w0v (x:Sup)(n:Int)(at_:List Int)(S:List x8):(q4g x n at_ S).1.length≤at_.length:=by
 unfold q4g
 split
 ·exact q4y _ _ _ _
 ·split
  ·exact Nat.zero_le _
  ·exact q4y _ _ _ _
theorem v1q (x:Sup)(next i:Int)(at_:List Int)(S:List x8):(q4z x next i at_ S).1.length≤at_.length:=by
 unfold q4z
 split
 ·exact q4y _ _ _ _
 ·split
  ·exact v1p _ _ _ _ _
  ·exact w0v _ _ _ _
theorem y9e (D:Dev)(x:Sup)(next i:Int):(D.want x next i).1.1.length≤24:=by
 unfold Dev.want
 split
 ·exact Nat.zero_le _
 ·rename_i h
  obtain⟨_,hg,_⟩:=v7w (D:=D) (x:=x) (next:=next) (i:=i) (by simpa using h)
  exact Nat.le_trans (v1q _ _ _ _ _) (z6a hg i)
theorem w7q {D:Dev}{n:Nat}(h:D.Ok n)(x:Sup)(next i:Int):(D.want x next i).2.Ok n:=by
 unfold Dev.want
 split
 ·exact h
 ·exact z5z h _ _
def Dev.step (D:Dev)(x:Sup)(next i:Int):(Int × Int) × Dev:=match (D.want x next i).1.2 != 0 with
 |true=>((0,(D.want x next i).1.2),(D.want x next i).2)
 |false=>match ((D.want x next i).2.all9 (D.want x next i).1.1).1 != 0 with
  |true=>((0,((D.want x next i).2.all9 (D.want x next i).1.1).1),((D.want x next i).2.all9 (D.want x next i).1.1).2)
  |false=>(((D.want x next i).1.1.length,0),((D.want x next i).2.all9 (D.want x next i).1.1).2)
theorem z8e (D:Dev)(x:Sup)(next i:Int)(hk4:x.g.k≤4)(hm3:x.g.m≤3)(n:Nat)(hD:D.Ok n)(hn:n+1000<1000000) :
 AFm k0q 1 q7r [.ref 0 0,x.av,i64 next,i64 i] (Y1 D) (Q8 (.tup [i64 (D.step x next i).1.1,i64 (D.step x next i).1.2]) (Y1 (D.step x next i).2)):=by
 refine AFm.mono (R:=fun r H'=>∃ z,z=D.step x next i∧r=.tup [i64 z.1.1,i64 z.1.2]∧H'=Y1 z.2) ?_ (by rintro r H' ⟨z,rfl,rfl,rfl⟩;exact⟨rfl,rfl⟩)
 have wW:=y9d D x next i hk4 hm3 n hD (by omega)
 have hlen:=y9e D x next i
 have hok:=w7q hD x next i
 have eZ:D.step x next i=match (D.want x next i).1.2 != 0 with
  |true=>((0,(D.want x next i).1.2),(D.want x next i).2)
  |false=>match ((D.want x next i).2.all9 (D.want x next i).1.1).1 != 0 with
   |true=>((0,((D.want x next i).2.all9 (D.want x next i).1.1).1),((D.want x next i).2.all9 (D.want x next i).1.1).2)
   |false=>(((D.want x next i).1.1.length,0),((D.want x next i).2.all9 (D.want x next i).1.1).2):=rfl
 generalize D.step x next i=Z at eZ ⊢
 generalize D.want x next i=W at wW hlen hok eZ
 obtain⟨⟨l,e⟩,E⟩:=W
 have hlen:l.length≤24:=hlen
 have wA:=y0m E l n hok (by omega)
 have hpl:=z8c l
 generalize hA:E.all9 l=A at wA
 have eZ:Z=match (generalizing:=false) e != 0 with
  |true=>((0,e),E)
  |false=>match (generalizing:=false) A.1 != 0 with
   |true=>((0,A.1),A.2)
   |false=>((l.length,0),A.2):=by rw[eZ,← hA]
 clear hA
 obtain⟨e2,G⟩:=A
 refine Z5 1 hT Tryz.func15 rfl rfl Tryz.ntmps15 rfl rfl ?_
 refine z7 hT ?_
 refine Z2 (Z3 3 x.pv rfl rfl) ?_
 refine w9 ⟨⟨32,[(0,.ref 0 0),(10,.p (.sl 2 (px l))),(11,i64 e)]⟩,Y1 E⟩ True (z8 hT ?_) (fun _=>?_)
 ·refine Q0 (Z7 [0,1,2] wW rfl rfl rfl) ?_
  exact⟨z6 [0,4,5] [0,10,11] rfl,trivial⟩
 refine w9 ⟨⟨32,[(0,.ref 0 0),(10,.p (.sl 2 (px l)))]⟩,Y1 E⟩ ((e != 0)=false) (z7 hT ?_) (fun he=>?_)
 ·refine y6 (u7 (fun h=>?_) (fun h=>?_))
  ·have h:(e != 0)=true:=h
   rw[h]at eZ
   refine z7 hT ?_
   refine u0 ?_
   exact x7 [0,1,2] ⟨((0,e),E),eZ.symm,rfl,rfl⟩ rfl
  ·exact x6 ⟨z6 [0,1,2] [0,10] rfl,h⟩
 rw[he]at eZ
 refine w9 ⟨⟨32,[(10,.p (.sl 2 (px l)))]⟩,Y1 G⟩ ((e2 != 0)=false) (z7 hT ?_) (fun he2=>?_)
 ·refine Q0 (Z7 [0,1,2] wA rfl rfl rfl) ?_
  refine z7 hT ?_
  refine y6 (u7 (fun h=>?_) (fun h=>?_))
  ·have h:(e2 != 0)=true:=h
   have eZ:Z=((0,e2),G):=by rw[eZ];show (match e2 != 0 with|true=>((0,e2),G)|false=>(((l.length:Int),0),G))=_;rw[h]
   refine z7 hT ?_
   refine u0 ?_
   exact x7 [0,3,4] ⟨((0,e2),G),eZ.symm,rfl,rfl⟩ rfl
  ·exact x6 ⟨z6 [0,3,4] [10] rfl,h⟩
 have eZ:Z=(((((px l).length:Nat):Int),0),G):=by rw[eZ,hpl];show (match e2 != 0 with|true=>((0,e2),G)|false=>(((l.length:Int),0),G))=_;rw[he2]
 refine z7 hT ?_
 refine u0 ?_
 exact x7 [0,1,2] ⟨_,eZ.symm,rfl,rfl⟩ rfl
def u0y:Go.Shelf.Ren:=⟨fun|189=>54|125=>102|257=>101|128=>156|129=>157|294=>147|295=>148|296=>149|297=>150|298=>151|299=>152|216=>153|300=>154|301=>155|328=>189|329=>190|330=>191|331=>192|332=>193|215=>194|343=>220|n=>n,fun|28=>35|3=>3|46=>150|0=>0|51=>195|53=>197|4=>4|183=>188|182=>187|131=>139|5=>5|9=>9|218=>222|222=>158|228=>251|229=>247|n=>n,fun|n=>n⟩
theorem w0w:Go.Proofs.Lays.n189 k0q u0y:={
 mixed:=by kernel_rfl
 f125:=Tryz.func102.trans (congrArg some (by kernel_rfl))
 f128:=Tryz.func156.trans (congrArg some (by kernel_rfl))
 f129:=Tryz.func157.trans (congrArg some (by kernel_rfl))
 f189:=Tryz.func54.trans (congrArg some (by kernel_rfl))
 f215:=Tryz.func194.trans (congrArg some (by kernel_rfl))
 f216:=Tryz.func153.trans (congrArg some (by kernel_rfl))
 f257:=Tryz.func101.trans (congrArg some (by kernel_rfl))
 f294:=Tryz.func147.trans (congrArg some (by kernel_rfl))
 f295:=Tryz.func148.trans (congrArg some (by kernel_rfl))
 f296:=Tryz.func149.trans (congrArg some (by kernel_rfl))
 f297:=Tryz.func150.trans (congrArg some (by kernel_rfl))
 f298:=Tryz.func151.trans (congrArg some (by kernel_rfl))
 f299:=Tryz.func152.trans (congrArg some (by kernel_rfl))
 f300:=Tryz.func154.trans (congrArg some (by kernel_rfl))
 f301:=Tryz.func155.trans (congrArg some (by kernel_rfl))
 f328:=Tryz.func189.trans (congrArg some (by kernel_rfl))
 f329:=Tryz.func190.trans (congrArg some (by kernel_rfl))
 f330:=Tryz.func191.trans (congrArg some (by kernel_rfl))
 f331:=Tryz.func192.trans (congrArg some (by kernel_rfl))
 f332:=Tryz.func193.trans (congrArg some (by kernel_rfl))
 f343:=Tryz.func220.trans (congrArg some (by kernel_rfl))
 t0:=Tryz.underlying0
 a0:=Tryz.isAgg0
 z0:=Tryz.sizeOf0
 v0:=Tryz.zeroValue0
 t3:=Tryz.underlying3
 a3:=Tryz.isAgg3
 z3:=Tryz.sizeOf3
 v3:=Tryz.zeroValue3
 t4:=Tryz.underlying4
 a4:=Tryz.isAgg4
 z4:=Tryz.sizeOf4
 v4:=Tryz.zeroValue4
 t5:=Tryz.underlying5
 a5:=Tryz.isAgg5
 z5:=Tryz.sizeOf5
 v5:=Tryz.zeroValue5
 t9:=Tryz.underlying9
 a9:=Tryz.isAgg9
 z9:=Tryz.sizeOf9
 v9:=Tryz.zeroValue9
 t28:=Tryz.underlying35
 a28:=Tryz.isAgg35
 z28:=Tryz.sizeOf35
 v28:=Tryz.zeroValue35
 t46:=Tryz.underlying150
 a46:=Tryz.isAgg150
 z46:=Tryz.sizeOf150
 v46:=Tryz.zeroValue150
 t51:=Tryz.underlying195
 a51:=Tryz.isAgg195
 z51:=Tryz.sizeOf195
 v51:=Tryz.zeroValue195
 t53:=Tryz.underlying197
 a53:=Tryz.isAgg197
 z53:=Tryz.sizeOf197
 v53:=Tryz.zeroValue197
 t131:=Tryz.underlying139
 a131:=Tryz.isAgg139
 z131:=Tryz.sizeOf139
 v131:=Tryz.zeroValue139
 t182:=Tryz.underlying187
 a182:=Tryz.isAgg187
 z182:=Tryz.sizeOf187
 v182:=Tryz.zeroValue187
 t183:=Tryz.underlying188
 a183:=Tryz.isAgg188
 z183:=Tryz.sizeOf188
 v183:=Tryz.zeroValue188
 t218:=Tryz.underlying222
 a218:=Tryz.isAgg222
 z218:=Tryz.sizeOf222
 v218:=Tryz.zeroValue222
 t222:=Tryz.underlying158
 a222:=Tryz.isAgg158
 z222:=Tryz.sizeOf158
 v222:=Tryz.zeroValue158
 t228:=Tryz.underlying251
 a228:=Tryz.isAgg251
 z228:=Tryz.sizeOf251
 v228:=Tryz.zeroValue251
 t229:=Tryz.underlying247
 a229:=Tryz.isAgg247
 z229:=Tryz.sizeOf247
 v229:=Tryz.zeroValue247 }
theorem v1r (blk off cap:Nat)(zs:List Int)(w:World)(hH:Go.Sort.Holds (Value.int .i64) w blk off zs.toArray)(hblk:blk<w.heap.size)(hsz:zs.length<4611686018427387904) :
 Calls k0q q2w #[.slice (some ⟨blk,off,none⟩) zs.length cap] w fun e w'=>
  e=.returned (.tuple #[])∧∃ n os,w'=Go.Sort.grow (Go.Sort.putRow (Value.int .i64) (Go.Sort.ahead w n) blk off (zs.mergeSort fun x y=>decide (x≤y)).toArray) os:=Any.slices_Sort_int w0w blk off cap zs w hH hblk hsz
theorem v1s (p:Option Addr)(cap:Nat)(w:World) :
 Calls k0q q2w #[.slice p 0 cap] w fun e w'=>e=.returned (.tuple #[])∧w'=w:=Any.slices_Sort_int_none w0w p cap w
def q2z (l:List Int):List Int:=l.mergeSort fun x y=>decide (x≤y)
theorem z1d (l:List Int):(q2z l).length=l.length:=List.length_mergeSort l
theorem w5b (l:List Int):(q2z l).Perm l:=List.mergeSort_perm l _
theorem SimH.grown {w:World}{I:Nat→Prop}{ι:Nat→Option Nat}{H:List ABlk}(hs:SimH w I ι H)(os:Array Obj) :
 SimH (Go.Sort.grow w os) I ι H∧Ex H.length w I ι H (Go.Sort.grow w os) I ι H:=by
 have old:∀ B,B<w.heap.size→(Go.Sort.grow w os).heap[B]?=w.heap[B]?:=fun B hB=>Go.Sort.heap_grow_old w os hB
 have lt:∀ {B:Nat} {o:Obj},w.heap[B]?=some o→B<w.heap.size:=fun h=>(Array.getElem?_eq_some_iff.1 h).1
 have hI:∀ B,I B→(Go.Sort.grow w os).heap[B]?=w.heap[B]?:=fun B hB=>old B (hs.Ilt B hB)
 have hsh:Shape w (Go.Sort.grow w os):=fun B cs t fr h=>⟨cs,by rw[old B (lt h)];exact h,rfl⟩
 have hsz:w.heap.size≤(Go.Sort.grow w os).heap.size:=by rw[Go.Sort.size_grow];omega
 refine⟨⟨?_,hs.inj,fun B hB=>Nat.lt_of_lt_of_le (hs.Ilt B hB) hsz,hs.dom,fun b B hb=>Nat.lt_of_lt_of_le (hs.rng b B hb) hsz⟩,⟨rfl,rfl,rfl,hsz,hsh,fun _ h=>h,fun B hB _=>old B hB,fun B hB=>.inl hB,fun b B hb h=>.inr ⟨b,hb,h⟩⟩,fun _ _=>rfl,k1v _⟩
 intro c kc hc
 have h2:=hs.blk c kc hc
 cases kc with
 |dead=>trivial
 |cells t l=>
  obtain⟨C,ds,g1,g2,g3,g4,g5⟩:=h2
  exact⟨C,ds,g1,by rw[old C (lt g2)];exact g2,g3,g4,fun i u hu=>(g5 i u hu).move hI (fun _ h=>h) (fun _ _ h=>h) hsh⟩
 |lp q st pe l=>
  obtain⟨C,ds,g1,g2,g3,g4,g5⟩:=h2
  exact⟨C,ds,g1,by rw[old C (lt g2)];exact g2,g3,g4,fun i u hu=>(g5 i u hu).move hI (fun _ h=>h) (fun _ _ h=>h) hsh⟩
 |row t sz xs=>
  rcases h2 with g0|⟨C,ds,g1,g2,g3,g4,g5,g6⟩
  ·exact .inl g0
  ·exact .inr ⟨C,ds,g1,by rw[old C (lt g2)];exact g2,g3,g4,g5,fun j e hj=>⟨(g6 j e hj).1,fun i u hu=>((g6 j e hj).2 i u hu).move hI (fun _ h=>h)⟩⟩
 |obj o=>
  obtain⟨g0,C,g1,g2,g3⟩:=h2
  exact⟨g0,C,g1,by rw[old C (lt g2)];exact g2,g3⟩
theorem w0x (t:TypeId)(l:List Int)(hl:l.length<1000000) :
 AF k0q q2w [.msl 0 1 0 l.length] [.row t 1 (Y3 l)] (Q8 (.tup []) [.row t 1 (Y3 (q2z l))]):=by
 refine⟨⟨_,Tryz.func54,rfl,rfl⟩,fun w I ι vals hn ha hs=>?_⟩
 obtain⟨v,rfl⟩:∃ v,vals = #[v]:=by
  rcases vals with ⟨_|⟨v,_|⟨_,_⟩⟩⟩
  ·simp at hn
  ·exact⟨v,rfl⟩
  ·simp at hn
 have hv:ARep w I ι (.msl 0 1 0 l.length) v:=ha 0 _ rfl
 rcases l with _|⟨a,l⟩
 ·rw[show q2z []=[] from by simp[q2z]]
  have:∃ p c,v=.slice p 0 c:=by
   cases hv with
   |msl b sz off len B c h hc hs=>exact⟨_,_,rfl⟩
   |msl0 b sz off A=>exact⟨_,_,rfl⟩
  obtain⟨p,c,rfl⟩:=this
  refine(v1s p c w).mono ?_
  rintro e w' ⟨rfl,rfl⟩
  exact⟨_,_,_,I,ι,rfl,⟨rfl,rfl⟩,.tup [] #[] rfl (fun i u h=>by simp at h),hs,Ex.refl (k1v _)⟩
 generalize hz:a :: l=z at hl hv hs ⊢
 have hz0:z≠[]:=by rw[← hz];simp
 have hzl:0<z.length:=List.length_pos_iff.2 hz0
 obtain⟨c,B,cs,h1,h2,h3,h4,h5,h6,rfl⟩:∃ c B cs,ι 0=some B∧w.heap[B]?=some (.cells cs t (0,0))∧¬ I B∧(Y3 z).length*1≤cs.size∧(Y3 z).length≤140737488355328 ∧
  (∀ j e,(Y3 z)[j]?=some e→e.length=1∧∀ i u,e[i]?=some u→PRep w I u (cs.getD (j*1+i) undef))∧v=.slice (some ⟨B,0,none⟩) z.length c:=by
  rcases hs.blk 0 _ rfl with ⟨g,_⟩|⟨B,cs,g1,g2,g3,g4,g5,g6⟩
  ·exact absurd (by simpa [Y3] using g) hz0
  ·generalize hm:z.length=m at hv hzl
   cases hv with
   |msl b sz off len B' c h hc hs=>
    rw[g1]at h;obtain rfl:=k0x h
    exact⟨c,B,cs,g1,g2,g3,g4,g5,g6,rfl⟩
   |msl0 b sz off A=>omega
 have hil:(Y3 z).length=z.length:=W8 z
 rw[hil,Nat.mul_one]at h4
 have hB:B<w.heap.size:=(Array.getElem?_eq_some_iff.1 h2).1
 have hc:∀ j,(hj:j<z.length)→cs[j]?=some (.int .i64 z[j]):=fun j hj=>by
  have hx:(Y3 z)[j]?=some [.raw (.int .i64 z[j])]:=q0k (k0w hj)
  have:=(h6 j _ hx).2 0 _ rfl
  rw[Nat.mul_one,Nat.add_zero,k2q]at this
  have hjs:j<cs.size:=by omega
  rw[Array.getElem?_eq_getElem hjs]at this ⊢
  generalize cs[j]=v at this ⊢
  cases this
  rfl
 have hH:Go.Sort.Holds (Value.int .i64) w B 0 z.toArray:=fun j hj=>by
  have hj:j<z.length:=by simpa using hj
  refine⟨?_,?_⟩
  ·unfold World.cell?
   simp only[h2,Nat.zero_add]
   rw[hc j hj]
   simp[hj]
  ·unfold World.frozen?
   simp only[h2]
   simp
 refine(v1r B 0 c z w hH hB (by omega)).mono ?_
 rintro e w' ⟨rfl,n,os,rfl⟩
 have hsl:(q2z z).length=z.length:=z1d z
 show ∃ v r H' I' ι',_∧_∧ARep (Go.Sort.grow (Go.Sort.putRow (Value.int .i64) (Go.Sort.ahead w n) B 0 (q2z z).toArray) os) I' ι' r v∧SimH (Go.Sort.grow (Go.Sort.putRow (Value.int .i64) (Go.Sort.ahead w n) B 0 (q2z z).toArray) os) I' ι' H'∧Ex _ w I ι _ (Go.Sort.grow (Go.Sort.putRow (Value.int .i64) (Go.Sort.ahead w n) B 0 (q2z z).toArray) os) I' ι' H'
 generalize hs1:q2z z=y at hsl
 have hwr:Wrote w (Go.Sort.putRow (Value.int .i64) (Go.Sort.ahead w n) B 0 y.toArray) B:=by
  refine⟨rfl,rfl,rfl,by simp[Go.Sort.putRow,Go.Sort.mapBlock,Go.Sort.ahead],fun k hk=>?_⟩
  simp only[Go.Sort.putRow,Go.Sort.mapBlock,Go.Sort.ahead,Array.getElem?_modify]
  rw[if_neg (Ne.symm hk)]
 have hnew:(Go.Sort.putRow (Value.int .i64) (Go.Sort.ahead w n) B 0 y.toArray).heap[B]?=some (.cells (Go.Sort.putCells (Value.int .i64) 0 y.toArray cs) t (0,0)):=by
  simp only[Go.Sort.putRow,Go.Sort.mapBlock,Go.Sort.ahead,Array.getElem?_modify,if_true,h2]
  rfl
 have hsz:(Go.Sort.putCells (Value.int .i64) 0 y.toArray cs).size=cs.size:=by simp[Go.Sort.putCells]
 obtain⟨k1,k2⟩:=hwr.sim hs ⟨_,rfl,rfl⟩ h1 h2 hnew hsz (.row t 1 (Y3 y)) (.inr ⟨B,_,h1,hnew,h3,by rw[hsz,W8,hsl,Nat.mul_one];exact h4,by rw[W8,hsl];omega,fun j e hj=>by
  have hjl:j<y.length:=by have:=(k0t.1 hj).1;rw[W8]at this;exact this
  have hx:(Y3 y)[j]?=some [.raw (.int .i64 y[j])]:=q0k (k0w hjl)
  rw[hx]at hj;obtain rfl:=k0x hj
  refine⟨rfl,fun i u hu=>?_⟩
  have hi:i=0:=by have:=(k0t.1 hu).1;simp at this;exact this
  subst hi
  obtain rfl:=k0x (show some (PV.raw (.int .i64 y[j]))=some u from hu)
  have:(Go.Sort.putCells (Value.int .i64) 0 y.toArray cs).getD (j*1+0) undef=.int .i64 y[j]:=by
   rw[Nat.mul_one,Nat.add_zero,k2q]
   have hjs:j<cs.size:=by omega
   rw[Array.getElem?_eq_getElem (by rw[hsz];exact hjs)]
   simp only[Go.Sort.putCells,Array.getElem_mapIdx,Nat.zero_le,true_and,Nat.zero_add,List.size_toArray,hjl,if_true,Nat.sub_zero,Option.getD_some]
   simp[hjl]
  rw[this]
  exact .raw _ rfl⟩)
 obtain⟨k3,k4⟩:=k1.grown os
 exact⟨_,_,_,I,ι,rfl,⟨rfl,rfl⟩,.tup [] #[] rfl (fun i u h=>by simp at h),k3,k2.trans k4⟩
theorem w0y (l r:List Int):Y3 (l++r)=Y3 l++Y3 r:=List.map_append
def Dev.hurtG (D:Dev)(x:Sup)(next:Int):Nat→List Int × Dev
 |0=>([],D)
 |k+1=>((D.hurtG x next k).1++(cond (((D.hurtG x next k).2.want x next k).1.2 != 0) (q1x x.g k) []++((D.hurtG x next k).2.want x next k).1.1.map (·.at_)),((D.hurtG x next k).2.want x next k).2)
def Dev.hurts (D:Dev)(x:Sup)(next:Int):(List Int × Int) × Dev:=match z0e D x next 0 != 0 with
 |true=>(([],z0e D x next 0),D)
 |false=>((q2z (D.hurtG x next x.g.groups.toNat).1,0),(D.hurtG x next x.g.groups.toNat).2)
theorem w0z {D:Dev}{n:Nat}(h:D.Ok n)(x:Sup)(next:Int):∀ k,(D.hurtG x next k).2.Ok n
 |0=>h
 |k+1=>w7q (w0z h x next k) x next k
theorem x2t (D:Dev)(x:Sup)(next:Int)(hg:x.g.may=true):∀ k,(D.hurtG x next k).1.length≤48*k
 |0=>k1v _
 |k+1=>by
  have h:=x2t D x next hg k
  have h1:=z6a hg (k:Int)
  have h2:=y9e (D.hurtG x next k).2 x next k
  have h3:(cond (((D.hurtG x next k).2.want x next k).1.2 != 0) (q1x x.g k) []).length≤24:=by
   cases ((D.hurtG x next k).2.want x next k).1.2 != 0 with
   |true=>exact h1
   |false=>exact Nat.zero_le _
  show ((D.hurtG x next k).1++(cond _ _ _++_)).length≤_
  rw[k1y,k1y,k1x]
  omega
theorem q8t (D:Dev)(x:Sup)(next:Int)(hk4:x.g.k≤4)(hm3:x.g.m≤3)(n:Nat)(hD:D.Ok n)(hn:n≤1000000) :
 AFm k0q 1 q3p [.ref 0 0,x.av,i64 next] (Y1 D) (Q8 (.tup [.p (.sl 1 (Y3 (D.hurts x next).1.1)),i64 (D.hurts x next).1.2]) (Y1 (D.hurts x next).2)):=by
 refine AFm.mono (R:=fun r H'=>∃ z,z=D.hurts x next∧r=.tup [.p (.sl 1 (Y3 z.1.1)),i64 z.1.2]∧H'=Y1 z.2) ?_ (by rintro r H' ⟨z,rfl,rfl,rfl⟩;exact⟨rfl,rfl⟩)
 have wm:=x2s D x next 0
 have hm0:=v7w (D:=D) (x:=x) (next:=next) (i:=0)
 have eZ:D.hurts x next=match z0e D x next 0 != 0 with
  |true=>(([],z0e D x next 0),D)
  |false=>((q2z (D.hurtG x next x.g.groups.toNat).1,0),(D.hurtG x next x.g.groups.toNat).2):=rfl
 generalize D.hurts x next=Z at eZ ⊢
 generalize z0e D x next 0=me at wm hm0 eZ
 refine Z5 1 hT Tryz.func24 rfl rfl Tryz.ntmps24 rfl rfl ?_
 refine z7 hT ?_
 refine Z2 (Z3 3 x.pv rfl rfl) ?_
 refine w9 ⟨⟨60,[(0,.ref 0 0),(2,i64 next),(4,.p (.box x.pv))]⟩,Y1 D⟩ ((me != 0)=false) (z7 hT ?_) (fun hme=>?_)
 ·refine Q0 (Z7 [0,1,2] wm rfl rfl rfl) ?_
  refine z7 hT ?_
  refine y6 (u7 (fun h=>?_) (fun h=>?_))
  ·have h:(me != 0)=true:=h
   rw[h]at eZ
   refine z7 hT ?_
   refine Z2 (J8 6 1 rfl) ?_
   refine u0 ?_
   exact x7 [0,1,2] ⟨(([],me),D),eZ.symm,rfl,rfl⟩ rfl
  ·exact x6 ⟨z6 [0,1,2] [0,2,4] rfl,h⟩
 rw[hme]at eZ
 obtain⟨hst,hg,_,_⟩:=hm0 (by simpa using hme)
 clear hm0 wm
 obtain⟨g1,g2,g3,g4,g5,g6,g7,g8⟩:=V4 (V2 hg)
 have hgr:x.g.groups=1+x.g.w+2*x.g.s:=by unfold GeoV.groups;rw[hg]
 have wG:=z2i x.g
 have hro:=w0z hD x next
 have hrl:=x2t D x next hg
 have hrs:∀ k,D.hurtG x next (k+1)=((D.hurtG x next k).1++(cond (((D.hurtG x next k).2.want x next k).1.2 != 0) (q1x x.g k) []++((D.hurtG x next k).2.want x next k).1.1.map (·.at_)),((D.hurtG x next k).2.want x next k).2):=fun k=>rfl
 have hr0:D.hurtG x next 0=([],D):=rfl
 generalize D.hurtG x next=rd at eZ hrs hro hrl hr0
 generalize hG:x.g.groups.toNat=G at eZ
 have hG2:x.g.groups=G:=by omega
 have hG3:G≤577:=by omega
 rw[hG2]at wG
 refine w9 ⟨⟨60,[(0,.ref 0 0),(2,i64 next),(4,.p (.box x.pv)),(9,.msl 3 1 0 (Y3 []).length)]⟩,Y1 D++[.row W5 1 (Y3 [])]⟩ True (z8 hT ?_) (fun _=>?_)
 ·exact⟨Wk.trans (W9 W5 1) (Wk.trans (q5f 9 3 1 0 rfl) (z6 [0,1,2,3] [0,2,4,9] rfl)),trivial⟩
 refine Q3 (fun st=>∃ X F,X=(rd G).1∧F=(rd G).2∧st=⟨⟨60,[(9,.msl 3 1 0 (Y3 X).length)]⟩,Y1 F++[.row W5 1 (Y3 X)]⟩) (z7 hT ?_) ?_
 ·refine Q0 (Q4 wG _ rfl rfl) ?_
  refine y8 ?_
  refine Q2 (fun c st=>∃ (k:Nat) (jk:Int) (X:List Int) (F:Dev),c+k=G∧jk=k∧X=(rd k).1∧F=(rd k).2∧st=⟨⟨60,[(0,.ref 0 0),(2,i64 next),(4,.p (.box x.pv)),(9,.msl 3 1 0 (Y3 X).length),(24,i64 G),(25,i64 jk)]⟩,Y1 F++[.row W5 1 (Y3 X)]⟩) G ⟨⟨60,_⟩,[_,_,_,_]⟩ (z6 [0,1,2,3] [0,2,4,9,24,25] rfl) ⟨0,0,[],D,by omega,rfl,by rw[hr0],by rw[hr0],rfl⟩ ?_
  rintro c st ⟨k,jk,X,F,hck,hjk,hX,hF,rfl⟩
  refine z7 hT ?_
  refine u5 (y6 (u7 (fun h=>?_) (fun h=>?_)))
  ·have h:=k0z (show decide (jk<((G:Nat):Int))=true from h)
   have hk:k<G:=by omega
   refine x6 ?_
   have hrk:=hrs k
   have wM:=y0q x.g jk hg (by omega) (by omega)
   have hml:=z6a hg jk
   have hFo:=hro k
   have hXl:=hrl k
   rw[← hX]at hrk hXl
   rw[← hF,← hjk]at hrk
   rw[← hF]at hFo
   have wW:=y9d F x next jk hk4 hm3 n hFo hn
   have hwl:=y9e F x next jk
   generalize F.want x next jk=W at wW hwl hrk
   obtain⟨⟨l,e⟩,E⟩:=W
   have wW:AFm k0q 1 z9b [.ref 0 0,x.av,i64 next,i64 jk] (Y1 F) (Q8 (.tup [.p (.sl 2 (px l)),i64 e]) (Y1 E)):=wW
   have hwl:l.length≤24:=hwl
   have hrk:rd (k+1)=(X++(cond (e != 0) (q1x x.g jk) []++l.map (·.at_)),E):=hrk
   generalize q1x x.g jk=at_ at wM hml hrk
   refine Q3 (fun st=>∃ X' E',X'=(rd (k+1)).1∧E'=(rd (k+1)).2∧st=⟨⟨60,[(0,.ref 0 0),(2,i64 next),(4,.p (.box x.pv)),(9,.msl 3 1 0 (Y3 X').length),(24,i64 G),(25,i64 jk)]⟩,Y1 E'++[.row W5 1 (Y3 X')]⟩) (y8 (z7 hT ?_)) ?_
   ·refine w9 ⟨⟨60,[(0,.ref 0 0),(2,i64 next),(4,.p (.box x.pv)),(9,.msl 3 1 0 (Y3 X).length),(10,i64 jk),(11,.p (.sl 2 (px l))),(12,i64 e),(24,i64 G),(25,i64 jk)]⟩,Y1 E++[.row W5 1 (Y3 X)]⟩ True (z8 hT ?_) (fun _=>?_)
    ·refine Q0 (Z7 [0,1,2] wW rfl rfl rfl) ?_
     exact⟨z6 [0,4,5,3] [0,2,4,9,10,11,12,24,25] rfl,trivial⟩
    refine Q3 (fun st=>∃ Y,Y=X++cond (e != 0) at_ []∧st=⟨⟨60,[(0,.ref 0 0),(2,i64 next),(4,.p (.box x.pv)),(9,.msl 3 1 0 (Y3 Y).length),(11,.p (.sl 2 (px l))),(24,i64 G),(25,i64 jk)]⟩,Y1 E++[.row W5 1 (Y3 Y)]⟩) (z7 hT ?_) ?_
    ·refine y6 (u7 (fun h=>?_) (fun h=>?_))
     ·have h:(e != 0)=true:=h
      rw[h]
      refine z8 hT ?_
      refine Q0 (Q4 wM _ rfl rfl) ?_
      refine⟨rfl,⟨by show ((Y3 X).length+(Y3 at_).length)*8≤_;rw[W8,W8];omega,by show (Y3 X).length+(Y3 at_).length≤_;rw[W8,W8];omega⟩,?_⟩
      refine⟨_,z6 [0,1,2,4] [0,2,4,9,11,24,25] rfl,X++at_,rfl,?_⟩
      rw[w0y];rfl
     ·have h:(e != 0)=false:=h
      rw[h]
      exact x6 ⟨_,z6 [0,1,2,3] [0,2,4,9,11,24,25] rfl,X,(List.append_nil X).symm,rfl⟩
    rintro _ ⟨Y,hY,rfl⟩
    have hYl:Y.length≤48*k+24:=by
     rw[hY,k1y]
     cases e != 0 with
     |true=>exact Nat.add_le_add hXl hml
     |false=>exact Nat.le_trans (by simpa using hXl) (Nat.le_add_right _ _)
    have eE:rd (k+1)=(Y++l.map (·.at_),E):=by rw[hrk,hY,List.append_assoc]
    refine z7 hT ?_
    refine y8 ?_
    refine Q2 (fun c2 st=>∃ (k2:Nat) (j2:Int) (V:List Int),c2+k2=l.length∧j2=k2∧V=Y++(l.take k2).map (·.at_)∧st=⟨⟨60,[(0,.ref 0 0),(2,i64 next),(4,.p (.box x.pv)),(9,.msl 3 1 0 (Y3 V).length),(24,i64 G),(25,i64 jk),(44,.p (.sl 2 (px l))),(45,i64 (px l).length),(46,i64 j2)]⟩,Y1 E++[.row W5 1 (Y3 V)]⟩) l.length ⟨⟨60,_⟩,[_,_,_,_]⟩ (z6 [0,1,2,3] [0,2,4,9,24,25,44,45,46] rfl) ⟨0,0,Y,by omega,rfl,by simp,rfl⟩ ?_
    rintro c2 st ⟨k2,j2,V,hck2,hj2,hV,rfl⟩
    have hpl:=z8c l
    refine z7 hT ?_
    refine u5 (y6 (u7 (fun h=>?_) (fun h=>?_)))
    ·have h:=k0z (show decide (j2<(((px l).length:Nat):Int))=true from h)
     have hk2:k2<l.length:=by omega
     refine x6 ?_
     obtain⟨p,hp⟩:∃ p,l[k2]?=some p:=⟨_,k0w hk2⟩
     have hpp:(px l)[j2.toNat]?=some [.raw (.int .i64 p.at_),bP p.s]:=by rw[hj2,k0u];exact v7g hp
     have hVl:V.length≤48*k+48:=by rw[hV,k1y,k1x,k2u];omega
     have hVn:V++[p.at_]=Y++(l.take (k2+1)).map (·.at_):=by rw[hV,k2t,hp,List.map_append,List.append_assoc];rfl
     generalize p.at_=a at hpp hVn
     generalize p.s=u at hpp
     refine w9 ⟨⟨60,[(0,.ref 0 0),(2,i64 next),(4,.p (.box x.pv)),(9,.msl 3 1 0 (Y3 (V++[a])).length),(24,i64 G),(25,i64 jk),(44,.p (.sl 2 (px l))),(45,i64 (px l).length),(46,i64 j2)]⟩,Y1 E++[.row W5 1 (Y3 (V++[a]))]⟩ True (y8 (z7 hT ?_)) (fun _=>?_)
     ·refine⟨by omega,Z1 hpp ?_⟩
      refine z8 hT ?_
      refine⟨rfl,⟨by show ((Y3 V).length+1)*8≤_;rw[W8];omega,by show (Y3 V).length+1≤_;rw[W8];omega⟩,?_⟩
      rw[w0y]
      exact⟨z6 [0,1,2,6] [0,2,4,9,24,25,44,45,46] rfl,trivial⟩
     ·refine z8 hT ?_
      exact⟨c2 - 1,by omega,_,z6 [0,1,2,3] [0,2,4,9,24,25,44,45,46] rfl,k2+1,IntKind.i64.wrap (j2+1),V++[a],by omega,by rw[Q1 _ (by omega) (by omega)];omega,hVn,rfl⟩
    ·have h:=k0y (show decide (j2<(((px l).length:Nat):Int))=false from h)
     refine Q6 ?_
     exact⟨_,z6 [0,1,2,3] [0,2,4,9,24,25] rfl,V,E,by rw[eE,hV,show k2=l.length by omega,List.take_length],by rw[eE],rfl⟩
   ·rintro _ ⟨X',E',hX',hE',rfl⟩
    refine z8 hT ?_
    exact⟨c - 1,by omega,_,z6 [0,1,2,3] [0,2,4,9,24,25] rfl,k+1,IntKind.i64.wrap (jk+1),X',E',by omega,by rw[Q1 _ (by omega) (by omega)];omega,hX',hE',rfl⟩
  ·have h:=k0y (show decide (jk<((G:Nat):Int))=false from h)
   rw[show k=G by omega]at hX hF
   refine Q6 ?_
   exact⟨_,z6 [0,1,2,3] [9] rfl,X,F,hX,hF,rfl⟩
 rintro _ ⟨X,F,hX,hF,rfl⟩
 have hXl:=hrl G
 rw[← hX]at hXl
 have wS:AFm k0q 1 q2w [.msl 0 1 0 X.length] [.row W5 1 (Y3 X)] (Q8 (.tup []) [.row W5 1 (Y3 (q2z X))]):=w0x W5 X (by omega)
 rw[← W8 X]at wS
 have eZ:Z=((q2z X,0),F):=by rw[eZ,hX,hF]
 have hsl:(Y3 X).length=(Y3 (q2z X)).length:=by rw[W8,W8,z1d]
 generalize q2z X=Y at wS eZ hsl
 refine z7 hT ?_
 refine Q0 (Z7 [3] wS rfl rfl rfl) ?_
 refine Z2 (z9t 9 3 1 _ rfl hsl rfl rfl) ?_
 refine z7 hT ?_
 refine u0 ?_
 exact x7 [0,1,2] ⟨((Y,0),F),eZ.symm,rfl,rfl⟩ rfl
def GeoV.own (g:GeoV):List Int:=z8b g.w.toNat (g.k+g.m).toNat (2*g.s.toNat)
theorem u0z {g:GeoV}(hg:g.may=true):(g.own.length:Int)=4+2*g.w+2*g.s*(g.k+g.m)∧g.own.length≤4096:=by
 obtain⟨h1,h2,h3,h4,h5,h6,h7,h8⟩:=V4 (V2 hg)
 unfold GeoV.own
 rw[z0y]
 have e:((2*g.s.toNat*(g.k+g.m).toNat:Nat):Int)=2*g.s*(g.k+g.m):=by
  rw[Int.natCast_mul,Int.natCast_mul,Int.toNat_of_nonneg (by omega),Int.toNat_of_nonneg (by omega)];rfl
 unfold GeoV.may at hg
 rw[k1u,decide_eq_true_eq]at hg
 omega
theorem x0p (g:GeoV)(hg:g.may=true):AF k0q z3z [g.av] [] (Q8 (.p (.sl 1 (Y3 g.own))) []):=by
 obtain⟨h1,h2,h3,h4,h5,h6,h7,h8⟩:=V4 (V2 hg)
 have w:=x5q g hg g.w.toNat g.s.toNat (g.k+g.m).toNat (by omega) (by omega) (by omega)
 exact z3u (t:=W5) (sz:=1) w rfl
theorem z2n (g:GeoV):AF k0q y6g [g.av] [] (Q8 (i64 g.groups) []):=by
 have wm:=z5r g
 have eG:g.groups=match g.may with|true=>1+g.w+2*g.s|false=>0:=rfl
 refine AF.mono (R:=fun r H'=>∃ z,z=g.groups∧r=i64 z∧H'=[]) ?_ (by rintro r H' ⟨z,rfl,rfl,rfl⟩;exact⟨rfl,rfl⟩)
 refine Q7 hT Tryz.func10 rfl rfl Tryz.ntmps10 rfl ?_
 refine z7 hT ?_
 refine Z2 (Z3 0 g.pv rfl rfl) ?_
 refine z7 hT ?_
 refine Q0 (Q4 wm _ rfl rfl) ?_
 refine u5 (z7 hT ?_)
 refine y6 (u7 (fun h=>?_) (fun h=>?_))
 ·have h:(!g.may)=true:=h
  rw[Bool.not_eq_true']at h
  rw[h]at eG
  refine z7 hT ?_
  refine u0 ?_
  exact x7 [] ⟨0,eG.symm,rfl,rfl⟩ rfl
 ·have h:(!g.may)=false:=h
  rw[Bool.not_eq_false']at h
  rw[h]at eG
  obtain⟨h1,h2,h3,h4,_⟩:=V4 (V2 h)
  refine x6 ?_
  refine z7 hT ?_
  refine u0 ?_
  exact x7 [] ⟨IntKind.i64.wrap (IntKind.i64.wrap (1+g.w)+IntKind.i64.wrap (2*g.s)),by rw[eG,Q1 (1+g.w) (by omega) (by omega),Q1 (2*g.s) (by omega) (by omega),Q1 _ (by omega) (by omega)],rfl,rfl⟩ rfl
def GeoV.bears (g:GeoV)(i:Int):Int:=match decide (i<0)||decide (i≥g.groups) with
 |true=>0
 |false=>match decide (i=0) with
  |true=>3
  |false=>match decide (i≤g.w) with|true=>1|false=>g.m
theorem w1a (g:GeoV)(i:Int):AF k0q y9u [g.av,i64 i] [] (Q8 (i64 (g.bears i)) []):=by
 have wG:=z2n g
 have eB:g.bears i=match decide (i<0)||decide (i≥g.groups) with
  |true=>0
  |false=>match decide (i=0) with
   |true=>3
   |false=>match decide (i≤g.w) with|true=>1|false=>g.m:=rfl
 refine AF.mono (R:=fun r H'=>∃ z,z=g.bears i∧r=i64 z∧H'=[]) ?_ (by rintro r H' ⟨z,rfl,rfl,rfl⟩;exact⟨rfl,rfl⟩)
 generalize g.bears i=Z at eB
 generalize g.groups=G at wG eB
 refine Q7 hT Tryz.func12 rfl rfl Tryz.ntmps12 rfl ?_
 refine z7 hT ?_
 refine Z2 (Z3 0 g.pv rfl rfl) ?_
 refine z7 hT ?_
 refine Q0 (Q4 wG _ rfl rfl) ?_
 refine u5 (z7 hT ?_)
 refine u7 (fun h=>?_) (fun h=>?_)
 ·rw[show decide (i<0)=true from h]at eB
  refine y6 ?_
  refine z7 hT ?_
  refine u0 ?_
  exact x7 [] ⟨0,eB.symm,rfl,rfl⟩ rfl
 rw[show decide (i<0)=false from h,Bool.false_or]at eB
 refine y6 (u7 (fun h=>?_) (fun h=>?_))
 ·rw[show decide (i≥G)=true from h]at eB
  refine z7 hT ?_
  refine u0 ?_
  exact x7 [] ⟨0,eB.symm,rfl,rfl⟩ rfl
 rw[show decide (i≥G)=false from h]at eB
 refine x6 ?_
 refine u5 (z7 hT ?_)
 refine y6 (u7 (fun h=>?_) (fun h=>?_))
 ·have h:(i==0)=true:=h
  rw[beq_iff_eq]at h
  rw[k1t h]at eB
  refine z7 hT ?_
  refine u0 ?_
  exact x7 [] ⟨3,eB.symm,rfl,rfl⟩ rfl
 have h:(i==0)=false:=h
 rw[beq_eq_false_iff_ne]at h
 rw[k1s h]at eB
 refine x6 ?_
 refine u5 (z7 hT ?_)
 refine y6 (u7 (fun h=>?_) (fun h=>?_))
 ·rw[show decide (i≤g.w)=true from h]at eB
  refine z7 hT ?_
  refine u0 ?_
  exact x7 [] ⟨1,eB.symm,rfl,rfl⟩ rfl
 rw[show decide (i≤g.w)=false from h]at eB
 refine x6 ?_
 refine z7 hT ?_
 refine u0 ?_
 exact x7 [] ⟨g.m,eB.symm,rfl,rfl⟩ rfl
def y4j (l:List Int)(v:Int):Nat→Int
 |0=>0
 |k+1=>match decide (l.getD k 0=v) with
  |true=>y4j l v k+1
  |false=>y4j l v k
theorem w7r (l:List Int)(v:Int):∀ k:Nat,0≤y4j l v k∧y4j l v k≤k
 |0=>⟨Int.le_refl _,Int.le_refl _⟩
 |k+1=>by
  have:=w7r l v k
  unfold y4j
  split <;> omega
def J2 (g:GeoV)(a:Int):Int × Int × Int:=match decide (a<0)||decide (a≥(g.own.length:Int)) with
 |true=>(0,0,3)
 |false=>(g.own.getD a.toNat 0,y4j g.own (g.own.getD a.toNat 0) a.toNat,0)
theorem w1b (g:GeoV)(a:Int)(hg:g.may=true):AF k0q z6t [g.av,i64 a] [] (Q8 (.tup [i64 (J2 g a).1,i64 (J2 g a).2.1,i64 (J2 g a).2.2]) []):=by
 have wO:=x0p g hg
 obtain⟨hl1,hlen⟩:=u0z hg
 have hl4:4≤g.own.length:=by unfold GeoV.own;rw[z0y];omega
 have eW:J2 g a=match decide (a<0)||decide (a≥(g.own.length:Int)) with
  |true=>(0,0,3)
  |false=>(g.own.getD a.toNat 0,y4j g.own (g.own.getD a.toNat 0) a.toNat,0):=rfl
 refine AF.mono (R:=fun r H'=>∃ z,z=J2 g a∧r=.tup [i64 z.1,i64 z.2.1,i64 z.2.2]∧H'=[]) ?_ (by rintro r H' ⟨z,rfl,rfl,rfl⟩;exact⟨rfl,rfl⟩)
 generalize J2 g a=Z at eW
 clear hl1
 generalize g.own=L at wO hlen hl4 eW
 have hil:=W8 L
 refine Q7 hT Tryz.func55 rfl rfl Tryz.ntmps55 rfl ?_
 refine z7 hT ?_
 refine Z2 (Z3 0 g.pv rfl rfl) ?_
 refine z7 hT ?_
 refine Q0 (Q4 wO _ rfl rfl) ?_
 refine u5 (z7 hT ?_)
 refine y6 (u7 (fun h=>?_) (fun h=>?_))
 ·have h:((((Y3 L).length:Nat):Int)==0)=true:=h
  rw[beq_iff_eq]at h
  omega
 refine x6 ?_
 refine w9 ⟨⟨44,[(1,i64 a),(7,.p (.sl 1 (Y3 L)))]⟩,[]⟩ (0≤a∧a<L.length) (z7 hT ?_) ?_
 ·refine u7 (fun h=>?_) (fun h=>?_)
  ·rw[show decide (a<0)=true from h,Bool.true_or]at eW
   refine y6 ?_
   refine z7 hT ?_
   refine u0 ?_
   exact x7 [] ⟨(0,0,3),eW.symm,rfl,rfl⟩ rfl
  have h1:=k0y (show decide (a<0)=false from h)
  refine y6 (u7 (fun h=>?_) (fun h=>?_))
  ·have h:=k0z (show decide (a≥(((Y3 L).length:Nat):Int))=true from h)
   rw[k1t (show a≥(L.length:Int) by omega),Bool.or_true]at eW
   refine z7 hT ?_
   refine u0 ?_
   exact x7 [] ⟨(0,0,3),eW.symm,rfl,rfl⟩ rfl
  ·have h:=k0y (show decide (a≥(((Y3 L).length:Nat):Int))=false from h)
   exact x6 ⟨z6 [] [1,7] rfl,by omega,by omega⟩
 rintro⟨a0,a1⟩
 rw[k1s (show ¬ a<0 by omega),k1s (show ¬ a≥(L.length:Int) by omega)]at eW
 have hA:a.toNat<L.length:=by omega
 have ha:L[a.toNat]?=some (L.getD a.toNat 0):=by rw[k0v,k0w hA];rfl
 generalize L.getD a.toNat 0=v at ha eW
 have hav:(Y3 L)[a.toNat]?=some [.raw (.int .i64 v)]:=q0k ha
 have hcs:∀ k,y4j L v (k+1)=match decide (L.getD k 0=v) with|true=>y4j L v k+1|false=>y4j L v k:=fun k=>rfl
 have hci:=w7r L v
 have hc0:y4j L v 0=0:=rfl
 generalize y4j L v=cnt at eW hcs hci hc0
 refine z7 hT ?_
 refine Q3 (fun st=>∃ c,c=cnt a.toNat∧st=⟨⟨44,[(1,i64 a),(7,.p (.sl 1 (Y3 L))),(8,i64 c)]⟩,[]⟩) (z7 hT ?_) ?_
 ·refine y8 ?_
  refine Q2 (fun n st=>∃ (k:Nat) (jk c:Int),n+k=a.toNat∧jk=k∧c=cnt k∧st=⟨⟨44,[(1,i64 a),(7,.p (.sl 1 (Y3 L))),(8,i64 c),(9,i64 jk)]⟩,[]⟩) a.toNat ⟨⟨44,_⟩,_⟩ (z6 [] [1,7,8,9] rfl) ⟨0,0,0,by omega,rfl,hc0.symm,rfl⟩ ?_
  rintro n st ⟨k,jk,c,hnk,hjk,hc,rfl⟩
  refine u5 (z7 hT ?_)
  refine y6 (u7 (fun h=>?_) (fun h=>?_))
  ·have h:=k0z (show decide (jk<a)=true from h)
   refine x6 ?_
   have hb:L[k]?=some (L.getD k 0):=by rw[k0v,k0w (show k<L.length by omega)];rfl
   have hck:=hcs k
   have hin:=hci k
   rw[← hc]at hck hin
   generalize L.getD k 0=b at hb hck
   have hbp:(Y3 L)[jk.toNat]?=some [.raw (.int .i64 b)]:=by rw[hjk,k0u];exact q0k hb
   refine Q3 (fun st=>∃ c',c'=cnt (k+1)∧st=⟨⟨44,[(1,i64 a),(7,.p (.sl 1 (Y3 L))),(8,i64 c'),(9,i64 jk)]⟩,[]⟩) (y8 ?_) ?_
   ·refine Q3 (fun st=>∃ e,e=(b==v)∧st=⟨⟨44,[(1,i64 a),(7,.p (.sl 1 (Y3 L))),(8,i64 c),(9,i64 jk),(36,bl e)]⟩,[]⟩) ?_ ?_
    ·refine Q9 [] [] hT u6 (by rfl) ?_
     refine⟨by omega,Z1 hbp ?_⟩
     refine⟨by omega,Z1 hav ?_⟩
     exact⟨_,z6 [] [1,7,8,9,36] rfl,_,rfl,rfl⟩
    rintro _ ⟨e,he,rfl⟩
    refine y6 (u7 (fun h=>?_) (fun h=>?_))
    ·have h:e=true:=h
     rw[he,beq_iff_eq]at h
     rw[k1t h]at hck
     refine z8 hT ?_
     exact⟨_,z6 [] [1,7,8,9] rfl,IntKind.i64.wrap (c+1),by rw[hck,Q1 _ (by omega) (by omega)],rfl⟩
    ·have h:e=false:=h
     rw[he,beq_eq_false_iff_ne]at h
     rw[k1s h]at hck
     exact x6 ⟨_,z6 [] [1,7,8,9] rfl,c,hck.symm,rfl⟩
   ·rintro _ ⟨c',hc',rfl⟩
    refine z8 hT ?_
    exact⟨n - 1,by omega,_,z6 [] [1,7,8,9] rfl,k+1,IntKind.i64.wrap (jk+1),c',by omega,by rw[Q1 _ (by omega) (by omega)];omega,hc',rfl⟩
  ·have h:=k0y (show decide (jk<a)=false from h)
   rw[show k=a.toNat by omega]at hc
   refine Q6 ?_
   exact⟨_,z6 [] [1,7,8] rfl,c,hc,rfl⟩
 rintro _ ⟨c,hc,rfl⟩
 rw[← hc]at eW
 refine z7 hT ?_
 refine⟨by omega,Z1 hav ?_⟩
 refine u0 ?_
 exact x7 [] ⟨(v,c,0),eW.symm,rfl,rfl⟩ rfl
end Go.Proofs.YtkjklhcfgbaceaaGreat.AL
