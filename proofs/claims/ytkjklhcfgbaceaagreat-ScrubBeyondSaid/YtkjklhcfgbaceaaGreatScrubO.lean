/- A part of the proof. -/
import Derived.Shelf.Sort.Plain
import Derived.Shelf.Slices.In.SortNone
import Derived.Test.YtkjklhcfgbaceaaGreatScrubN
open Go.Proofs.Tryz renaming prog→k0q
open Option.some renaming inj→k0x
open List renaming getElem?_eq_getElem→k0w,getD_eq_getElem?_getD→k0v,getElem?_eq_some_iff→k0t,getElem?_map→k1z,length_append→k1y,length_map→k1x,getElem_mem→k1w,mem_of_getElem?→k2x,length_take→k2u,take_add_one→k2t,getElem?_range→k2s,length_range→k3q
open Int renaming toNat_natCast→k0u
open Nat renaming le_refl→k1v
open Bool renaming and_eq_true→k1u
open Array renaming getD_eq_getD_getElem?→k2q
set_option maxHeartbeats 2000000
set_option maxRecDepth 20000
namespace Go.Proofs.YtkjklhcfgbaceaaGreat.AL
open Go Go.Proofs
theorem y4r (b:Blk):b.sld.1.length≤256:=by
 unfold Blk.sld
 split
 ·exact Nat.zero_le _
 ·split
  ·exact Nat.zero_le _
  ·rename_i h
   show (J5 b.all).length≤256
   rw[q3p,q6m b (by have:=k0y h;omega)]
   exact k1v _
theorem v0h (x:Sup)(k:Int):(x.sector k).1.length≤256:=by
 unfold Sup.sector
 split
 ·exact Nat.zero_le _
 ·exact y4r _
theorem v9e {S:List x9}{n:Nat}(h:∀ s∈S,s.length≤n)(k:Nat):(S.getD k []).length≤n:=by
 rw[k0v]
 cases e:S[k]? with
 |none=>exact Nat.zero_le _
 |some s=>exact h s (k2x e)
abbrev q2w (x:Sup)(next i:Int)(at_:List Int)(S:List x9):PV:=.box [.box (z0a x next i at_ S)]
theorem y9t (x:Sup)(next i:Int)(at_:List Int)(S:List x9)(k:Nat):AF k0q q5g [i64 k,.p (q2w x next i at_ S)] [] (Q9 (bA (x.sector k).1) []):=by
 refine AF.mono (R:=fun r H'=>∃ z,z=(x.sector k).1∧r=bA z∧H'=[]) ?_ (by rintro r H' ⟨z,rfl,rfl,rfl⟩;exact⟨rfl,rfl⟩)
 have w:=y8e x k
 generalize x.sector k=Z at w ⊢
 obtain⟨z,e⟩:=Z
 refine Q8 hT Tryz.func86 rfl rfl Tryz.ntmps86 rfl ?_
 refine y6 hT ?_
 refine y6 hT ?_
 refine Q1 (Q5 w _ rfl rfl) ?_
 refine y6 hT ?_
 refine u5 ?_
 exact x8 [] ⟨z,rfl,rfl,rfl⟩ rfl
theorem x4x (x:Sup)(next i:Int)(at_:List Int)(S:List x9)(hl:at_.length=S.length)(hn:at_.length≤1000)(hS:∀ s∈S,s.length≤1000000) :
 AF k0q z3w [.p (.box (z0a x next i at_ S))] [] (Q9 (.tup [.p (.sl 2 (px (V9 (fun k=>(x.sector k).1) S at_ at_.length))),i64 0]) []):=by
 refine AF.mono (R:=fun r H'=>∃ z,z=V9 (fun k=>(x.sector k).1) S at_ at_.length∧r=.tup [.p (.sl 2 (px z)),i64 0]∧H'=[]) ?_ (by rintro r H' ⟨z,rfl,rfl,rfl⟩;exact⟨rfl,rfl⟩)
 have w:=y3d (q2w x next i at_ S) q5g (fun k=>(x.sector k).1) x next i at_ S hl hn hS (fun k=>Nat.le_trans (v0h x k) (by decide)) (fun k _=>y9t x next i at_ S k)
 generalize V9 (fun k=>(x.sector k).1) S at_ at_.length=Z at w ⊢
 refine Q8 hT Tryz.func49 rfl rfl Tryz.ntmps49 rfl ?_
 refine y6 hT ?_
 refine Z3 (Z4 0 [.box (z0a x next i at_ S)] rfl rfl) ?_
 refine y6 hT ?_
 refine Q1 (Q5 w _ rfl rfl) ?_
 refine u5 ?_
 exact x8 [] ⟨Z,rfl,rfl,rfl⟩ rfl
/-- What a sector should be that is not needed. -/
def q4h (vol a:Int)(s:x9):x9:=match (W9 s).2==0&&(W9 s).1.vol==vol&&(W9 s).1.addr==a with
 |true=>s
 |false=>(Blk.mk 1 vol a 0 0 []).sld.1
theorem v6p {vol a:Int}{s:x9}(hs:s.length≤1000000):(q4h vol a s).length≤1000000:=by
 unfold q4h
 split
 ·exact hs
 ·exact Nat.le_trans (y4r _) (by decide)
theorem x9q (x:Sup)(next i:Int)(at_:List Int)(S:List x9)(hl:at_.length=S.length)(_hn:at_.length≤1000)(hS:∀ s∈S,s.length≤1000000)(k:Nat)(hk:k<at_.length) :
 AF k0q q6u [i64 k,.p (q2w x next i at_ S)] [] (Q9 (bA (q4h x.vol (at_.getD k 0) (S.getD k []))) []):=by
 refine AF.mono (R:=fun r H'=>∃ z,z=q4h x.vol (at_.getD k 0) (S.getD k [])∧r=bA z∧H'=[]) ?_ (by rintro r H' ⟨z,rfl,rfl,rfl⟩;exact⟨rfl,rfl⟩)
 have hil:=V6 at_
 have hcl:=Y6 S
 have ha:at_[k]?=some (at_.getD k 0):=by rw[k0v,k0w hk];rfl
 have hs:=k0w (show k<S.length by omega)
 have hsl:=hS _ (k1w (show k<S.length by omega))
 rw[q8r hs]
 generalize S[k]=s at hs hsl ⊢
 generalize at_.getD k 0=a at ha ⊢
 have wO:=z7t s hsl
 have wS:=q6e ⟨1,x.vol,a,0,0,[]⟩
 have eF:q4h x.vol a s=match (W9 s).2==0&&(W9 s).1.vol==x.vol&&(W9 s).1.addr==a with
  |true=>s
  |false=>(Blk.mk 1 x.vol a 0 0 []).sld.1:=rfl
 generalize q4h x.vol a s=Z at eF ⊢
 generalize W9 s=OB at wO eF
 obtain⟨ob,oe⟩:=OB
 generalize (Blk.mk 1 x.vol a 0 0 []).sld=SL at wS eF
 obtain⟨sl,se⟩:=SL
 have hap:(Y8 at_)[((k:Nat):Int).toNat]?=some [.raw (.int .i64 a)]:=by rw[k0u];exact q2r ha
 have hsp:(w9 S)[((k:Nat):Int).toNat]?=some [bP s]:=by rw[k0u];exact Y5 hs
 refine Q8 hT Tryz.func127 rfl rfl Tryz.ntmps127 rfl ?_
 refine y6 hT ?_
 refine u0 ⟨⟨68,[(0,i64 k),(1,.p (q2w x next i at_ S)),(4,.p (.box ob.pv)),(5,i64 oe)]⟩,[]⟩ True (y7 hT ?_) (fun _=>?_)
 ·refine⟨by omega,Z2 hsp ?_⟩
  refine Q1 (Q5 wO _ rfl rfl) ?_
  exact⟨Wk.trans (Z4 0 ob.pv rfl rfl) (z8 [] [0,1,4,5] rfl),trivial⟩
 refine u0 ⟨⟨68,[(0,i64 k),(1,.p (q2w x next i at_ S))]⟩,[]⟩ ((oe==0&&ob.vol==x.vol&&ob.addr==a)=false) ?_ ?_
 ·refine Q4 (fun st=>∃ v,v=(oe==0&&ob.vol==x.vol&&ob.addr==a)∧st=⟨⟨68,[(0,i64 k),(1,.p (q2w x next i at_ S)),(42,bl v)]⟩,[]⟩) ?_ ?_
  ·refine Z0 [] [] hT u7 (by rfl) ?_
   refine u9 (fun h=>?_) (fun h=>?_)
   ·rw[show (oe==0)=true from h]
    refine u9 (fun h=>?_) (fun h=>?_)
    ·rw[show (ob.vol==x.vol)=true from h]
     refine⟨by omega,Z2 hap ?_⟩
     exact⟨_,z8 [] [0,1,42] rfl,_,rfl,rfl⟩
    ·rw[show (ob.vol==x.vol)=false from h]
     exact⟨_,z8 [] [0,1,42] rfl,_,rfl,rfl⟩
   ·rw[show (oe==0)=false from h]
    exact⟨_,z8 [] [0,1,42] rfl,_,rfl,rfl⟩
  rintro _ ⟨v,hv,rfl⟩
  refine y8 (u9 (fun h=>?_) (fun h=>?_))
  ·have h:v=true:=h
   have eF:Z=s:=by rw[eF,← hv,h]
   refine y6 hT ?_
   refine⟨by omega,Z2 hsp ?_⟩
   refine u5 ?_
   exact x8 [] ⟨s,eF.symm,rfl,rfl⟩ rfl
  ·have h:v=false:=h
   exact x7 ⟨z8 [] [0,1] rfl,by rw[← hv];exact h⟩
 intro hv
 have eF:Z=sl:=by rw[eF];show (match (oe==0&&ob.vol==x.vol&&ob.addr==a) with|true=>s|false=>sl)=sl;rw[hv]
 refine u6 ?_
 refine Z0 [] [] hT u7 (by rfl) ?_
 refine⟨by omega,Z2 hap ?_⟩
 refine⟨_,y2a (Q5 wS _ rfl rfl) ⟨.inl rfl,.inl rfl,.inl rfl,.inl rfl,.inl rfl,.inr ⟨rfl,1,rfl⟩,trivial⟩,?_⟩
 refine y6 hT ?_
 refine u5 ?_
 exact x8 [] ⟨sl,eF.symm,rfl,rfl⟩ rfl
theorem y8k (x:Sup)(next i:Int)(at_:List Int)(S:List x9)(hl:at_.length=S.length)(hn:at_.length≤1000)(hS:∀ s∈S,s.length≤1000000) :
 AF k0q z7i [.p (.box (z0a x next i at_ S))] [] (Q9 (.tup [.p (.sl 2 (px (V9 (fun k=>q4h x.vol (at_.getD k 0) (S.getD k [])) S at_ at_.length))),i64 0]) []):=by
 refine AF.mono (R:=fun r H'=>∃ z,z=V9 (fun k=>q4h x.vol (at_.getD k 0) (S.getD k [])) S at_ at_.length∧r=.tup [.p (.sl 2 (px z)),i64 0]∧H'=[]) ?_ (by rintro r H' ⟨z,rfl,rfl,rfl⟩;exact⟨rfl,rfl⟩)
 have w:=y3d (q2w x next i at_ S) q6u (fun k=>q4h x.vol (at_.getD k 0) (S.getD k [])) x next i at_ S hl hn hS (fun k=>v6p (v9e hS k)) (fun k hk=>x9q x next i at_ S hl hn hS k hk)
 generalize V9 (fun k=>q4h x.vol (at_.getD k 0) (S.getD k [])) S at_ at_.length=Z at w ⊢
 refine Q8 hT Tryz.func88 rfl rfl Tryz.ntmps88 rfl ?_
 refine y6 hT ?_
 refine Z3 (Z4 0 [.box (z0a x next i at_ S)] rfl rfl) ?_
 refine y6 hT ?_
 refine Q1 (Q5 w _ rfl rfl) ?_
 refine u5 ?_
 exact x8 [] ⟨Z,rfl,rfl,rfl⟩ rfl
def q9r (x:Sup)(slot:Int):Int:=x.start+(slot - x.start.tmod x.g.w+x.g.w).tmod x.g.w
theorem v9f {x:Sup}{slot:Int}(hs:0≤x.start∧x.start≤4294967295)(hw:8≤x.g.w∧x.g.w≤512)(h0:0≤slot)(_h1:slot<x.g.w) :
 0≤x.start.tmod x.g.w∧x.start.tmod x.g.w<x.g.w∧0≤(slot - x.start.tmod x.g.w+x.g.w).tmod x.g.w∧(slot - x.start.tmod x.g.w+x.g.w).tmod x.g.w<x.g.w:=by
 have a0:=Int.tmod_nonneg (a:=x.start) x.g.w hs.1
 have a1:=Int.tmod_lt_of_pos x.start (b:=x.g.w) (by omega)
 have b0:=Int.tmod_nonneg (a:=slot - x.start.tmod x.g.w+x.g.w) x.g.w (by omega)
 have b1:=Int.tmod_lt_of_pos (slot - x.start.tmod x.g.w+x.g.w) (b:=x.g.w) (by omega)
 exact⟨a0,a1,b0,b1⟩
theorem w3z (x:Sup)(next i:Int)(at_:List Int)(S:List x9)(slot:Int)(hs:0≤x.start∧x.start≤4294967295)(hw:8≤x.g.w∧x.g.w≤512)(h0:0≤slot)(h1:slot<x.g.w) :
 AF k0q z7h [.p (.box (z0a x next i at_ S)),i64 slot] [] (Q9 (.tup [i64 (q9r x slot),bl (decide (q9r x slot<next))]) []):=by
 obtain⟨a0,a1,b0,b1⟩:=v9f hs hw h0 h1
 have e1:IntKind.i64.wrap (slot - x.start.tmod x.g.w)=slot - x.start.tmod x.g.w:=Q0 _ (by omega) (by omega)
 have e2:IntKind.i64.wrap (slot - x.start.tmod x.g.w+x.g.w)=slot - x.start.tmod x.g.w+x.g.w:=Q0 _ (by omega) (by omega)
 have e3:IntKind.i64.wrap (x.start+(slot - x.start.tmod x.g.w+x.g.w).tmod x.g.w)=q9r x slot:=Q0 _ (by omega) (by omega)
 refine AF.mono (R:=fun r H'=>∃ z,z=q9r x slot∧r=.tup [i64 z,bl (decide (z<next))]∧H'=[]) ?_ (by rintro r H' ⟨z,rfl,rfl,rfl⟩;exact⟨rfl,rfl⟩)
 refine Q8 hT Tryz.func87 rfl rfl Tryz.ntmps87 rfl ?_
 refine y6 hT ?_
 refine y6 hT ?_
 refine Q4 (fun st=>∃ z,z=q9r x slot∧st=⟨⟨40,[(0,.p (.box (z0a x next i at_ S))),(7,i64 z)]⟩,[]⟩) ?_ ?_
 ·refine Z0 [] [] hT u7 (by rfl) ?_
  refine neI (show x.g.w≠0 by omega) ?_
  refine neI (show x.g.w≠0 by omega) ?_
  refine⟨_,z8 [] [0,7] rfl,IntKind.i64.wrap (x.start+(IntKind.i64.wrap (IntKind.i64.wrap (slot - x.start.tmod x.g.w)+x.g.w)).tmod x.g.w),?_,rfl⟩
  rw[e1,e2,e3]
 rintro _ ⟨z,hz,rfl⟩
 refine u6 ?_
 refine Z0 [] [] hT u7 (by rfl) ?_
 refine u5 ?_
 exact x8 [] ⟨z,hz,rfl,rfl⟩ rfl
def q5u (x:Sup)(slot seq:Int)(S:List x9):Nat→Pc × Bool
 |0=>(Pc.zero,false)
 |m+1=>match (q0c (S.getD m []) x.vol x.g m slot).2&&((q0c (S.getD m []) x.vol x.g m slot).1.seq==seq&&(!(q5u x slot seq S m).2||decide ((q0c (S.getD m []) x.vol x.g m slot).1.epoch > (q5u x slot seq S m).1.epoch))) with
  |true=>((q0c (S.getD m []) x.vol x.g m slot).1,true)
  |false=>q5u x slot seq S m
def z0v (x:Sup)(next slot:Int)(at_:List Int)(S:List x9):List Put9 × Int:=match decide (q9r x slot<next) with
 |false=>(V9 (fun k=>q4h x.vol (at_.getD k 0) (S.getD k [])) S at_ at_.length,0)
 |true=>match (q5u x slot (q9r x slot) S S.length).2 with
  |false=>([],22)
  |true=>(V9 (fun k=>((q5u x slot (q9r x slot) S S.length).1.sector x.vol x.g k).1) S at_ at_.length,0)
theorem w4a (p:Pc)(vol:Int)(g:GeoV)(m:Int):(p.sector vol g m).1.length≤256:=by
 unfold Pc.sector
 split
 ·exact Nat.zero_le _
 ·exact y4r _
theorem x9r (x:Sup)(next i:Int)(at_:List Int)(S:List x9)(p:Pc)(k:Nat):AF k0q q6t [i64 k,.p (q2w x next i at_ S),.p (.box p.pv)] [] (Q9 (bA (p.sector x.vol x.g k).1) []):=by
 refine AF.mono (R:=fun r H'=>∃ z,z=(p.sector x.vol x.g k).1∧r=bA z∧H'=[]) ?_ (by rintro r H' ⟨z,rfl,rfl,rfl⟩;exact⟨rfl,rfl⟩)
 have w:=q9h x.vol x.g k p
 generalize p.sector x.vol x.g k=Z at w ⊢
 obtain⟨z,e⟩:=Z
 refine Q8 hT Tryz.func90 rfl rfl Tryz.ntmps90 rfl ?_
 refine y6 hT ?_
 refine u6 ?_
 refine Z0 [] [] hT u7 (by rfl) ?_
 refine⟨_,Q5 w _ rfl rfl,?_⟩
 refine y6 hT ?_
 refine u5 ?_
 exact x8 [] ⟨z,rfl,rfl,rfl⟩ rfl
theorem w4b (x:Sup)(next i:Int)(at_:List Int)(S:List x9)(slot:Int)(hs:0≤x.start∧x.start≤4294967295)(hw:8≤x.g.w∧x.g.w≤512)(h0:0≤slot)(h1:slot<x.g.w)(hl:at_.length=S.length)(hn:at_.length≤1000)(hS:∀ s∈S,s.length≤1000000) :
 AF k0q z7f [.p (.box (z0a x next i at_ S)),i64 slot] [] (Q9 (.tup [.p (.sl 2 (px (z0v x next slot at_ S).1)),i64 (z0v x next slot at_ S).2]) []):=by
 refine AF.mono (R:=fun r H'=>∃ z,z=z0v x next slot at_ S∧r=.tup [.p (.sl 2 (px z.1)),i64 z.2]∧H'=[]) ?_ (by rintro r H' ⟨z,rfl,rfl,rfl⟩;exact⟨rfl,rfl⟩)
 have wl:=w3z x next i at_ S slot hs hw h0 h1
 have wf:=y8k x next i at_ S hl hn hS
 have hcl:=Y6 S
 have eZ:z0v x next slot at_ S=match decide (q9r x slot<next) with
  |false=>(V9 (fun k=>q4h x.vol (at_.getD k 0) (S.getD k [])) S at_ at_.length,0)
  |true=>match (q5u x slot (q9r x slot) S S.length).2 with
   |false=>([],22)
   |true=>(V9 (fun k=>((q5u x slot (q9r x slot) S S.length).1.sector x.vol x.g k).1) S at_ at_.length,0):=rfl
 generalize z0v x next slot at_ S=Z at eZ ⊢
 generalize q9r x slot=seq at wl eZ
 have hbs:∀ m,q5u x slot seq S (m+1)=match (q0c (S.getD m []) x.vol x.g m slot).2&&((q0c (S.getD m []) x.vol x.g m slot).1.seq==seq&&(!(q5u x slot seq S m).2||decide ((q0c (S.getD m []) x.vol x.g m slot).1.epoch > (q5u x slot seq S m).1.epoch))) with
  |true=>((q0c (S.getD m []) x.vol x.g m slot).1,true)
  |false=>q5u x slot seq S m:=fun m=>rfl
 have hb0:q5u x slot seq S 0=(Pc.zero,false):=rfl
 generalize q5u x slot seq S=best at eZ hbs hb0
 have wp:=fun p=>y3e (q2w x next i at_ S) (.box (Pc.pv p)) q6t (fun k=>(p.sector x.vol x.g k).1) x next i at_ S hl hn hS (fun k=>Nat.le_trans (w4a p _ _ _) (by decide)) (fun k _=>x9r x next i at_ S p k)
 refine Q8 hT Tryz.func50 rfl rfl Tryz.ntmps50 rfl ?_
 refine y6 hT ?_
 refine Z3 (Z4 0 [.box (z0a x next i at_ S)] rfl rfl) ?_
 refine u0 ⟨⟨78,[(1,i64 slot),(2,.p (q2w x next i at_ S)),(6,i64 seq),(7,bl (decide (seq<next)))]⟩,[]⟩ True (y7 hT ?_) (fun _=>?_)
 ·refine Q1 (Q5 wl _ rfl rfl) ?_
  exact⟨z8 [] [1,2,6,7] rfl,trivial⟩
 refine u0 ⟨⟨78,[(1,i64 slot),(2,.p (q2w x next i at_ S)),(6,i64 seq)]⟩,[]⟩ (decide (seq<next)=true) (y6 hT ?_) (fun hlv=>?_)
 ·refine y8 (u9 (fun h=>?_) (fun h=>?_))
  ·have h:(!decide (seq<next))=true:=h
   rw[Bool.not_eq_true']at h
   rw[h]at eZ
   refine y6 hT ?_
   refine Q1 (Q5 wf _ rfl rfl) ?_
   refine u5 ?_
   exact x8 [] ⟨_,eZ.symm,rfl,rfl⟩ rfl
  ·have h:(!decide (seq<next))=false:=h
   rw[Bool.not_eq_false']at h
   exact x7 ⟨z8 [] [1,2,6] rfl,h⟩
 rw[hlv]at eZ
 refine y6 hT ?_
 refine u0 ⟨⟨78,[(1,i64 slot),(2,.p (q2w x next i at_ S)),(6,i64 seq),(8,.ref 0 0),(9,bl false)]⟩,[.cells q1n Pc.zero.cv]⟩ True (y7 hT ?_) (fun _=>?_)
 ·exact⟨Wk.trans (U2 0 Pc.zero.cv rfl ⟨.inl rfl,.inl rfl,.inl rfl,.inl rfl,.inl rfl,.inl rfl,.inr (.inr (.inr ⟨1,rfl,rfl⟩)),trivial⟩) (z8 [0] [1,2,6,8,9] rfl),trivial⟩
 refine Q4 (fun st=>∃ B,B=best S.length∧st=⟨⟨78,[(2,.p (q2w x next i at_ S)),(8,.ref 0 0),(9,bl B.2)]⟩,[.cells q1n B.1.cv]⟩) (y6 hT ?_) ?_
 ·refine x3 ?_
  refine Q3 (fun n st=>∃ (m:Nat) (jm:Int) (B:Pc × Bool),n+m=S.length∧jm=m∧B=best m∧st=⟨⟨78,[(1,i64 slot),(2,.p (q2w x next i at_ S)),(6,i64 seq),(8,.ref 0 0),(9,bl B.2),(29,.p (.sl 1 (w9 S))),(30,i64 (w9 S).length),(31,i64 jm)]⟩,[.cells q1n B.1.cv]⟩) S.length ⟨⟨78,_⟩,_⟩ (z8 [0] [1,2,6,8,9,29,30,31] rfl) ⟨0,0,(Pc.zero,false),by omega,rfl,hb0.symm,rfl⟩ ?_
  rintro n st ⟨m,jm,B,hnm,hjm,hB,rfl⟩
  refine y6 hT ?_
  refine u6 (y8 (u9 (fun h=>?_) (fun h=>?_)))
  ·have h:=k0z (show decide (jm<(((w9 S).length:Nat):Int))=true from h)
   have hm:m<S.length:=by omega
   refine x7 ?_
   have hs:=k0w hm
   have hsl:=hS _ (k1w hm)
   have hbm:=hbs m
   rw[q8r hs,← hjm]at hbm
   generalize S[m]=s at hs hsl hbm
   have hsp:(w9 S)[jm.toNat]?=some [bP s]:=by rw[hjm,k0u];exact Y5 hs
   have w:=w9p s x.vol x.g jm slot hsl
   generalize q0c s x.vol x.g jm slot=T at w hbm
   obtain⟨tp,tb⟩:=T
   rw[← hB]at hbm
   obtain⟨bp,bb⟩:=B
   have hbm:best (m+1)=match tb&&(tp.seq==seq&&(!bb||decide (tp.epoch > bp.epoch))) with|true=>(tp,true)|false=>(bp,bb):=hbm
   refine Q4 (fun st=>∃ B',B'=best (m+1)∧st=⟨⟨78,[(1,i64 slot),(2,.p (q2w x next i at_ S)),(6,i64 seq),(8,.ref 0 0),(9,bl B'.2),(29,.p (.sl 1 (w9 S))),(30,i64 (w9 S).length),(31,i64 jm)]⟩,[.cells q1n B'.1.cv]⟩) (x3 (y6 hT ?_)) ?_
   ·refine⟨by omega,Z2 hsp ?_⟩
    refine u0 ⟨⟨78,[(1,i64 slot),(2,.p (q2w x next i at_ S)),(6,i64 seq),(8,.ref 0 0),(9,bl bb),(12,.ref 1 0),(13,bl tb),(29,.p (.sl 1 (w9 S))),(30,i64 (w9 S).length),(31,i64 jm)]⟩,[.cells q1n bp.cv,.cells q1n tp.cv]⟩ True ?_ (fun _=>?_)
    ·refine Z0 [17,18] [] hT u7 (by rfl) ?_
     refine⟨_,Q5 w _ rfl rfl,?_⟩
     repeat first|refine⟨rfl,?_⟩|refine⟨⟨_,Q5 w _ rfl rfl,rfl⟩,?_⟩
     exact⟨z8 [0,1] [1,2,6,8,9,12,13,29,30,31] rfl,trivial⟩
    refine Q4 (fun st=>∃ v,v=(tb&&(tp.seq==seq&&(!bb||decide (tp.epoch > bp.epoch))))∧st=⟨⟨78,[(1,i64 slot),(2,.p (q2w x next i at_ S)),(6,i64 seq),(8,.ref 0 0),(9,bl bb),(12,.ref 1 0),(29,.p (.sl 1 (w9 S))),(30,i64 (w9 S).length),(31,i64 jm),(70,bl v)]⟩,[.cells q1n bp.cv,.cells q1n tp.cv]⟩) (y7 hT ?_) ?_
    ·refine u9 (fun h=>?_) (fun h=>?_)
     ·rw[show tb=true from h]
      refine u9 (fun h=>?_) (fun h=>?_)
      ·rw[show (tp.seq==seq)=true from h]
       refine u9 (fun h=>?_) (fun h=>?_)
       ·rw[show (!bb)=true from h]
        exact⟨_,z8 [0,1] [1,2,6,8,9,12,29,30,31,70] rfl,_,rfl,rfl⟩
       ·rw[show (!bb)=false from h]
        exact⟨_,z8 [0,1] [1,2,6,8,9,12,29,30,31,70] rfl,_,rfl,rfl⟩
      ·rw[show (tp.seq==seq)=false from h]
       exact⟨_,z8 [0,1] [1,2,6,8,9,12,29,30,31,70] rfl,_,rfl,rfl⟩
     ·rw[show tb=false from h]
      exact⟨_,z8 [0,1] [1,2,6,8,9,12,29,30,31,70] rfl,_,rfl,rfl⟩
    rintro _ ⟨v,hv,rfl⟩
    rw[← hv]at hbm
    refine y8 (u9 (fun h=>?_) (fun h=>?_))
    ·have h:v=true:=h
     rw[h]at hbm
     refine y7 hT ?_
     exact⟨_,z8 [0] [1,2,6,8,9,29,30,31] rfl,(tp,true),hbm.symm,rfl⟩
    ·have h:v=false:=h
     rw[h]at hbm
     exact x7 ⟨_,z8 [0] [1,2,6,8,9,29,30,31] rfl,(bp,bb),hbm.symm,rfl⟩
   ·rintro _ ⟨B',hB',rfl⟩
    refine y7 hT ?_
    exact⟨n - 1,by omega,_,z8 [0] [1,2,6,8,9,29,30,31] rfl,m+1,IntKind.i64.wrap (jm+1),B',by omega,by rw[Q0 _ (by omega) (by omega)];omega,hB',rfl⟩
  ·have h:=k0y (show decide (jm<(((w9 S).length:Nat):Int))=false from h)
   rw[show m=S.length by omega]at hB
   refine Q7 ?_
   exact⟨_,z8 [0] [2,8,9] rfl,B,hB,rfl⟩
 rintro _ ⟨⟨p,ok⟩,hB,rfl⟩
 rw[← hB]at eZ
 have wp:=wp p
 generalize V9 (fun k=>(p.sector x.vol x.g k).1) S at_ at_.length=Dp at wp eZ
 clear hB
 have eZ:Z=match (generalizing:=false) ok with|false=>([],22)|true=>(Dp,0):=by rw[eZ]
 refine Z3 (Z4 0 (Pc.pv p) rfl rfl) ?_
 refine u0 ⟨⟨78,[(2,.p (q2w x next i at_ S)),(8,.p (.box (Pc.pv p)))]⟩,[]⟩ (ok=true) (y6 hT ?_) (fun hok=>?_)
 ·refine y8 (u9 (fun h=>?_) (fun h=>?_))
  ·have h:(!ok)=true:=h
   rw[Bool.not_eq_true']at h
   rw[h]at eZ
   refine y6 hT ?_
   refine Z3 (q0a 4 2 rfl) ?_
   refine u5 ?_
   exact x8 [] ⟨([],22),eZ.symm,rfl,rfl⟩ rfl
  ·have h:(!ok)=false:=h
   rw[Bool.not_eq_false']at h
   exact x7 ⟨z8 [] [2,8] rfl,h⟩
 rw[hok]at eZ
 refine y6 hT ?_
 refine Q1 (Q5 wp _ rfl rfl) ?_
 refine u5 ?_
 exact x8 [] ⟨(Dp,0),eZ.symm,rfl,rfl⟩ rfl
def q3r (x:Sup)(n:Int)(at_:List Int)(S:List x9):List Put9 × Int:=match n.tdiv x.g.s != x.area with
 |true=>(V9 (fun k=>q4h x.vol (at_.getD k 0) (S.getD k [])) S at_ at_.length,0)
 |false=>match (q1r S x.vol x.g (n.tdiv x.g.s) (n.tmod x.g.s) x.snap).2 != 0 with
  |true=>([],(q1r S x.vol x.g (n.tdiv x.g.s) (n.tmod x.g.s) x.snap).2)
  |false=>(V9 (fun k=>(Blk.mk 4 x.vol (at_.getD k 0) 0 x.snap ((q1r S x.vol x.g (n.tdiv x.g.s) (n.tmod x.g.s) x.snap).1.getD k [])).sld.1) S at_ at_.length,0)
theorem x4y {l:List x9}{vol:Int}{g:GeoV}{area stripe no:Int}(h:(q1r l vol g area stripe no).2=0):(q1r l vol g area stripe no).1.length=l.length:=by
 unfold q1r at h ⊢
 split at h
 ·exact absurd h (by decide)
 ·rename_i hc
  simp only[Bool.or_eq_false_iff,Bool.not_eq_false',beq_iff_eq]at hc
  obtain⟨⟨h1,_⟩,h3⟩:=hc
  have hf:q1x g area stripe:=by
   by_cases hf:q1x g area stripe
   ·exact hf
   ·rw[z4r hf]at h1;exact absurd h1 (by decide)
  obtain⟨_,_,_,_,h5,h6,h7,h8⟩:=V7 (V5 hf.1)
  generalize hS:q7b vol (q1u g area stripe).1 no l=S at h ⊢
  have hd:(z0q S g.k.toNat g.m.toNat 228).2=0:=by
   by_cases e:(z0q S g.k.toNat g.m.toNat 228).2=0
   ·exact e
   ·rw[bne_iff_ne.mpr e]at h;exact absurd (show (22:Int)=0 from h) (by decide)
  rw[hd]
  show (z0q S g.k.toNat g.m.toNat 228).1.length=_
  unfold z0q at hd ⊢
  cases hg:decide ((V2 S g.k.toNat (g.k.toNat+g.m.toNat)).length<g.k.toNat) with
  |true=>rw[hg]at hd;exact absurd (show (9:Int)=0 from hd) (by decide)
  |false=>
   have hg:=k0y hg
   have hg2:=(z0p S g.k.toNat (g.k.toNat+g.m.toNat)).2
   show (z4j S _ _ _++q8u _ _ _).length=_
   rw[k1y,z4p]
   unfold z4j
   rw[k1x,y7u,x4t (by omega)]
   omega
theorem y9u (x:Sup)(next i:Int)(at_:List Int)(S L:List x9)(k:Nat)(hk:k<at_.length)(hL:at_.length=L.length) :
 AF k0q q5h [i64 k,.p (q2w x next i at_ S),.p (.box [.sl 1 (w9 L)])] [] (Q9 (bA (Blk.mk 4 x.vol (at_.getD k 0) 0 x.snap (L.getD k [])).sld.1) []):=by
 refine AF.mono (R:=fun r H'=>∃ z,z=(Blk.mk 4 x.vol (at_.getD k 0) 0 x.snap (L.getD k [])).sld.1∧r=bA z∧H'=[]) ?_ (by rintro r H' ⟨z,rfl,rfl,rfl⟩;exact⟨rfl,rfl⟩)
 have ha:at_[k]?=some (at_.getD k 0):=by rw[k0v,k0w hk];rfl
 have hs:=k0w (show k<L.length by omega)
 rw[q8r hs]
 generalize L[k]=s at hs ⊢
 generalize at_.getD k 0=a at ha ⊢
 have w:=q6e ⟨4,x.vol,a,0,x.snap,s⟩
 generalize (Blk.mk 4 x.vol a 0 x.snap s).sld=Z at w ⊢
 obtain⟨z,e⟩:=Z
 have hap:(Y8 at_)[((k:Nat):Int).toNat]?=some [.raw (.int .i64 a)]:=by rw[k0u];exact q2r ha
 have hsp:(w9 L)[((k:Nat):Int).toNat]?=some [bP s]:=by rw[k0u];exact Y5 hs
 refine Q8 hT Tryz.func93 rfl rfl Tryz.ntmps93 rfl ?_
 refine y6 hT ?_
 refine u6 ?_
 refine Z0 [] [] hT u7 (by rfl) ?_
 refine⟨by omega,Z2 hap ?_⟩
 refine⟨by omega,Z2 hsp ?_⟩
 refine⟨_,Q5 w _ rfl rfl,?_⟩
 refine y6 hT ?_
 refine u5 ?_
 exact x8 [] ⟨z,rfl,rfl,rfl⟩ rfl
theorem x4z (x:Sup)(next i:Int)(at_:List Int)(S:List x9)(n:Int)(h0:0≤n)(h1:n≤1000000)(hs:1≤x.g.s∧x.g.s≤32)(hk4:x.g.k≤4)(hm3:x.g.m≤3)(hl:at_.length=S.length)(hn:at_.length≤1000)(hS:∀ s∈S,s.length≤1000000) :
 AF k0q z3x [.p (.box (z0a x next i at_ S)),i64 n] [] (Q9 (.tup [.p (.sl 2 (px (q3r x n at_ S).1)),i64 (q3r x n at_ S).2]) []):=by
 refine AF.mono (R:=fun r H'=>∃ z,z=q3r x n at_ S∧r=.tup [.p (.sl 2 (px z.1)),i64 z.2]∧H'=[]) ?_ (by rintro r H' ⟨z,rfl,rfl,rfl⟩;exact⟨rfl,rfl⟩)
 have wf:=y8k x next i at_ S hl hn hS
 have hcl:=Y6 S
 have eZ:q3r x n at_ S=match n.tdiv x.g.s != x.area with
  |true=>(V9 (fun k=>q4h x.vol (at_.getD k 0) (S.getD k [])) S at_ at_.length,0)
  |false=>match (q1r S x.vol x.g (n.tdiv x.g.s) (n.tmod x.g.s) x.snap).2 != 0 with
   |true=>([],(q1r S x.vol x.g (n.tdiv x.g.s) (n.tmod x.g.s) x.snap).2)
   |false=>(V9 (fun k=>(Blk.mk 4 x.vol (at_.getD k 0) 0 x.snap ((q1r S x.vol x.g (n.tdiv x.g.s) (n.tmod x.g.s) x.snap).1.getD k [])).sld.1) S at_ at_.length,0):=rfl
 generalize q3r x n at_ S=Z at eZ ⊢
 have d0:=Int.tdiv_nonneg (a:=n) (b:=x.g.s) h0 (by omega)
 have d1:n.tdiv x.g.s≤n:=by rw[Int.tdiv_eq_ediv_of_nonneg h0];exact Int.ediv_le_self _ h0
 have eq1:IntKind.i64.wrap (n.tdiv x.g.s)=n.tdiv x.g.s:=Q0 _ (by omega) (by omega)
 generalize hq:n.tdiv x.g.s=qa at eZ d0 d1 eq1
 have wS:=x9h S x.vol x.g qa (n.tmod x.g.s) x.snap hk4 hm3 (by omega) hS
 have hfull:=x4y (l:=S) (vol:=x.vol) (g:=x.g) (area:=qa) (stripe:=n.tmod x.g.s) (no:=x.snap)
 refine Q8 hT Tryz.func51 rfl rfl Tryz.ntmps51 rfl ?_
 refine y6 hT ?_
 refine Z3 (Z4 0 [.box (z0a x next i at_ S)] rfl rfl) ?_
 refine Q4 (fun st=>∃ a b,a=qa∧b=n.tmod x.g.s∧st=⟨⟨68,[(2,.p (q2w x next i at_ S)),(6,i64 a),(7,i64 b)]⟩,[]⟩) ?_ ?_
 ·refine Z0 [] [] hT u7 (by rfl) ?_
  refine neI (show x.g.s≠0 by omega) ?_
  refine neI (show x.g.s≠0 by omega) ?_
  exact⟨_,z8 [] [2,6,7] rfl,IntKind.i64.wrap (n.tdiv x.g.s),n.tmod x.g.s,by rw[hq,eq1],rfl,rfl⟩
 rintro _ ⟨a,b,ha,hb,rfl⟩
 rw[← ha,← hb]at wS hfull
 rw[← ha,← hb]at eZ
 generalize q1r S x.vol x.g a b x.snap=SB at wS hfull eZ
 obtain⟨L,e⟩:=SB
 have hfull:e=0→L.length=S.length:=hfull
 refine u0 ⟨⟨68,[(2,.p (q2w x next i at_ S)),(6,i64 a),(7,i64 b)]⟩,[]⟩ ((a != x.area)=false) (y6 hT ?_) (fun har=>?_)
 ·refine y8 (u9 (fun h=>?_) (fun h=>?_))
  ·have h:(a != x.area)=true:=h
   rw[h]at eZ
   refine y6 hT ?_
   refine Q1 (Q5 wf _ rfl rfl) ?_
   refine u5 ?_
   exact x8 [] ⟨_,eZ.symm,rfl,rfl⟩ rfl
  ·exact x7 ⟨z8 [] [2,6,7] rfl,h⟩
 rw[har]at eZ
 have eZ:Z=match (generalizing:=false) e != 0 with|true=>([],e)|false=>(V9 (fun k=>(Blk.mk 4 x.vol (at_.getD k 0) 0 x.snap (L.getD k [])).sld.1) S at_ at_.length,0):=by rw[eZ]
 refine u0 ⟨⟨68,[(2,.p (q2w x next i at_ S)),(8,.ref 0 0),(9,i64 e)]⟩,[.cells v3y [.p (.sl 1 (w9 L))]]⟩ True ?_ (fun _=>?_)
 ·refine Z0 [25,26] [] hT u7 (by rfl) ?_
  refine⟨_,Q5 wS _ rfl rfl,?_⟩
  repeat first|refine⟨rfl,?_⟩|refine⟨⟨_,Q5 wS _ rfl rfl,rfl⟩,?_⟩
  exact⟨z8 [0] [2,8,9] rfl,trivial⟩
 refine Z3 (Z4 0 [.sl 1 (w9 L)] rfl rfl) ?_
 refine u0 ⟨⟨68,[(2,.p (q2w x next i at_ S)),(8,.p (.box [.sl 1 (w9 L)]))]⟩,[]⟩ ((e != 0)=false) (y6 hT ?_) (fun he=>?_)
 ·refine y8 (u9 (fun h=>?_) (fun h=>?_))
  ·have h:(e != 0)=true:=h
   rw[h]at eZ
   refine y6 hT ?_
   refine Z3 (q0a 4 2 rfl) ?_
   refine u5 ?_
   exact x8 [] ⟨([],e),eZ.symm,rfl,rfl⟩ rfl
  ·exact x7 ⟨z8 [] [2,8] rfl,h⟩
 rw[he]at eZ
 have hLl:at_.length=L.length:=by have:=hfull (by simpa using he);omega
 have wp:=y3e (q2w x next i at_ S) (.box [.sl 1 (w9 L)]) q5h (fun k=>(Blk.mk 4 x.vol (at_.getD k 0) 0 x.snap (L.getD k [])).sld.1) x next i at_ S hl hn hS (fun k=>Nat.le_trans (y4r _) (by decide)) (fun k hk=>y9u x next i at_ S L k hk hLl)
 generalize V9 (fun k=>(Blk.mk 4 x.vol (at_.getD k 0) 0 x.snap (L.getD k [])).sld.1) S at_ at_.length=Dp at wp eZ
 refine y6 hT ?_
 refine Q1 (Q5 wp _ rfl rfl) ?_
 refine u5 ?_
 exact x8 [] ⟨(Dp,0),eZ.symm,rfl,rfl⟩ rfl
def z0b (V:Nat→Int)(n k:Nat):List (List PV):=(List.range n).map fun j=>([.raw (.int .i64 (if j<k then V j else 0))]:List PV)
theorem z0w (V:Nat→Int)(n k:Nat):(z0b V n k).length=n:=by unfold z0b;rw[k1x,k3q]
theorem z0x {V:Nat→Int}{n k j:Nat}(h:j<n):(z0b V n k)[j]?=some [.raw (.int .i64 (if j<k then V j else 0))]:=by
 unfold z0b;rw[k1z,k2s h];rfl
theorem x9s {V:Nat→Int}{n k:Nat}(h:k<n):(z0b V n k).set k [.raw (.int .i64 (V k))]=z0b V n (k+1):=by
 refine List.ext_getElem? fun j=>?_
 rw[List.getElem?_set]
 by_cases hj:j<n
 ·rw[z0w]
  by_cases e:k=j
  ·subst e
   rw[if_pos rfl,if_pos h,z0x h,if_pos (by omega)]
  ·rw[if_neg e,z0x hj,z0x hj]
   by_cases h2:j<k
   ·rw[if_pos h2,if_pos (by omega)]
   ·rw[if_neg h2,if_neg (by omega)]
 ·rw[if_neg (by omega),List.getElem?_eq_none (by rw[z0w];omega),List.getElem?_eq_none (by rw[z0w];omega)]
theorem x1u (V:Nat→Int)(n:Nat):z0b V n 0=List.replicate n [.raw (.int .i64 0)]:=by
 refine List.ext_getElem? fun j=>?_
 rw[List.getElem?_replicate]
 by_cases hj:j<n
 ·rw[z0x hj,if_neg (by omega),if_pos hj]
 ·rw[List.getElem?_eq_none (by rw[z0w];omega),if_neg hj]
theorem x9t (V:Nat→Int)(n:Nat):z0b V n n=Y8 ((List.range n).map V):=by
 unfold z0b Y8
 rw[List.map_map]
 refine List.map_congr_left fun j hj=>?_
 rw[if_pos (List.mem_range.mp hj)];rfl
theorem v0i (f:FuncId)(V:Nat→Int)(n:Nat)(n2:n≤1000)(w:∀ j:Nat,j<n→AF k0q f [i64 j] [] (Q9 (i64 (V j)) [])) :
 AF k0q y1p [i64 n,.clo (.func f) []] [] (Q9 (.p (.sl 1 (Y8 ((List.range n).map V)))) []):=by
 refine AF.mono (R:=fun r H'=>∃ z,z=z0b V n n∧r=.p (.sl 1 z)∧H'=[]) ?_ (by rintro r H' ⟨z,rfl,rfl,rfl⟩;exact⟨by rw[x9t],rfl⟩)
 have hz:=x1u V n
 have hl:=z0w V n n
 refine Q8 hT Tryz.func79 rfl rfl Tryz.ntmps79 rfl ?_
 refine y6 hT ?_
 refine Q4 (fun st=>∃ X,X=z0b V n 0∧st=⟨⟨22,[(1,.clo (.func f) []),(5,.msl 0 1 0 n)]⟩,[.row V1 1 X]⟩) (y7 hT ?_) ?_
 ·refine⟨⟨rfl,by omega,⟨by show (n:Int)*8≤_;omega,by omega⟩⟩,?_⟩
  exact⟨_,z8 [0] [1,5] rfl,_,hz.symm,rfl⟩
 rintro _ ⟨X,hX,rfl⟩
 refine Q4 (fun st=>∃ X,X=z0b V n n∧st=⟨⟨22,[(5,.msl 0 1 0 n)]⟩,[.row V1 1 X]⟩) (y6 hT ?_) ?_
 ·refine x3 ?_
  refine Q3 (fun m s=>∃ (k:Nat) (j:Int) (X:_),m+k=n∧j=k∧X=z0b V n k∧s=⟨⟨22,[(1,.clo (.func f) []),(5,.msl 0 1 0 n),(10,i64 n),(11,i64 j)]⟩,[.row V1 1 X]⟩) n ⟨⟨22,_⟩,_⟩ (z8 [0] [1,5,10,11] rfl) ⟨0,0,X,by omega,rfl,hX,rfl⟩ ?_
  clear hz
  rintro m s ⟨k,j,X,hmk,hj,hX,rfl⟩
  refine y6 hT ?_
  refine u6 (y8 (u9 (fun h=>?_) (fun h=>?_)))
  ·have h:=k0z (show decide (j<(n:Int))=true from h)
   have hk:k<n:=by omega
   refine x7 ?_
   have w:=w k hk
   rw[← hj]at w
   have hgx:X[0+j.toNat]?=some [.raw (.int .i64 0)]:=by
    rw[show 0+j.toNat=k by omega,hX,z0x hk,if_neg (by omega)]
   have hset:X.set (0+j.toNat) [.raw (.int .i64 (V k))]=z0b V n (k+1):=by
    rw[show 0+j.toNat=k by omega,hX];exact x9s hk
   generalize V k=v at w hset
   refine Q4 (fun st=>∃ X,X=z0b V n (k+1)∧st=⟨⟨22,[(1,.clo (.func f) []),(5,.msl 0 1 0 n),(10,i64 n),(11,i64 j)]⟩,[.row V1 1 X]⟩) (x3 ?_) ?_
   ·refine y6 hT ?_
    refine y7 hT ?_
    refine Q1 (Q5 w _ rfl rfl) ?_
    refine⟨⟨by omega,by omega⟩,?_⟩
    refine Z2 hgx ?_
    exact⟨_,z8 [0] [1,5,10,11] rfl,_,hset,rfl⟩
   ·rintro _ ⟨X,rfl,rfl⟩
    refine y7 hT ?_
    exact⟨m - 1,by omega,_,z8 [0] [1,5,10,11] rfl,k+1,IntKind.i64.wrap (j+1),_,by omega,by rw[Q0 _ (by omega) (by omega)];omega,rfl,rfl⟩
  ·have h:=k0y (show decide (j<(n:Int))=false from h)
   rw[show k=n by omega]at hX
   refine Q7 ?_
   exact⟨_,z8 [0] [5] rfl,_,hX,rfl⟩
 rintro _ ⟨X,hX,rfl⟩
 refine Z3 (q1d 5 0 n rfl (by rw[hX,hl]) rfl rfl) ?_
 refine y6 hT ?_
 refine u5 ?_
 exact x8 [] ⟨X,hX,rfl,rfl⟩ rfl
theorem v0j (c1 c2:PV)(f:FuncId)(V:Nat→Int)(n:Nat)(n2:n≤1000)(w:∀ j:Nat,j<n→AF k0q f [i64 j,.p c1,.p c2] [] (Q9 (i64 (V j)) [])) :
 AF k0q y1p [i64 n,.clo (.func f) [.p c1,.p c2]] [] (Q9 (.p (.sl 1 (Y8 ((List.range n).map V)))) []):=by
 refine AF.mono (R:=fun r H'=>∃ z,z=z0b V n n∧r=.p (.sl 1 z)∧H'=[]) ?_ (by rintro r H' ⟨z,rfl,rfl,rfl⟩;exact⟨by rw[x9t],rfl⟩)
 have hz:=x1u V n
 have hl:=z0w V n n
 refine Q8 hT Tryz.func79 rfl rfl Tryz.ntmps79 rfl ?_
 refine y6 hT ?_
 refine Q4 (fun st=>∃ X,X=z0b V n 0∧st=⟨⟨22,[(1,.clo (.func f) [.p c1,.p c2]),(5,.msl 0 1 0 n)]⟩,[.row V1 1 X]⟩) (y7 hT ?_) ?_
 ·refine⟨⟨rfl,by omega,⟨by show (n:Int)*8≤_;omega,by omega⟩⟩,?_⟩
  exact⟨_,z8 [0] [1,5] rfl,_,hz.symm,rfl⟩
 rintro _ ⟨X,hX,rfl⟩
 refine Q4 (fun st=>∃ X,X=z0b V n n∧st=⟨⟨22,[(5,.msl 0 1 0 n)]⟩,[.row V1 1 X]⟩) (y6 hT ?_) ?_
 ·refine x3 ?_
  refine Q3 (fun m s=>∃ (k:Nat) (j:Int) (X:_),m+k=n∧j=k∧X=z0b V n k∧s=⟨⟨22,[(1,.clo (.func f) [.p c1,.p c2]),(5,.msl 0 1 0 n),(10,i64 n),(11,i64 j)]⟩,[.row V1 1 X]⟩) n ⟨⟨22,_⟩,_⟩ (z8 [0] [1,5,10,11] rfl) ⟨0,0,X,by omega,rfl,hX,rfl⟩ ?_
  clear hz
  rintro m s ⟨k,j,X,hmk,hj,hX,rfl⟩
  refine y6 hT ?_
  refine u6 (y8 (u9 (fun h=>?_) (fun h=>?_)))
  ·have h:=k0z (show decide (j<(n:Int))=true from h)
   have hk:k<n:=by omega
   refine x7 ?_
   have w:=w k hk
   rw[← hj]at w
   have hgx:X[0+j.toNat]?=some [.raw (.int .i64 0)]:=by
    rw[show 0+j.toNat=k by omega,hX,z0x hk,if_neg (by omega)]
   have hset:X.set (0+j.toNat) [.raw (.int .i64 (V k))]=z0b V n (k+1):=by
    rw[show 0+j.toNat=k by omega,hX];exact x9s hk
   generalize V k=v at w hset
   refine Q4 (fun st=>∃ X,X=z0b V n (k+1)∧st=⟨⟨22,[(1,.clo (.func f) [.p c1,.p c2]),(5,.msl 0 1 0 n),(10,i64 n),(11,i64 j)]⟩,[.row V1 1 X]⟩) (x3 ?_) ?_
   ·refine y6 hT ?_
    refine y7 hT ?_
    refine Q1 (Q5 w _ rfl rfl) ?_
    refine⟨⟨by omega,by omega⟩,?_⟩
    refine Z2 hgx ?_
    exact⟨_,z8 [0] [1,5,10,11] rfl,_,hset,rfl⟩
   ·rintro _ ⟨X,rfl,rfl⟩
    refine y7 hT ?_
    exact⟨m - 1,by omega,_,z8 [0] [1,5,10,11] rfl,k+1,IntKind.i64.wrap (j+1),_,by omega,by rw[Q0 _ (by omega) (by omega)];omega,rfl,rfl⟩
  ·have h:=k0y (show decide (j<(n:Int))=false from h)
   rw[show k=n by omega]at hX
   refine Q7 ?_
   exact⟨_,z8 [0] [5] rfl,_,hX,rfl⟩
 rintro _ ⟨X,hX,rfl⟩
 refine Z3 (q1d 5 0 n rfl (by rw[hX,hl]) rfl rfl) ?_
 refine y6 hT ?_
 refine u5 ?_
 exact x8 [] ⟨X,hX,rfl,rfl⟩ rfl
theorem x5a (j:Nat):AF k0q z2s [i64 j] [] (Q9 (i64 j) []):=by
 refine Q8 hT Tryz.func80 rfl rfl Tryz.ntmps80 rfl ?_
 refine y6 hT ?_
 refine y6 hT ?_
 refine u5 ?_
 exact x8 [] ⟨rfl,rfl⟩ rfl
theorem x5b (g:GeoV)(i:Int)(hw:8≤g.w∧g.w≤512)(h0:1≤i)(h1:i≤g.w)(j:Nat)(hj:j<2):AF k0q z2t [i64 j,.p (.box g.pv),.p (.box [.raw (.int .i64 i)])] [] (Q9 (i64 (4+j*g.w+i - 1)) []):=by
 have hm:0≤(j:Int)*g.w∧(j:Int)*g.w≤512:=by
  rcases (show j=0∨j=1 by omega) with rfl|rfl <;> omega
 have e:IntKind.i64.wrap (IntKind.i64.wrap (IntKind.i64.wrap (4+IntKind.i64.wrap (j*g.w))+i) - 1)=4+j*g.w+i - 1:=by
  rw[Q0 (j*g.w) (by omega) (by omega),Q0 (4+j*g.w) (by omega) (by omega),Q0 (4+j*g.w+i) (by omega) (by omega),Q0 _ (by omega) (by omega)]
 rw[← e]
 refine Q8 hT Tryz.func81 rfl rfl Tryz.ntmps81 rfl ?_
 refine y6 hT ?_
 refine y6 hT ?_
 refine u5 ?_
 exact x8 [] ⟨rfl,rfl⟩ rfl
def q0n (g:GeoV)(i:Int):List Int:=match decide (i=0) with
 |true=>(List.range 4).map fun j:Nat=>(j:Int)
 |false=>match decide (i≤g.w) with
  |true=>(List.range 2).map fun j:Nat=>4+j*g.w+i - 1
  |false=>(List.range (g.k+g.m).toNat).map fun j:Nat=>4+2*g.w+(i - 1 - g.w)*(g.k+g.m)+j
theorem v6q (first:Int)(n:Nat):z2f first n n=Y8 ((List.range n).map fun j:Nat=>first+j):=by
 unfold z2f Y8
 rw[List.map_map]
 refine List.map_congr_left fun j hj=>?_
 rw[if_pos (List.mem_range.mp hj)];rfl
theorem y0f (g:GeoV)(i:Int)(hg:g.may=true)(h0:0≤i)(h1:i<g.groups):AF k0q z6m [g.av,i64 i] [] (Q9 (.p (.sl 1 (Y8 (q0n g i)))) []):=by
 obtain⟨g1,g2,g3,g4,g5,g6,g7,g8⟩:=V7 (V5 hg)
 have hgr:g.groups=1+g.w+2*g.s:=by unfold GeoV.groups;rw[hg]
 by_cases hi:g.w<i
 ·have e1:q0n g i=(List.range (g.k+g.m).toNat).map fun j:Nat=>4+2*g.w+(i - 1 - g.w)*(g.k+g.m)+j:=by
   unfold q0n
   rw[k1s (show ¬ i=0 by omega),k1s (show ¬ i≤g.w by omega)]
  rw[e1,← v6q]
  have w:=y3b g (i - 1 - g.w) hg (by omega) (by omega) (g.k+g.m).toNat (by omega) _ rfl
  rw[show 1+g.w+(i - 1 - g.w)=i by omega]at w
  exact z3q (t:=V1) (sz:=1) w (z4q _ _ _).symm
 have wG:=z2e g
 rw[hgr]at wG
 refine AF.mono (R:=fun r H'=>∃ z,z=q0n g i∧r=.p (.sl 1 (Y8 z))∧H'=[]) ?_ (by rintro r H' ⟨z,rfl,rfl,rfl⟩;exact⟨rfl,rfl⟩)
 have eM:q0n g i=match decide (i=0) with
  |true=>(List.range 4).map fun j:Nat=>(j:Int)
  |false=>match decide (i≤g.w) with
   |true=>(List.range 2).map fun j:Nat=>4+j*g.w+i - 1
   |false=>(List.range (g.k+g.m).toNat).map fun j:Nat=>4+2*g.w+(i - 1 - g.w)*(g.k+g.m)+j:=rfl
 generalize q0n g i=Z at eM ⊢
 refine Q8 hT Tryz.func48 rfl rfl Tryz.ntmps48 rfl ?_
 refine y6 hT ?_
 refine u0 ⟨⟨41,[(2,.p (.box g.pv)),(3,.p (.box [.raw (.int .i64 i)]))]⟩,[]⟩ False (x3 ?_) (fun hF=>hF.elim)
 refine Z3 (Z4 0 g.pv rfl rfl) ?_
 refine Z3 (Z4 1 [.raw (.int .i64 i)] rfl rfl) ?_
 refine u6 ?_
 refine Z0 [] [] hT u7 (by rfl) ?_
 refine u9 (fun h=>?_) (fun h=>?_)
 ·have h:=k0z (show decide (i<0)=true from h)
  omega
 refine⟨_,Q5 wG _ rfl rfl,?_⟩
 refine y8 (u9 (fun h=>?_) (fun h=>?_))
 ·have h:=k0z (show decide (i≥1+g.w+2*g.s)=true from h)
  omega
 refine y6 hT ?_
 refine y8 (u9 (fun h=>?_) (fun h=>?_))
 ·have h:(i==0)=true:=h
  rw[beq_iff_eq]at h
  rw[k1t h]at eM
  have w:=v0i z2s (fun j=>(j:Int)) 4 (by decide) (fun j _=>x5a j)
  refine y6 hT ?_
  refine Q1 (Q5 w _ rfl rfl) ?_
  refine u5 ?_
  exact x8 [] ⟨_,eM.symm,rfl,rfl⟩ rfl
 have h:(i==0)=false:=h
 rw[beq_eq_false_iff_ne]at h
 rw[k1s h,k1t (show i≤g.w by omega)]at eM
 refine y6 hT ?_
 refine y8 (u9 (fun h2=>?_) (fun h2=>?_))
 ·have w:=v0j (.box g.pv) (.box [.raw (.int .i64 i)]) z2t (fun j=>4+j*g.w+i - 1) 2 (by decide) (fun j hj=>x5b g i (by omega) (by omega) (by omega) j hj)
  refine y6 hT ?_
  refine Q1 (Q5 w _ rfl rfl) ?_
  refine u5 ?_
  exact x8 [] ⟨_,eM.symm,rfl,rfl⟩ rfl
 ·have h2:=k0y (show decide (i≤g.w)=false from h2)
  omega
def GeoV.sectors (g:GeoV):Int:=match g.may with|true=>4+2*g.w+2*g.s*(g.k+g.m)|false=>0
theorem x9u (g:GeoV):AF k0q y9e [g.av] [] (Q9 (i64 g.sectors) []):=by
 have wo:AF k0q y5z [g.av,.clo (.func z6n) []] [] (Q9 (i64 g.sectors) []):=by
  refine Q8 hT Tryz.func99 rfl rfl Tryz.ntmps99 rfl ?_
  refine y6 hT ?_
  refine Z3 (Z4 0 g.pv rfl rfl) ?_
  unfold GeoV.sectors
  refine u6 (y6 hT ?_)
  refine Q1 (Q5 (q9g g) _ rfl rfl) ?_
  refine y8 (u9 (fun h=>?_) (fun h=>?_))
  ·have h:(!g.may)=true:=h
   rw[Bool.not_eq_true']at h
   rw[h]
   refine y6 hT ?_
   refine u5 ?_
   exact x8 [] ⟨rfl,rfl⟩ rfl
  ·have h:(!g.may)=false:=h
   rw[Bool.not_eq_false']at h
   rw[h]
   have hf:=V5 h
   refine x7 ?_
   refine y6 hT ?_
   refine Q1 (Q5 (y3a g hf) _ rfl rfl) ?_
   refine u5 ?_
   exact x8 [] ⟨rfl,rfl⟩ rfl
 refine Q8 hT Tryz.func78 rfl rfl Tryz.ntmps78 rfl ?_
 refine y6 hT ?_
 refine Z3 (Z4 0 g.pv rfl rfl) ?_
 refine y6 hT ?_
 refine Q1 (Q5 wo _ rfl rfl) ?_
 refine u5 ?_
 exact x8 [] ⟨rfl,rfl⟩ rfl
def z0y (D:Dev)(x:Sup)(next i:Int):Int:=match !x.may||decide (next<x.start)||decide (next > 4294967295)||decide (next - x.start > x.g.w) with
 |true=>1
 |false=>match decide ((D.cells.length:Int)<x.g.sectors)||decide (i<0)||decide (i≥x.g.groups) with
  |true=>1
  |false=>match D.dead with|true=>21|false=>0
theorem y2k {x:Sup}(h:x.may=true):(0≤x.start∧x.start≤4294967295)∧x.g.may=true:=by
 unfold Sup.may at h
 simp only[Bool.and_eq_true]at h
 refine⟨?_,h.1.1.2⟩
 have hw:=h.1.1.1.1.1.1
 unfold Sup.words X2 at hw
 simp only[List.all_cons,List.all_nil,Bool.and_true,Bool.and_eq_true,decide_eq_true_eq]at hw
 omega
theorem x1v (D:Dev)(x:Sup)(next i:Int):AFm k0q 3 x6u [.ref 0 0,x.av,i64 next,i64 i] (Y3 D) (Q9 (i64 (z0y D x next i)) (Y3 D)):=by
 refine AFm.mono (R:=fun r H'=>∃ z,z=z0y D x next i∧r=i64 z∧H'=Y3 D) ?_ (by rintro r H' ⟨z,rfl,rfl,rfl⟩;exact⟨rfl,rfl⟩)
 have eZ:z0y D x next i=match !x.may||decide (next<x.start)||decide (next > 4294967295)||decide (next - x.start > x.g.w) with
  |true=>1
  |false=>match decide ((D.cells.length:Int)<x.g.sectors)||decide (i<0)||decide (i≥x.g.groups) with
   |true=>1
   |false=>match D.dead with|true=>21|false=>0:=rfl
 have w1:=w6m x
 have w2:=x9u x.g
 have w3:=z2e x.g
 have w4:=y6j D
 have w5:=z5m D
 have hst:=y2k (x:=x)
 generalize z0y D x next i=Z at eZ ⊢
 refine Z6 3 hT Tryz.func47 rfl rfl Tryz.ntmps47 rfl rfl ?_
 refine y6 hT ?_
 refine Z3 (Z4 3 x.pv rfl rfl) ?_
 have eZ:∃ c1 c2,c1=(!x.may||decide (next<x.start)||decide (next > 4294967295)||decide (next - x.start > x.g.w))∧c2=(decide ((D.cells.length:Int)<x.g.sectors)||decide (i<0)||decide (i≥x.g.groups))∧(c1=true→Z=1)∧(c1=false→c2=true→Z=1)∧(c1=false→c2=false→D.dead=true→Z=21)∧(c1=false→c2=false→D.dead=false→Z=0):=by
  refine⟨_,_,rfl,rfl,fun h=>by rw[eZ,h],fun h h2=>by rw[eZ,h,h2],fun h h2 h3=>by rw[eZ,h,h2,h3],fun h h2 h3=>by rw[eZ,h,h2,h3]⟩
 obtain⟨c1,c2,e1,e2,z1,z2,z3,z4⟩:=eZ
 refine u0 ⟨⟨44,[]⟩,Y3 D⟩ (c1=false∧c2=false∧D.dead=false) (x3 ?_) ?_
 ·refine Q4 (fun st=>∃ v,v=c1∧st=⟨⟨44,[(0,.ref 0 0),(2,i64 next),(3,i64 i),(5,.p (.box x.pv)),(9,bl v)]⟩,Y3 D⟩) (y6 hT ?_) ?_
  ·refine Q1 (Q5 w1 _ rfl rfl) ?_
   refine y8 (u9 (fun h=>?_) (fun h=>?_))
   ·have h:(!x.may)=true:=h
    rw[h]at e1
    exact x7 ⟨_,z8 [0,1,2] [0,2,3,5,9] rfl,_,by rw[h,e1];rfl,rfl⟩
   have h:(!x.may)=false:=h
   rw[h]at e1
   obtain⟨⟨s0,s1⟩,hg⟩:=hst (by simpa using h)
   obtain⟨g1,g2,g3,g4,g5,g6,g7,g8⟩:=V7 (V5 hg)
   refine y6 hT ?_
   refine y8 (u9 (fun h2=>?_) (fun h2=>?_))
   ·have h2:decide (next<x.start)=true:=h2
    rw[h2]at e1
    exact x7 ⟨_,z8 [0,1,2] [0,2,3,5,9] rfl,_,by rw[h2,e1];rfl,rfl⟩
   have h2:decide (next<x.start)=false:=h2
   rw[h2]at e1
   refine y6 hT ?_
   refine y8 (u9 (fun h3=>?_) (fun h3=>?_))
   ·have h3:decide (next > 4294967295)=true:=h3
    rw[h3]at e1
    exact x7 ⟨_,z8 [0,1,2] [0,2,3,5,9] rfl,_,by rw[h3,e1];rfl,rfl⟩
   have h3:decide (next > 4294967295)=false:=h3
   rw[h3]at e1
   have h2:=k0y h2
   have h3:=k0y h3
   have hwr:IntKind.i64.wrap (next - x.start)=next - x.start:=Q0 _ (by omega) (by omega)
   refine y7 hT ?_
   exact⟨_,z8 [0,1,2] [0,2,3,5,9] rfl,decide (IntKind.i64.wrap (next - x.start) > x.g.w),by rw[hwr,e1];rfl,rfl⟩
  rintro _ ⟨v,hv,rfl⟩
  refine y8 (u9 (fun h=>?_) (fun h=>?_))
  ·have h:v=true:=h
   refine y6 hT ?_
   refine u5 ?_
   exact x8 [0,1,2] ⟨1,(z1 (by rw[← hv];exact h)).symm,rfl,rfl⟩ rfl
  have h:v=false:=h
  have hc1:c1=false:=by rw[← hv];exact h
  refine Q4 (fun st=>∃ v,v=c2∧st=⟨⟨44,[(0,.ref 0 0),(27,bl v)]⟩,Y3 D⟩) (u6 ?_) ?_
  ·refine Z0 [] [] hT u7 (by rfl) ?_
   refine⟨_,Z7 [0,1,2] w4 rfl rfl rfl,?_⟩
   refine⟨_,Q5 w2 _ rfl rfl,?_⟩
   refine y8 (u9 (fun h=>?_) (fun h=>?_))
   ·have h:decide ((D.cells.length:Int)<x.g.sectors)=true:=h
    rw[h]at e2
    exact x7 ⟨_,z8 [0,1,2] [0,27] rfl,_,by rw[h,e2];rfl,rfl⟩
   have h:decide ((D.cells.length:Int)<x.g.sectors)=false:=h
   rw[h]at e2
   refine y6 hT ?_
   refine y8 (u9 (fun h2=>?_) (fun h2=>?_))
   ·have h2:decide (i<0)=true:=h2
    rw[h2]at e2
    exact x7 ⟨_,z8 [0,1,2] [0,27] rfl,_,by rw[h2,e2];rfl,rfl⟩
   have h2:decide (i<0)=false:=h2
   rw[h2]at e2
   refine y7 hT ?_
   refine Q1 (Q5 w3 _ rfl rfl) ?_
   exact⟨_,z8 [0,1,2] [0,27] rfl,decide (i≥x.g.groups),by rw[e2];rfl,rfl⟩
  rintro _ ⟨v,hv,rfl⟩
  refine y8 (u9 (fun h=>?_) (fun h=>?_))
  ·have h:v=true:=h
   refine y6 hT ?_
   refine u5 ?_
   exact x8 [0,1,2] ⟨1,(z2 hc1 (by rw[← hv];exact h)).symm,rfl,rfl⟩ rfl
  have h:v=false:=h
  have hc2:c2=false:=by rw[← hv];exact h
  refine y6 hT ?_
  refine Q1 (Z7 [0,1,2] w5 rfl rfl rfl) ?_
  refine y8 (u9 (fun h=>?_) (fun h=>?_))
  ·have h:D.dead=true:=h
   refine y6 hT ?_
   refine u5 ?_
   exact x8 [0,1,2] ⟨21,(z3 hc1 hc2 h).symm,rfl,rfl⟩ rfl
  ·have h:D.dead=false:=h
   exact x7 ⟨z8 [0,1,2] [] rfl,hc1,hc2,h⟩
 rintro⟨h1,h2,h3⟩
 refine y6 hT ?_
 refine u5 ?_
 exact x8 [0,1,2] ⟨0,(z4 h1 h2 h3).symm,rfl,rfl⟩ rfl
def Dev.snapWrite (D:Dev)(vol:Int)(g:GeoV)(area epoch no:Int)(b:x9):Int × Dev:=match (putsB vol g area epoch no b).2 != 0 with
 |true=>((putsB vol g area epoch no b).2,D)
 |false=>D.all9 (putsB vol g area epoch no b).1
theorem v0k {vol:Int}{g:GeoV}{area epoch no:Int}{b:x9}(hk4:g.k≤4)(hm3:g.m≤3):(putsB vol g area epoch no b).1.length≤224:=by
 unfold putsB
 split
 ·exact Nat.zero_le _
 ·rename_i h
  split
  ·exact Nat.zero_le _
  ·have hf:q1x g area 0:=by
    by_cases hf:q1x g area 0
    ·exact hf
    ·rw[z4r hf]at h;exact absurd h (by simp)
   obtain⟨h1,h2,h3,h4,h5,h6,h7,h8⟩:=V7 (V5 hf.1)
   show (q5r _ _ _ _ _ _ _ _ _).length≤_
   rw[q4v]
   exact Nat.le_trans (Nat.mul_le_mul (show g.s.toNat≤32 by omega) (show g.k.toNat+g.m.toNat≤7 by omega)) (by decide)
theorem w4c (D:Dev)(vol:Int)(g:GeoV)(area epoch no:Int)(b:x9)(hk4:g.k≤4)(hm3:g.m≤3)(hb:b.length≤1000000)(n:Nat)(hD:D.Ok n)(hn:n+1000<1000000) :
 AFm k0q 1 x3u [.ref 0 0,i64 vol,g.av,i64 area,i64 epoch,i64 no,bA b] (Y3 D) (Q9 (i64 (D.snapWrite vol g area epoch no b).1) (Y3 (D.snapWrite vol g area epoch no b).2)):=by
 refine AFm.mono (R:=fun r H'=>∃ z,z=D.snapWrite vol g area epoch no b∧r=i64 z.1∧H'=Y3 z.2) ?_ (by rintro r H' ⟨z,rfl,rfl,rfl⟩;exact⟨rfl,rfl⟩)
 have wP:=v0b vol g area epoch no b hk4 hm3 hb
 have eZ:D.snapWrite vol g area epoch no b=match (putsB vol g area epoch no b).2 != 0 with
  |true=>((putsB vol g area epoch no b).2,D)
  |false=>D.all9 (putsB vol g area epoch no b).1:=rfl
 have hlen:=v0k (vol:=vol) (g:=g) (area:=area) (epoch:=epoch) (no:=no) (b:=b) hk4 hm3
 generalize D.snapWrite vol g area epoch no b=Z at eZ
 generalize putsB vol g area epoch no b=F at wP eZ hlen
 refine Z6 1 hT Tryz.func32 rfl rfl Tryz.ntmps32 rfl rfl ?_
 refine y6 hT ?_
 refine Z3 (Z4 3 g.pv rfl rfl) ?_
 refine u0 ⟨⟨33,[(0,.ref 0 0),(15,.p (.sl 2 (px F.1))),(16,i64 F.2)]⟩,Y3 D⟩ True (y7 hT ?_) (fun _=>?_)
 ·refine Q1 (Q5 wP _ rfl rfl) ?_
  exact⟨z8 [0,1,2] [0,15,16] rfl,trivial⟩
 refine u6 (y6 hT ?_)
 refine y8 (u9 (fun h=>?_) (fun h=>?_))
 ·have h:(F.2 != 0)=true:=h
  rw[h]at eZ
  refine y6 hT ?_
  refine u5 ?_
  exact x8 [0,1,2] ⟨_,eZ.symm,rfl,rfl⟩ rfl
 ·have h:(F.2 != 0)=false:=h
  rw[h]at eZ
  refine x7 ?_
  have wA:=y0c D F.1 n hD (by omega)
  refine y6 hT ?_
  refine Q1 (Z7 [0,1,2] wA rfl rfl rfl) ?_
  refine u5 ?_
  exact x8 [0,3,4] ⟨_,eZ.symm,rfl,rfl⟩ rfl
def Dev.reads (D:Dev)(A:Int):Nat→List x9 × Dev
 |0=>([],D)
 |i+1=>((D.reads A i).1++[((D.reads A i).2.read (A+i)).1.1],((D.reads A i).2.read (A+i)).2)
def Dev.readsL (D:Dev)(at_:List Int):Nat→List x9 × Dev
 |0=>([],D)
 |k+1=>((D.readsL at_ k).1++[((D.readsL at_ k).2.read (at_.getD k 0)).1.1],((D.readsL at_ k).2.read (at_.getD k 0)).2)
theorem z5x {D:Dev}{b:Nat}(h:D.Ok b)(at_:List Int):∀ k,(D.readsL at_ k).2.Ok b
 |0=>h
 |k+1=>(z5x h at_ k).read _
theorem y8m (D:Dev)(at_:List Int):∀ k,(D.readsL at_ k).1.length=k
 |0=>rfl
 |k+1=>by show ((D.readsL at_ k).1++[_]).length=_;rw[k1y,y8m D at_ k];rfl
theorem y0g {D:Dev}{b:Nat}(h:D.Ok b)(at_:List Int):∀ k,∀ s∈(D.readsL at_ k).1,s.length≤256
 |0,s,hs=>by simp[Dev.readsL]at hs
 |k+1,s,hs=>by
  have hs:s∈(D.readsL at_ k).1++[((D.readsL at_ k).2.read (at_.getD k 0)).1.1]:=hs
  rcases List.mem_append.mp hs with hs|hs
  ·exact y0g h at_ k s hs
  ·rw[List.mem_singleton.mp hs]
   exact v4m (z5x h at_ k) _
def q3t (x:Sup)(next i:Int)(at_:List Int)(S:List x9):List Put9 × Int:=match decide (i=0) with
 |true=>(V9 (fun k=>(x.sector k).1) S at_ at_.length,0)
 |false=>match decide (i≤x.g.w) with
  |true=>z0v x next (i - 1) at_ S
  |false=>q3r x (i - 1 - x.g.w) at_ S
def Dev.want (D:Dev)(x:Sup)(next i:Int):(List Put9 × Int) × Dev:=match z0y D x next i != 0 with
 |true=>(([],z0y D x next i),D)
 |false=>(q3t x next i (q0n x.g i) (D.readsL (q0n x.g i) (q0n x.g i).length).1,(D.readsL (q0n x.g i) (q0n x.g i).length).2)
abbrev v6r (x:Sup)(next i:Int)(at_:List Int)(s:AV):List AV:=[i64 x.vol,i64 x.gen,i64 x.epoch,i64 x.area,i64 x.snap,i64 x.long,i64 x.start,i64 x.chain,i64 x.g.w,i64 x.g.s,i64 x.g.k,i64 x.g.m,i64 next,i64 i,.p (.sl 1 (Y8 at_)),s]
theorem v6s {D:Dev}{x:Sup}{next i:Int}(h:z0y D x next i=0):(0≤x.start∧x.start≤4294967295)∧x.g.may=true∧0≤i∧i<x.g.groups:=by
 unfold z0y at h
 split at h
 ·exact absurd h (by decide)
 ·rename_i h1
  simp only[Bool.or_eq_false_iff,Bool.not_eq_false']at h1
  obtain⟨a,b⟩:=y2k h1.1.1.1
  split at h
  ·exact absurd h (by decide)
  ·rename_i h2
   simp only[Bool.or_eq_false_iff,decide_eq_false_iff_not]at h2
   exact⟨a,b,by omega,by omega⟩
theorem z0z {g:GeoV}(hg:g.may=true)(i:Int):(q0n g i).length≤24:=by
 obtain⟨g1,g2,g3,g4,g5,g6,g7,g8⟩:=V7 (V5 hg)
 unfold q0n
 split
 ·rw[k1x,k3q];decide
 ·split
  ·rw[k1x,k3q];decide
  ·rw[k1x,k3q];omega
theorem y8n (D:Dev)(x:Sup)(next i:Int)(hk4:x.g.k≤4)(hm3:x.g.m≤3)(n:Nat)(hD:D.Ok n)(hn:n≤1000000) :
 AFm k0q 1 z8x [.ref 0 0,x.av,i64 next,i64 i] (Y3 D) (Q9 (.tup [.p (.sl 2 (px (D.want x next i).1.1)),i64 (D.want x next i).1.2]) (Y3 (D.want x next i).2)):=by
 refine AFm.mono (R:=fun r H'=>∃ z,z=D.want x next i∧r=.tup [.p (.sl 2 (px z.1.1)),i64 z.1.2]∧H'=Y3 z.2) ?_ (by rintro r H' ⟨z,rfl,rfl,rfl⟩;exact⟨rfl,rfl⟩)
 have wm:=x1v D x next i
 have hm0:=v6s (D:=D) (x:=x) (next:=next) (i:=i)
 have eZ:D.want x next i=match z0y D x next i != 0 with
  |true=>(([],z0y D x next i),D)
  |false=>(q3t x next i (q0n x.g i) (D.readsL (q0n x.g i) (q0n x.g i).length).1,(D.readsL (q0n x.g i) (q0n x.g i).length).2):=rfl
 generalize D.want x next i=Z at eZ ⊢
 generalize z0y D x next i=me at wm hm0 eZ
 refine Z6 1 hT Tryz.func21 rfl rfl Tryz.ntmps21 rfl rfl ?_
 refine y6 hT ?_
 refine Z3 (Z4 3 x.pv rfl rfl) ?_
 refine u0 ⟨⟨88,[(0,.ref 0 0),(2,i64 next),(3,i64 i),(5,.p (.box x.pv))]⟩,Y3 D⟩ ((me != 0)=false) (y6 hT ?_) (fun hme=>?_)
 ·refine Q1 (Z7 [0,1,2] wm rfl rfl rfl) ?_
  refine y6 hT ?_
  refine y8 (u9 (fun h=>?_) (fun h=>?_))
  ·have h:(me != 0)=true:=h
   rw[h]at eZ
   refine y6 hT ?_
   refine Z3 (q0a 8 2 rfl) ?_
   refine u5 ?_
   exact x8 [0,1,2] ⟨(([],me),D),eZ.symm,rfl,rfl⟩ rfl
  ·exact x7 ⟨z8 [0,1,2] [0,2,3,5] rfl,h⟩
 rw[hme]at eZ
 obtain⟨hst,hg,i0,i1⟩:=hm0 (by simpa using hme)
 obtain⟨g1,g2,g3,g4,g5,g6,g7,g8⟩:=V7 (V5 hg)
 have wM:=y0f x.g i hg i0 i1
 have hml:=z0z hg i
 have hgr:x.g.groups=1+x.g.w+2*x.g.s:=by unfold GeoV.groups;rw[hg]
 generalize q0n x.g i=at_ at wM hml eZ
 have hil:=V6 at_
 have hrs:∀ k,D.readsL at_ (k+1)=((D.readsL at_ k).1++[((D.readsL at_ k).2.read (at_.getD k 0)).1.1],((D.readsL at_ k).2.read (at_.getD k 0)).2):=fun k=>rfl
 have hro:=z5x hD at_
 have hrl:=y8m D at_
 have hrb:=y0g hD at_
 have hr0:D.readsL at_ 0=([],D):=rfl
 generalize D.readsL at_=rd at eZ hrs hro hrl hrb hr0
 refine u0 ⟨⟨88,[(0,.ref 0 0),(3,i64 i),(5,.p (.box x.pv)),(11,.ref 3 0)]⟩,Y3 D++[.cells q6k (v6r x next i at_ (.msl 4 1 0 (w9 []).length)),.row y9 1 (w9 [])]⟩ True ?_ (fun _=>?_)
 ·refine Z0 [8] [] hT u7 (by rfl) ?_
  refine⟨_,Q5 wM _ rfl rfl,?_⟩
  repeat first|refine⟨rfl,?_⟩|refine⟨⟨_,Q5 wM _ rfl rfl,rfl⟩,?_⟩
  exact⟨Wk.trans (W8 y9 1) (Wk.trans (U2 3 (v6r x next i at_ (.msl 4 1 0 0)) rfl ⟨.inl rfl,.inl rfl,.inl rfl,.inl rfl,.inl rfl,.inl rfl,.inl rfl,.inl rfl,.inl rfl,.inl rfl,.inl rfl,.inl rfl,.inl rfl,.inl rfl,.inl rfl,.inr (.inr (.inl ⟨4,1,0,rfl,rfl⟩)),trivial⟩) (z8 [0,1,2,3,4] [0,3,5,11] rfl)),trivial⟩
 refine Q4 (fun st=>∃ X F,X=(rd at_.length).1∧F=(rd at_.length).2∧st=⟨⟨88,[(3,i64 i),(5,.p (.box x.pv)),(11,.ref 3 0)]⟩,Y3 F++[.cells q6k (v6r x next i at_ (.msl 4 1 0 (w9 X).length)),.row y9 1 (w9 X)]⟩) (y6 hT ?_) ?_
 ·refine x3 ?_
  refine Q3 (fun c st=>∃ (k:Nat) (jk:Int) (X:List x9) (F:Dev),c+k=at_.length∧jk=k∧X=(rd k).1∧F=(rd k).2∧st=⟨⟨88,[(0,.ref 0 0),(3,i64 i),(5,.p (.box x.pv)),(11,.ref 3 0),(36,.p (.sl 1 (Y8 at_))),(37,i64 (Y8 at_).length),(38,i64 jk)]⟩,Y3 F++[.cells q6k (v6r x next i at_ (.msl 4 1 0 (w9 X).length)),.row y9 1 (w9 X)]⟩) at_.length ⟨⟨88,_⟩,[_,_,_,_,_]⟩ (z8 [0,1,2,3,4] [0,3,5,11,36,37,38] rfl) ⟨0,0,[],D,by omega,rfl,by rw[hr0],by rw[hr0],rfl⟩ ?_
  rintro c st ⟨k,jk,X,F,hck,hjk,hX,hF,rfl⟩
  refine y6 hT ?_
  refine u6 (y8 (u9 (fun h=>?_) (fun h=>?_)))
  ·have h:=k0z (show decide (jk<(((Y8 at_).length:Nat):Int))=true from h)
   have hk:k<at_.length:=by omega
   refine x7 ?_
   have ha:at_[k]?=some (at_.getD k 0):=by rw[k0v,k0w hk];rfl
   have hrk:=hrs k
   generalize at_.getD k 0=a at ha hrk
   have hap:(Y8 at_)[jk.toNat]?=some [.raw (.int .i64 a)]:=by rw[hjk,k0u];exact q2r ha
   have hFo:=hro k
   rw[← hF]at hFo hrk
   rw[← hX]at hrk
   have w:=y1y F a (by have:=hFo.wl;omega) (fun x hx=>by have:=hFo.ws x hx;omega) (fun c hc=>by have:=hFo.cs c hc;omega)
   generalize F.read a=Y at w hrk
   obtain⟨⟨u,f⟩,G⟩:=Y
   have w:AFm k0q 3 q6b [.ref 0 0,i64 a] (Y3 F) (Q9 (.tup [bA u,i64 f]) (Y3 G)):=w
   have hrk:rd (k+1)=(X++[u],G):=hrk
   have hXl:(w9 X).length≤24:=by rw[Y6,hX,hrl];omega
   refine Q4 (fun st=>∃ X' G',X'=(rd (k+1)).1∧G'=(rd (k+1)).2∧st=⟨⟨88,[(0,.ref 0 0),(3,i64 i),(5,.p (.box x.pv)),(11,.ref 3 0),(36,.p (.sl 1 (Y8 at_))),(37,i64 (Y8 at_).length),(38,i64 jk)]⟩,Y3 G'++[.cells q6k (v6r x next i at_ (.msl 4 1 0 (w9 X').length)),.row y9 1 (w9 X')]⟩) (x3 (y6 hT ?_)) ?_
   ·refine⟨by omega,Z2 hap ?_⟩
    refine y6 hT ?_
    refine Q1 (Z7 [0,1,2] w rfl rfl rfl) ?_
    refine y7 hT ?_
    refine⟨rfl,⟨by show ((w9 X).length+1)*24≤_;omega,by show (w9 X).length+1≤_;omega⟩,?_⟩
    refine⟨_,z8 [0,1,2,3,6] [0,3,5,11,36,37,38] rfl,X++[u],G,by rw[hrk],by rw[hrk],?_⟩
    rw[q4u];rfl
   ·rintro _ ⟨X',G',hX',hG',rfl⟩
    refine y7 hT ?_
    exact⟨c - 1,by omega,_,z8 [0,1,2,3,4] [0,3,5,11,36,37,38] rfl,k+1,IntKind.i64.wrap (jk+1),X',G',by omega,by rw[Q0 _ (by omega) (by omega)];omega,hX',hG',rfl⟩
  ·have h:=k0y (show decide (jk<(((Y8 at_).length:Nat):Int))=false from h)
   rw[show k=at_.length by omega]at hX hF
   refine Q7 ?_
   exact⟨_,z8 [0,1,2,3,4] [3,5,11] rfl,X,F,hX,hF,rfl⟩
 rintro _ ⟨S,F,hS,hF,rfl⟩
 have hSl:at_.length=S.length:=by rw[hS,hrl]
 have hSb:∀ s∈S,s.length≤1000000:=fun s hs=>by rw[hS]at hs;have:=hrb _ s hs;omega
 have eZ:Z=(q3t x next i at_ S,F):=by rw[eZ,hS,hF]
 clear hS hF hrs hro hrl hrb hr0 wm wM
 have eW:q3t x next i at_ S=match decide (i=0) with
  |true=>(V9 (fun k=>(x.sector k).1) S at_ at_.length,0)
  |false=>match decide (i≤x.g.w) with
   |true=>z0v x next (i - 1) at_ S
   |false=>q3r x (i - 1 - x.g.w) at_ S:=rfl
 generalize q3t x next i at_ S=W at eZ eW
 refine Z3 (q0b 4 3 15 _ rfl rfl rfl rfl) ?_
 refine Z3 (Z4 3 (z0a x next i at_ S) rfl rfl) ?_
 have e1:IntKind.i64.wrap (i - 1)=i - 1:=Q0 _ (by omega) (by omega)
 refine u0 ⟨⟨88,[(3,i64 i),(5,.p (.box x.pv)),(11,.p (.box (z0a x next i at_ S)))]⟩,Y3 F⟩ (¬ i=0∧¬ i≤x.g.w) (x3 (y6 hT ?_)) ?_
 ·refine y8 (u9 (fun h=>?_) (fun h=>?_))
  ·have h:(i==0)=true:=h
   rw[beq_iff_eq]at h
   rw[k1t h]at eW
   have w:=x4x x next i at_ S hSl (by omega) hSb
   rw[← show W.1=V9 (fun k=>(x.sector k).1) S at_ at_.length by rw[eW],show (0:Int)=W.2 by rw[eW]]at w
   refine y6 hT ?_
   refine Q1 (Q5 w _ rfl rfl) ?_
   refine u5 ?_
   exact x8 [0,1,2] ⟨(W,F),eZ.symm,rfl,rfl⟩ rfl
  have h:(i==0)=false:=h
  rw[beq_eq_false_iff_ne]at h
  rw[k1s h]at eW
  refine y6 hT ?_
  refine y8 (u9 (fun h2=>?_) (fun h2=>?_))
  ·have h2:=k0z (show decide (i≤x.g.w)=true from h2)
   rw[k1t h2]at eW
   have w:=w4b x next i at_ S (i - 1) hst (by omega) (by omega) (by omega) hSl (by omega) hSb
   rw[← e1,e1,show z0v x next (i - 1) at_ S=W from eW.symm,← e1]at w
   refine y6 hT ?_
   refine Q1 (Q5 w _ rfl rfl) ?_
   refine u5 ?_
   exact x8 [0,1,2] ⟨(W,F),eZ.symm,rfl,rfl⟩ rfl
  ·have h2:=k0y (show decide (i≤x.g.w)=false from h2)
   exact x7 ⟨z8 [0,1,2] [3,5,11] rfl,h,h2⟩
 rintro⟨h,h2⟩
 rw[k1s h,k1s h2]at eW
 have e2:IntKind.i64.wrap (IntKind.i64.wrap (i - 1) - x.g.w)=i - 1 - x.g.w:=by rw[e1,Q0 _ (by omega) (by omega)]
 have w:=x4z x next i at_ S (i - 1 - x.g.w) (by omega) (by omega) (by omega) hk4 hm3 hSl (by omega) hSb
 rw[show q3r x (i - 1 - x.g.w) at_ S=W from eW.symm,← e2]at w
 refine y6 hT ?_
 refine Q1 (Q5 w _ rfl rfl) ?_
 refine u5 ?_
 exact x8 [0,1,2] ⟨(W,F),eZ.symm,rfl,rfl⟩ rfl
theorem v0m (x:Sup)(next slot:Int)(at_:List Int)(S:List x9):(z0v x next slot at_ S).1.length≤at_.length:=by
 unfold z0v
 split
 ·exact q4x _ _ _ _
 ·split
  ·exact Nat.zero_le _
  ·exact q4x _ _ _ _
theorem x9v (x:Sup)(n:Int)(at_:List Int)(S:List x9):(q3r x n at_ S).1.length≤at_.length:=by
 unfold q3r
 split
 ·exact q4x _ _ _ _
 ·split
  ·exact Nat.zero_le _
  ·exact q4x _ _ _ _
theorem x1w (x:Sup)(next i:Int)(at_:List Int)(S:List x9):(q3t x next i at_ S).1.length≤at_.length:=by
 unfold q3t
 split
 ·exact q4x _ _ _ _
 ·split
  ·exact v0m _ _ _ _ _
  ·exact x9v _ _ _ _
theorem y8p (D:Dev)(x:Sup)(next i:Int):(D.want x next i).1.1.length≤24:=by
 unfold Dev.want
 split
 ·exact Nat.zero_le _
 ·rename_i h
  obtain⟨_,hg,_⟩:=v6s (D:=D) (x:=x) (next:=next) (i:=i) (by simpa using h)
  exact Nat.le_trans (x1w _ _ _ _ _) (z0z hg i)
theorem w6p {D:Dev}{n:Nat}(h:D.Ok n)(x:Sup)(next i:Int):(D.want x next i).2.Ok n:=by
 unfold Dev.want
 split
 ·exact h
 ·exact z5x h _ _
def Dev.step (D:Dev)(x:Sup)(next i:Int):(Int × Int) × Dev:=match (D.want x next i).1.2 != 0 with
 |true=>((0,(D.want x next i).1.2),(D.want x next i).2)
 |false=>match ((D.want x next i).2.all9 (D.want x next i).1.1).1 != 0 with
  |true=>((0,((D.want x next i).2.all9 (D.want x next i).1.1).1),((D.want x next i).2.all9 (D.want x next i).1.1).2)
  |false=>(((D.want x next i).1.1.length,0),((D.want x next i).2.all9 (D.want x next i).1.1).2)
theorem z8b (D:Dev)(x:Sup)(next i:Int)(hk4:x.g.k≤4)(hm3:x.g.m≤3)(n:Nat)(hD:D.Ok n)(hn:n+1000<1000000) :
 AFm k0q 1 q5f [.ref 0 0,x.av,i64 next,i64 i] (Y3 D) (Q9 (.tup [i64 (D.step x next i).1.1,i64 (D.step x next i).1.2]) (Y3 (D.step x next i).2)):=by
 refine AFm.mono (R:=fun r H'=>∃ z,z=D.step x next i∧r=.tup [i64 z.1.1,i64 z.1.2]∧H'=Y3 z.2) ?_ (by rintro r H' ⟨z,rfl,rfl,rfl⟩;exact⟨rfl,rfl⟩)
 have wW:=y8n D x next i hk4 hm3 n hD (by omega)
 have hlen:=y8p D x next i
 have hok:=w6p hD x next i
 have eZ:D.step x next i=match (D.want x next i).1.2 != 0 with
  |true=>((0,(D.want x next i).1.2),(D.want x next i).2)
  |false=>match ((D.want x next i).2.all9 (D.want x next i).1.1).1 != 0 with
   |true=>((0,((D.want x next i).2.all9 (D.want x next i).1.1).1),((D.want x next i).2.all9 (D.want x next i).1.1).2)
   |false=>(((D.want x next i).1.1.length,0),((D.want x next i).2.all9 (D.want x next i).1.1).2):=rfl
 generalize D.step x next i=Z at eZ ⊢
 generalize D.want x next i=W at wW hlen hok eZ
 obtain⟨⟨l,e⟩,E⟩:=W
 have hlen:l.length≤24:=hlen
 have wA:=y0c E l n hok (by omega)
 have hpl:=z8a l
 generalize hA:E.all9 l=A at wA
 have eZ:Z=match (generalizing:=false) e != 0 with
  |true=>((0,e),E)
  |false=>match (generalizing:=false) A.1 != 0 with
   |true=>((0,A.1),A.2)
   |false=>((l.length,0),A.2):=by rw[eZ,← hA]
 clear hA
 obtain⟨e2,G⟩:=A
 refine Z6 1 hT Tryz.func15 rfl rfl Tryz.ntmps15 rfl rfl ?_
 refine y6 hT ?_
 refine Z3 (Z4 3 x.pv rfl rfl) ?_
 refine u0 ⟨⟨32,[(0,.ref 0 0),(10,.p (.sl 2 (px l))),(11,i64 e)]⟩,Y3 E⟩ True (y7 hT ?_) (fun _=>?_)
 ·refine Q1 (Z7 [0,1,2] wW rfl rfl rfl) ?_
  exact⟨z8 [0,4,5] [0,10,11] rfl,trivial⟩
 refine u0 ⟨⟨32,[(0,.ref 0 0),(10,.p (.sl 2 (px l)))]⟩,Y3 E⟩ ((e != 0)=false) (y6 hT ?_) (fun he=>?_)
 ·refine y8 (u9 (fun h=>?_) (fun h=>?_))
  ·have h:(e != 0)=true:=h
   rw[h]at eZ
   refine y6 hT ?_
   refine u5 ?_
   exact x8 [0,1,2] ⟨((0,e),E),eZ.symm,rfl,rfl⟩ rfl
  ·exact x7 ⟨z8 [0,1,2] [0,10] rfl,h⟩
 rw[he]at eZ
 refine u0 ⟨⟨32,[(10,.p (.sl 2 (px l)))]⟩,Y3 G⟩ ((e2 != 0)=false) (y6 hT ?_) (fun he2=>?_)
 ·refine Q1 (Z7 [0,1,2] wA rfl rfl rfl) ?_
  refine y6 hT ?_
  refine y8 (u9 (fun h=>?_) (fun h=>?_))
  ·have h:(e2 != 0)=true:=h
   have eZ:Z=((0,e2),G):=by rw[eZ];show (match e2 != 0 with|true=>((0,e2),G)|false=>(((l.length:Int),0),G))=_;rw[h]
   refine y6 hT ?_
   refine u5 ?_
   exact x8 [0,3,4] ⟨((0,e2),G),eZ.symm,rfl,rfl⟩ rfl
  ·exact x7 ⟨z8 [0,3,4] [10] rfl,h⟩
 have eZ:Z=(((((px l).length:Nat):Int),0),G):=by rw[eZ,hpl];show (match e2 != 0 with|true=>((0,e2),G)|false=>(((l.length:Int),0),G))=_;rw[he2]
 refine y6 hT ?_
 refine u5 ?_
 exact x8 [0,1,2] ⟨_,eZ.symm,rfl,rfl⟩ rfl
def v9g:Go.Shelf.Ren:=⟨fun|189=>54|125=>102|257=>101|128=>156|129=>157|294=>147|295=>148|296=>149|297=>150|298=>151|299=>152|216=>153|300=>154|301=>155|328=>189|329=>190|330=>191|331=>192|332=>193|215=>194|343=>220|n=>n,fun|28=>35|3=>3|46=>150|0=>0|51=>195|53=>197|4=>4|183=>188|182=>187|131=>139|5=>5|9=>9|218=>222|222=>158|228=>251|229=>247|n=>n,fun|n=>n⟩
theorem x9w:Go.Proofs.Lays.n189 k0q v9g:={
 mixed:=by kernel_rfl
 f125:=Tryz.func102.trans (congrArg some (by kernel_rfl))
 f128:=Tryz.func156.trans (congrArg some (by kernel_rfl))
 f129:=Tryz.func157.trans (congrArg some (by kernel_rfl))
 f189:=Tryz.func54.trans (congrArg some (by kernel_rfl))
 f215:=Tryz.func194.trans (congrArg some (by kernel_rfl))
 f216:=Tryz.func153.trans (congrArg some (by kernel_rfl))
 f257:=Tryz.func101.trans (congrArg some (by kernel_rfl))
 f294:=Tryz.func147.trans (congrArg some (by kernel_rfl))
 f295:=Tryz.func148.trans (congrArg some (by kernel_rfl))
 f296:=Tryz.func149.trans (congrArg some (by kernel_rfl))
 f297:=Tryz.func150.trans (congrArg some (by kernel_rfl))
 f298:=Tryz.func151.trans (congrArg some (by kernel_rfl))
 f299:=Tryz.func152.trans (congrArg some (by kernel_rfl))
 f300:=Tryz.func154.trans (congrArg some (by kernel_rfl))
 f301:=Tryz.func155.trans (congrArg some (by kernel_rfl))
 f328:=Tryz.func189.trans (congrArg some (by kernel_rfl))
 f329:=Tryz.func190.trans (congrArg some (by kernel_rfl))
 f330:=Tryz.func191.trans (congrArg some (by kernel_rfl))
 f331:=Tryz.func192.trans (congrArg some (by kernel_rfl))
 f332:=Tryz.func193.trans (congrArg some (by kernel_rfl))
 f343:=Tryz.func220.trans (congrArg some (by kernel_rfl))
 t0:=Tryz.underlying0
 a0:=Tryz.isAgg0
 z0:=Tryz.sizeOf0
 v0:=Tryz.zeroValue0
 t3:=Tryz.underlying3
 a3:=Tryz.isAgg3
 z3:=Tryz.sizeOf3
 v3:=Tryz.zeroValue3
 t4:=Tryz.underlying4
 a4:=Tryz.isAgg4
 z4:=Tryz.sizeOf4
 v4:=Tryz.zeroValue4
 t5:=Tryz.underlying5
 a5:=Tryz.isAgg5
 z5:=Tryz.sizeOf5
 v5:=Tryz.zeroValue5
 t9:=Tryz.underlying9
 a9:=Tryz.isAgg9
 z9:=Tryz.sizeOf9
 v9:=Tryz.zeroValue9
 t28:=Tryz.underlying35
 a28:=Tryz.isAgg35
 z28:=Tryz.sizeOf35
 v28:=Tryz.zeroValue35
 t46:=Tryz.underlying150
 a46:=Tryz.isAgg150
 z46:=Tryz.sizeOf150
 v46:=Tryz.zeroValue150
 t51:=Tryz.underlying195
 a51:=Tryz.isAgg195
 z51:=Tryz.sizeOf195
 v51:=Tryz.zeroValue195
 t53:=Tryz.underlying197
 a53:=Tryz.isAgg197
 z53:=Tryz.sizeOf197
 v53:=Tryz.zeroValue197
 t131:=Tryz.underlying139
 a131:=Tryz.isAgg139
 z131:=Tryz.sizeOf139
 v131:=Tryz.zeroValue139
 t182:=Tryz.underlying187
 a182:=Tryz.isAgg187
 z182:=Tryz.sizeOf187
 v182:=Tryz.zeroValue187
 t183:=Tryz.underlying188
 a183:=Tryz.isAgg188
 z183:=Tryz.sizeOf188
 v183:=Tryz.zeroValue188
 t218:=Tryz.underlying222
 a218:=Tryz.isAgg222
 z218:=Tryz.sizeOf222
 v218:=Tryz.zeroValue222
 t222:=Tryz.underlying158
 a222:=Tryz.isAgg158
 z222:=Tryz.sizeOf158
 v222:=Tryz.zeroValue158
 t228:=Tryz.underlying251
 a228:=Tryz.isAgg251
 z228:=Tryz.sizeOf251
 v228:=Tryz.zeroValue251
 t229:=Tryz.underlying247
 a229:=Tryz.isAgg247
 z229:=Tryz.sizeOf247
 v229:=Tryz.zeroValue247 }
theorem v0n (blk off cap:Nat)(zs:List Int)(w:World)(hH:Go.Sort.Holds (Value.int .i64) w blk off zs.toArray)(hblk:blk<w.heap.size)(hsz:zs.length<4611686018427387904) :
 Calls k0q q2u #[.slice (some ⟨blk,off,none⟩) zs.length cap] w fun e w'=>
  e=.returned (.tuple #[])∧∃ n os,w'=Go.Sort.grow (Go.Sort.putRow (Value.int .i64) (Go.Sort.ahead w n) blk off (zs.mergeSort fun x y=>decide (x≤y)).toArray) os:=Any.slices_Sort_int x9w blk off cap zs w hH hblk hsz
theorem v0p (p:Option Addr)(cap:Nat)(w:World) :
 Calls k0q q2u #[.slice p 0 cap] w fun e w'=>e=.returned (.tuple #[])∧w'=w:=Any.slices_Sort_int_none x9w p cap w
def q4y (l:List Int):List Int:=l.mergeSort fun x y=>decide (x≤y)
theorem y2m (l:List Int):(q4y l).length=l.length:=List.length_mergeSort l
theorem w4d (l:List Int):(q4y l).Perm l:=List.mergeSort_perm l _
theorem SimH.grown {w:World}{I:Nat→Prop}{ι:Nat→Option Nat}{H:List ABlk}(hs:SimH w I ι H)(os:Array Obj) :
 SimH (Go.Sort.grow w os) I ι H∧Ex H.length w I ι H (Go.Sort.grow w os) I ι H:=by
 have old:∀ B,B<w.heap.size→(Go.Sort.grow w os).heap[B]?=w.heap[B]?:=fun B hB=>Go.Sort.heap_grow_old w os hB
 have lt:∀ {B:Nat} {o:Obj},w.heap[B]?=some o→B<w.heap.size:=fun h=>(Array.getElem?_eq_some_iff.1 h).1
 have hI:∀ B,I B→(Go.Sort.grow w os).heap[B]?=w.heap[B]?:=fun B hB=>old B (hs.Ilt B hB)
 have hsh:Shape w (Go.Sort.grow w os):=fun B cs t fr h=>⟨cs,by rw[old B (lt h)];exact h,rfl⟩
 have hsz:w.heap.size≤(Go.Sort.grow w os).heap.size:=by rw[Go.Sort.size_grow];omega
 refine⟨⟨?_,hs.inj,fun B hB=>Nat.lt_of_lt_of_le (hs.Ilt B hB) hsz,hs.dom,fun b B hb=>Nat.lt_of_lt_of_le (hs.rng b B hb) hsz⟩,⟨rfl,rfl,rfl,hsz,hsh,fun _ h=>h,fun B hB _=>old B hB,fun B hB=>.inl hB,fun b B hb h=>.inr ⟨b,hb,h⟩⟩,fun _ _=>rfl,k1v _⟩
 intro c kc hc
 have h2:=hs.blk c kc hc
 cases kc with
 |dead=>trivial
 |cells t l=>
  obtain⟨C,ds,g1,g2,g3,g4,g5⟩:=h2
  exact⟨C,ds,g1,by rw[old C (lt g2)];exact g2,g3,g4,fun i u hu=>(g5 i u hu).move hI (fun _ h=>h) (fun _ _ h=>h) hsh⟩
 |lp q st pe l=>
  obtain⟨C,ds,g1,g2,g3,g4,g5⟩:=h2
  exact⟨C,ds,g1,by rw[old C (lt g2)];exact g2,g3,g4,fun i u hu=>(g5 i u hu).move hI (fun _ h=>h) (fun _ _ h=>h) hsh⟩
 |row t sz xs=>
  rcases h2 with g0|⟨C,ds,g1,g2,g3,g4,g5,g6⟩
  ·exact .inl g0
  ·exact .inr ⟨C,ds,g1,by rw[old C (lt g2)];exact g2,g3,g4,g5,fun j e hj=>⟨(g6 j e hj).1,fun i u hu=>((g6 j e hj).2 i u hu).move hI (fun _ h=>h)⟩⟩
 |obj o=>
  obtain⟨g0,C,g1,g2,g3⟩:=h2
  exact⟨g0,C,g1,by rw[old C (lt g2)];exact g2,g3⟩
theorem x9x (t:TypeId)(l:List Int)(hl:l.length<1000000) :
 AF k0q q2u [.msl 0 1 0 l.length] [.row t 1 (Y8 l)] (Q9 (.tup []) [.row t 1 (Y8 (q4y l))]):=by
 refine⟨⟨_,Tryz.func54,rfl,rfl⟩,fun w I ι vals hn ha hs=>?_⟩
 obtain⟨v,rfl⟩:∃ v,vals = #[v]:=by
  rcases vals with ⟨_|⟨v,_|⟨_,_⟩⟩⟩
  ·simp at hn
  ·exact⟨v,rfl⟩
  ·simp at hn
 have hv:ARep w I ι (.msl 0 1 0 l.length) v:=ha 0 _ rfl
 rcases l with _|⟨a,l⟩
 ·rw[show q4y []=[] from by simp[q4y]]
  have:∃ p c,v=.slice p 0 c:=by
   cases hv with
   |msl b sz off len B c h hc hs=>exact⟨_,_,rfl⟩
   |msl0 b sz off A=>exact⟨_,_,rfl⟩
  obtain⟨p,c,rfl⟩:=this
  refine(v0p p c w).mono ?_
  rintro e w' ⟨rfl,rfl⟩
  exact⟨_,_,_,I,ι,rfl,⟨rfl,rfl⟩,.tup [] #[] rfl (fun i u h=>by simp at h),hs,Ex.refl (k1v _)⟩
 generalize hz:a :: l=z at hl hv hs ⊢
 have hz0:z≠[]:=by rw[← hz];simp
 have hzl:0<z.length:=List.length_pos_iff.2 hz0
 obtain⟨c,B,cs,h1,h2,h3,h4,h5,h6,rfl⟩:∃ c B cs,ι 0=some B∧w.heap[B]?=some (.cells cs t (0,0))∧¬ I B∧(Y8 z).length*1≤cs.size∧(Y8 z).length≤140737488355328 ∧
  (∀ j e,(Y8 z)[j]?=some e→e.length=1∧∀ i u,e[i]?=some u→PRep w I u (cs.getD (j*1+i) undef))∧v=.slice (some ⟨B,0,none⟩) z.length c:=by
  rcases hs.blk 0 _ rfl with ⟨g,_⟩|⟨B,cs,g1,g2,g3,g4,g5,g6⟩
  ·exact absurd (by simpa [Y8] using g) hz0
  ·generalize hm:z.length=m at hv hzl
   cases hv with
   |msl b sz off len B' c h hc hs=>
    rw[g1]at h;obtain rfl:=k0x h
    exact⟨c,B,cs,g1,g2,g3,g4,g5,g6,rfl⟩
   |msl0 b sz off A=>omega
 have hil:(Y8 z).length=z.length:=V6 z
 rw[hil,Nat.mul_one]at h4
 have hB:B<w.heap.size:=(Array.getElem?_eq_some_iff.1 h2).1
 have hc:∀ j,(hj:j<z.length)→cs[j]?=some (.int .i64 z[j]):=fun j hj=>by
  have hx:(Y8 z)[j]?=some [.raw (.int .i64 z[j])]:=q2r (k0w hj)
  have:=(h6 j _ hx).2 0 _ rfl
  rw[Nat.mul_one,Nat.add_zero,k2q]at this
  have hjs:j<cs.size:=by omega
  rw[Array.getElem?_eq_getElem hjs]at this ⊢
  generalize cs[j]=v at this ⊢
  cases this
  rfl
 have hH:Go.Sort.Holds (Value.int .i64) w B 0 z.toArray:=fun j hj=>by
  have hj:j<z.length:=by simpa using hj
  refine⟨?_,?_⟩
  ·unfold World.cell?
   simp only[h2,Nat.zero_add]
   rw[hc j hj]
   simp[hj]
  ·unfold World.frozen?
   simp only[h2]
   simp
 refine(v0n B 0 c z w hH hB (by omega)).mono ?_
 rintro e w' ⟨rfl,n,os,rfl⟩
 have hsl:(q4y z).length=z.length:=y2m z
 show ∃ v r H' I' ι',_∧_∧ARep (Go.Sort.grow (Go.Sort.putRow (Value.int .i64) (Go.Sort.ahead w n) B 0 (q4y z).toArray) os) I' ι' r v∧SimH (Go.Sort.grow (Go.Sort.putRow (Value.int .i64) (Go.Sort.ahead w n) B 0 (q4y z).toArray) os) I' ι' H'∧Ex _ w I ι _ (Go.Sort.grow (Go.Sort.putRow (Value.int .i64) (Go.Sort.ahead w n) B 0 (q4y z).toArray) os) I' ι' H'
 generalize hs1:q4y z=y at hsl
 have hwr:Wrote w (Go.Sort.putRow (Value.int .i64) (Go.Sort.ahead w n) B 0 y.toArray) B:=by
  refine⟨rfl,rfl,rfl,by simp[Go.Sort.putRow,Go.Sort.mapBlock,Go.Sort.ahead],fun k hk=>?_⟩
  simp only[Go.Sort.putRow,Go.Sort.mapBlock,Go.Sort.ahead,Array.getElem?_modify]
  rw[if_neg (Ne.symm hk)]
 have hnew:(Go.Sort.putRow (Value.int .i64) (Go.Sort.ahead w n) B 0 y.toArray).heap[B]?=some (.cells (Go.Sort.putCells (Value.int .i64) 0 y.toArray cs) t (0,0)):=by
  simp only[Go.Sort.putRow,Go.Sort.mapBlock,Go.Sort.ahead,Array.getElem?_modify,if_true,h2]
  rfl
 have hsz:(Go.Sort.putCells (Value.int .i64) 0 y.toArray cs).size=cs.size:=by simp[Go.Sort.putCells]
 obtain⟨k1,k2⟩:=hwr.sim hs ⟨_,rfl,rfl⟩ h1 h2 hnew hsz (.row t 1 (Y8 y)) (.inr ⟨B,_,h1,hnew,h3,by rw[hsz,V6,hsl,Nat.mul_one];exact h4,by rw[V6,hsl];omega,fun j e hj=>by
  have hjl:j<y.length:=by have:=(k0t.1 hj).1;rw[V6]at this;exact this
  have hx:(Y8 y)[j]?=some [.raw (.int .i64 y[j])]:=q2r (k0w hjl)
  rw[hx]at hj;obtain rfl:=k0x hj
  refine⟨rfl,fun i u hu=>?_⟩
  have hi:i=0:=by have:=(k0t.1 hu).1;simp at this;exact this
  subst hi
  obtain rfl:=k0x (show some (PV.raw (.int .i64 y[j]))=some u from hu)
  have:(Go.Sort.putCells (Value.int .i64) 0 y.toArray cs).getD (j*1+0) undef=.int .i64 y[j]:=by
   rw[Nat.mul_one,Nat.add_zero,k2q]
   have hjs:j<cs.size:=by omega
   rw[Array.getElem?_eq_getElem (by rw[hsz];exact hjs)]
   simp only[Go.Sort.putCells,Array.getElem_mapIdx,Nat.zero_le,true_and,Nat.zero_add,List.size_toArray,hjl,if_true,Nat.sub_zero,Option.getD_some]
   simp[hjl]
  rw[this]
  exact .raw _ rfl⟩)
 obtain⟨k3,k4⟩:=k1.grown os
 exact⟨_,_,_,I,ι,rfl,⟨rfl,rfl⟩,.tup [] #[] rfl (fun i u h=>by simp at h),k3,k2.trans k4⟩
theorem y8q (l r:List Int):Y8 (l++r)=Y8 l++Y8 r:=List.map_append
def Dev.hurtG (D:Dev)(x:Sup)(next:Int):Nat→List Int × Dev
 |0=>([],D)
 |k+1=>((D.hurtG x next k).1++(cond (((D.hurtG x next k).2.want x next k).1.2 != 0) (q0n x.g k) []++((D.hurtG x next k).2.want x next k).1.1.map (·.at_)),((D.hurtG x next k).2.want x next k).2)
def Dev.hurts (D:Dev)(x:Sup)(next:Int):(List Int × Int) × Dev:=match z0y D x next 0 != 0 with
 |true=>(([],z0y D x next 0),D)
 |false=>((q4y (D.hurtG x next x.g.groups.toNat).1,0),(D.hurtG x next x.g.groups.toNat).2)
theorem x9y {D:Dev}{n:Nat}(h:D.Ok n)(x:Sup)(next:Int):∀ k,(D.hurtG x next k).2.Ok n
 |0=>h
 |k+1=>w6p (x9y h x next k) x next k
theorem x1x (D:Dev)(x:Sup)(next:Int)(hg:x.g.may=true):∀ k,(D.hurtG x next k).1.length≤48*k
 |0=>k1v _
 |k+1=>by
  have h:=x1x D x next hg k
  have h1:=z0z hg (k:Int)
  have h2:=y8p (D.hurtG x next k).2 x next k
  have h3:(cond (((D.hurtG x next k).2.want x next k).1.2 != 0) (q0n x.g k) []).length≤24:=by
   cases ((D.hurtG x next k).2.want x next k).1.2 != 0 with
   |true=>exact h1
   |false=>exact Nat.zero_le _
  show ((D.hurtG x next k).1++(cond _ _ _++_)).length≤_
  rw[k1y,k1y,k1x]
  omega
theorem y8r (D:Dev)(x:Sup)(next:Int)(hk4:x.g.k≤4)(hm3:x.g.m≤3)(n:Nat)(hD:D.Ok n)(hn:n≤1000000) :
 AFm k0q 1 z1n [.ref 0 0,x.av,i64 next] (Y3 D) (Q9 (.tup [.p (.sl 1 (Y8 (D.hurts x next).1.1)),i64 (D.hurts x next).1.2]) (Y3 (D.hurts x next).2)):=by
 refine AFm.mono (R:=fun r H'=>∃ z,z=D.hurts x next∧r=.tup [.p (.sl 1 (Y8 z.1.1)),i64 z.1.2]∧H'=Y3 z.2) ?_ (by rintro r H' ⟨z,rfl,rfl,rfl⟩;exact⟨rfl,rfl⟩)
 have wm:=x1v D x next 0
 have hm0:=v6s (D:=D) (x:=x) (next:=next) (i:=0)
 have eZ:D.hurts x next=match z0y D x next 0 != 0 with
  |true=>(([],z0y D x next 0),D)
  |false=>((q4y (D.hurtG x next x.g.groups.toNat).1,0),(D.hurtG x next x.g.groups.toNat).2):=rfl
 generalize D.hurts x next=Z at eZ ⊢
 generalize z0y D x next 0=me at wm hm0 eZ
 refine Z6 1 hT Tryz.func24 rfl rfl Tryz.ntmps24 rfl rfl ?_
 refine y6 hT ?_
 refine Z3 (Z4 3 x.pv rfl rfl) ?_
 refine u0 ⟨⟨60,[(0,.ref 0 0),(2,i64 next),(4,.p (.box x.pv))]⟩,Y3 D⟩ ((me != 0)=false) (y6 hT ?_) (fun hme=>?_)
 ·refine Q1 (Z7 [0,1,2] wm rfl rfl rfl) ?_
  refine y6 hT ?_
  refine y8 (u9 (fun h=>?_) (fun h=>?_))
  ·have h:(me != 0)=true:=h
   rw[h]at eZ
   refine y6 hT ?_
   refine Z3 (q0a 6 1 rfl) ?_
   refine u5 ?_
   exact x8 [0,1,2] ⟨(([],me),D),eZ.symm,rfl,rfl⟩ rfl
  ·exact x7 ⟨z8 [0,1,2] [0,2,4] rfl,h⟩
 rw[hme]at eZ
 obtain⟨hst,hg,_,_⟩:=hm0 (by simpa using hme)
 clear hm0 wm
 obtain⟨g1,g2,g3,g4,g5,g6,g7,g8⟩:=V7 (V5 hg)
 have hgr:x.g.groups=1+x.g.w+2*x.g.s:=by unfold GeoV.groups;rw[hg]
 have wG:=z2e x.g
 have hro:=x9y hD x next
 have hrl:=x1x D x next hg
 have hrs:∀ k,D.hurtG x next (k+1)=((D.hurtG x next k).1++(cond (((D.hurtG x next k).2.want x next k).1.2 != 0) (q0n x.g k) []++((D.hurtG x next k).2.want x next k).1.1.map (·.at_)),((D.hurtG x next k).2.want x next k).2):=fun k=>rfl
 have hr0:D.hurtG x next 0=([],D):=rfl
 generalize D.hurtG x next=rd at eZ hrs hro hrl hr0
 generalize hG:x.g.groups.toNat=G at eZ
 have hG2:x.g.groups=G:=by omega
 have hG3:G≤577:=by omega
 rw[hG2]at wG
 refine u0 ⟨⟨60,[(0,.ref 0 0),(2,i64 next),(4,.p (.box x.pv)),(9,.msl 3 1 0 (Y8 []).length)]⟩,Y3 D++[.row V1 1 (Y8 [])]⟩ True (y7 hT ?_) (fun _=>?_)
 ·exact⟨Wk.trans (W8 V1 1) (Wk.trans (q3u 9 3 1 0 rfl) (z8 [0,1,2,3] [0,2,4,9] rfl)),trivial⟩
 refine Q4 (fun st=>∃ X F,X=(rd G).1∧F=(rd G).2∧st=⟨⟨60,[(9,.msl 3 1 0 (Y8 X).length)]⟩,Y3 F++[.row V1 1 (Y8 X)]⟩) (y6 hT ?_) ?_
 ·refine Q1 (Q5 wG _ rfl rfl) ?_
  refine x3 ?_
  refine Q3 (fun c st=>∃ (k:Nat) (jk:Int) (X:List Int) (F:Dev),c+k=G∧jk=k∧X=(rd k).1∧F=(rd k).2∧st=⟨⟨60,[(0,.ref 0 0),(2,i64 next),(4,.p (.box x.pv)),(9,.msl 3 1 0 (Y8 X).length),(24,i64 G),(25,i64 jk)]⟩,Y3 F++[.row V1 1 (Y8 X)]⟩) G ⟨⟨60,_⟩,[_,_,_,_]⟩ (z8 [0,1,2,3] [0,2,4,9,24,25] rfl) ⟨0,0,[],D,by omega,rfl,by rw[hr0],by rw[hr0],rfl⟩ ?_
  rintro c st ⟨k,jk,X,F,hck,hjk,hX,hF,rfl⟩
  refine y6 hT ?_
  refine u6 (y8 (u9 (fun h=>?_) (fun h=>?_)))
  ·have h:=k0z (show decide (jk<((G:Nat):Int))=true from h)
   have hk:k<G:=by omega
   refine x7 ?_
   have hrk:=hrs k
   have wM:=y0f x.g jk hg (by omega) (by omega)
   have hml:=z0z hg jk
   have hFo:=hro k
   have hXl:=hrl k
   rw[← hX]at hrk hXl
   rw[← hF,← hjk]at hrk
   rw[← hF]at hFo
   have wW:=y8n F x next jk hk4 hm3 n hFo hn
   have hwl:=y8p F x next jk
   generalize F.want x next jk=W at wW hwl hrk
   obtain⟨⟨l,e⟩,E⟩:=W
   have wW:AFm k0q 1 z8x [.ref 0 0,x.av,i64 next,i64 jk] (Y3 F) (Q9 (.tup [.p (.sl 2 (px l)),i64 e]) (Y3 E)):=wW
   have hwl:l.length≤24:=hwl
   have hrk:rd (k+1)=(X++(cond (e != 0) (q0n x.g jk) []++l.map (·.at_)),E):=hrk
   generalize q0n x.g jk=at_ at wM hml hrk
   refine Q4 (fun st=>∃ X' E',X'=(rd (k+1)).1∧E'=(rd (k+1)).2∧st=⟨⟨60,[(0,.ref 0 0),(2,i64 next),(4,.p (.box x.pv)),(9,.msl 3 1 0 (Y8 X').length),(24,i64 G),(25,i64 jk)]⟩,Y3 E'++[.row V1 1 (Y8 X')]⟩) (x3 (y6 hT ?_)) ?_
   ·refine u0 ⟨⟨60,[(0,.ref 0 0),(2,i64 next),(4,.p (.box x.pv)),(9,.msl 3 1 0 (Y8 X).length),(10,i64 jk),(11,.p (.sl 2 (px l))),(12,i64 e),(24,i64 G),(25,i64 jk)]⟩,Y3 E++[.row V1 1 (Y8 X)]⟩ True (y7 hT ?_) (fun _=>?_)
    ·refine Q1 (Z7 [0,1,2] wW rfl rfl rfl) ?_
     exact⟨z8 [0,4,5,3] [0,2,4,9,10,11,12,24,25] rfl,trivial⟩
    refine Q4 (fun st=>∃ Y,Y=X++cond (e != 0) at_ []∧st=⟨⟨60,[(0,.ref 0 0),(2,i64 next),(4,.p (.box x.pv)),(9,.msl 3 1 0 (Y8 Y).length),(11,.p (.sl 2 (px l))),(24,i64 G),(25,i64 jk)]⟩,Y3 E++[.row V1 1 (Y8 Y)]⟩) (y6 hT ?_) ?_
    ·refine y8 (u9 (fun h=>?_) (fun h=>?_))
     ·have h:(e != 0)=true:=h
      rw[h]
      refine y7 hT ?_
      refine Q1 (Q5 wM _ rfl rfl) ?_
      refine⟨rfl,⟨by show ((Y8 X).length+(Y8 at_).length)*8≤_;rw[V6,V6];omega,by show (Y8 X).length+(Y8 at_).length≤_;rw[V6,V6];omega⟩,?_⟩
      refine⟨_,z8 [0,1,2,4] [0,2,4,9,11,24,25] rfl,X++at_,rfl,?_⟩
      rw[y8q];rfl
     ·have h:(e != 0)=false:=h
      rw[h]
      exact x7 ⟨_,z8 [0,1,2,3] [0,2,4,9,11,24,25] rfl,X,(List.append_nil X).symm,rfl⟩
    rintro _ ⟨Y,hY,rfl⟩
    have hYl:Y.length≤48*k+24:=by
     rw[hY,k1y]
     cases e != 0 with
     |true=>exact Nat.add_le_add hXl hml
     |false=>exact Nat.le_trans (by simpa using hXl) (Nat.le_add_right _ _)
    have eE:rd (k+1)=(Y++l.map (·.at_),E):=by rw[hrk,hY,List.append_assoc]
    refine y6 hT ?_
    refine x3 ?_
    refine Q3 (fun c2 st=>∃ (k2:Nat) (j2:Int) (V:List Int),c2+k2=l.length∧j2=k2∧V=Y++(l.take k2).map (·.at_)∧st=⟨⟨60,[(0,.ref 0 0),(2,i64 next),(4,.p (.box x.pv)),(9,.msl 3 1 0 (Y8 V).length),(24,i64 G),(25,i64 jk),(44,.p (.sl 2 (px l))),(45,i64 (px l).length),(46,i64 j2)]⟩,Y3 E++[.row V1 1 (Y8 V)]⟩) l.length ⟨⟨60,_⟩,[_,_,_,_]⟩ (z8 [0,1,2,3] [0,2,4,9,24,25,44,45,46] rfl) ⟨0,0,Y,by omega,rfl,by simp,rfl⟩ ?_
    rintro c2 st ⟨k2,j2,V,hck2,hj2,hV,rfl⟩
    have hpl:=z8a l
    refine y6 hT ?_
    refine u6 (y8 (u9 (fun h=>?_) (fun h=>?_)))
    ·have h:=k0z (show decide (j2<(((px l).length:Nat):Int))=true from h)
     have hk2:k2<l.length:=by omega
     refine x7 ?_
     obtain⟨p,hp⟩:∃ p,l[k2]?=some p:=⟨_,k0w hk2⟩
     have hpp:(px l)[j2.toNat]?=some [.raw (.int .i64 p.at_),bP p.s]:=by rw[hj2,k0u];exact v6d hp
     have hVl:V.length≤48*k+48:=by rw[hV,k1y,k1x,k2u];omega
     have hVn:V++[p.at_]=Y++(l.take (k2+1)).map (·.at_):=by rw[hV,k2t,hp,List.map_append,List.append_assoc];rfl
     generalize p.at_=a at hpp hVn
     generalize p.s=u at hpp
     refine u0 ⟨⟨60,[(0,.ref 0 0),(2,i64 next),(4,.p (.box x.pv)),(9,.msl 3 1 0 (Y8 (V++[a])).length),(24,i64 G),(25,i64 jk),(44,.p (.sl 2 (px l))),(45,i64 (px l).length),(46,i64 j2)]⟩,Y3 E++[.row V1 1 (Y8 (V++[a]))]⟩ True (x3 (y6 hT ?_)) (fun _=>?_)
     ·refine⟨by omega,Z2 hpp ?_⟩
      refine y7 hT ?_
      refine⟨rfl,⟨by show ((Y8 V).length+1)*8≤_;rw[V6];omega,by show (Y8 V).length+1≤_;rw[V6];omega⟩,?_⟩
      rw[y8q]
      exact⟨z8 [0,1,2,6] [0,2,4,9,24,25,44,45,46] rfl,trivial⟩
     ·refine y7 hT ?_
      exact⟨c2 - 1,by omega,_,z8 [0,1,2,3] [0,2,4,9,24,25,44,45,46] rfl,k2+1,IntKind.i64.wrap (j2+1),V++[a],by omega,by rw[Q0 _ (by omega) (by omega)];omega,hVn,rfl⟩
    ·have h:=k0y (show decide (j2<(((px l).length:Nat):Int))=false from h)
     refine Q7 ?_
     exact⟨_,z8 [0,1,2,3] [0,2,4,9,24,25] rfl,V,E,by rw[eE,hV,show k2=l.length by omega,List.take_length],by rw[eE],rfl⟩
   ·rintro _ ⟨X',E',hX',hE',rfl⟩
    refine y7 hT ?_
    exact⟨c - 1,by omega,_,z8 [0,1,2,3] [0,2,4,9,24,25] rfl,k+1,IntKind.i64.wrap (jk+1),X',E',by omega,by rw[Q0 _ (by omega) (by omega)];omega,hX',hE',rfl⟩
  ·have h:=k0y (show decide (jk<((G:Nat):Int))=false from h)
   rw[show k=G by omega]at hX hF
   refine Q7 ?_
   exact⟨_,z8 [0,1,2,3] [9] rfl,X,F,hX,hF,rfl⟩
 rintro _ ⟨X,F,hX,hF,rfl⟩
 have hXl:=hrl G
 rw[← hX]at hXl
 have wS:AFm k0q 1 q2u [.msl 0 1 0 X.length] [.row V1 1 (Y8 X)] (Q9 (.tup []) [.row V1 1 (Y8 (q4y X))]):=x9x V1 X (by omega)
 rw[← V6 X]at wS
 have eZ:Z=((q4y X,0),F):=by rw[eZ,hX,hF]
 have hsl:(Y8 X).length=(Y8 (q4y X)).length:=by rw[V6,V6,y2m]
 generalize q4y X=Y at wS eZ hsl
 refine y6 hT ?_
 refine Q1 (Z7 [3] wS rfl rfl rfl) ?_
 refine Z3 (z1w 9 3 1 _ rfl hsl rfl rfl) ?_
 refine y6 hT ?_
 refine u5 ?_
 exact x8 [0,1,2] ⟨((Y,0),F),eZ.symm,rfl,rfl⟩ rfl
def GeoV.own (g:GeoV):List Int:=z7z g.w.toNat (g.k+g.m).toNat (2*g.s.toNat)
theorem v9h {g:GeoV}(hg:g.may=true):(g.own.length:Int)=4+2*g.w+2*g.s*(g.k+g.m)∧g.own.length≤4096:=by
 obtain⟨h1,h2,h3,h4,h5,h6,h7,h8⟩:=V7 (V5 hg)
 unfold GeoV.own
 rw[z4s]
 have e:((2*g.s.toNat*(g.k+g.m).toNat:Nat):Int)=2*g.s*(g.k+g.m):=by
  rw[Int.natCast_mul,Int.natCast_mul,Int.toNat_of_nonneg (by omega),Int.toNat_of_nonneg (by omega)];rfl
 unfold GeoV.may at hg
 rw[k1u,decide_eq_true_eq]at hg
 omega
theorem y9v (g:GeoV)(hg:g.may=true):AF k0q z3v [g.av] [] (Q9 (.p (.sl 1 (Y8 g.own))) []):=by
 obtain⟨h1,h2,h3,h4,h5,h6,h7,h8⟩:=V7 (V5 hg)
 have w:=x4u g hg g.w.toNat g.s.toNat (g.k+g.m).toNat (by omega) (by omega) (by omega)
 exact z3q (t:=V1) (sz:=1) w rfl
theorem z2i (g:GeoV):AF k0q y5v [g.av] [] (Q9 (i64 g.groups) []):=by
 have wm:=z5p g
 have eG:g.groups=match g.may with|true=>1+g.w+2*g.s|false=>0:=rfl
 refine AF.mono (R:=fun r H'=>∃ z,z=g.groups∧r=i64 z∧H'=[]) ?_ (by rintro r H' ⟨z,rfl,rfl,rfl⟩;exact⟨rfl,rfl⟩)
 refine Q8 hT Tryz.func10 rfl rfl Tryz.ntmps10 rfl ?_
 refine y6 hT ?_
 refine Z3 (Z4 0 g.pv rfl rfl) ?_
 refine y6 hT ?_
 refine Q1 (Q5 wm _ rfl rfl) ?_
 refine u6 (y6 hT ?_)
 refine y8 (u9 (fun h=>?_) (fun h=>?_))
 ·have h:(!g.may)=true:=h
  rw[Bool.not_eq_true']at h
  rw[h]at eG
  refine y6 hT ?_
  refine u5 ?_
  exact x8 [] ⟨0,eG.symm,rfl,rfl⟩ rfl
 ·have h:(!g.may)=false:=h
  rw[Bool.not_eq_false']at h
  rw[h]at eG
  obtain⟨h1,h2,h3,h4,_⟩:=V7 (V5 h)
  refine x7 ?_
  refine y6 hT ?_
  refine u5 ?_
  exact x8 [] ⟨IntKind.i64.wrap (IntKind.i64.wrap (1+g.w)+IntKind.i64.wrap (2*g.s)),by rw[eG,Q0 (1+g.w) (by omega) (by omega),Q0 (2*g.s) (by omega) (by omega),Q0 _ (by omega) (by omega)],rfl,rfl⟩ rfl
def GeoV.bears (g:GeoV)(i:Int):Int:=match decide (i<0)||decide (i≥g.groups) with
 |true=>0
 |false=>match decide (i=0) with
  |true=>3
  |false=>match decide (i≤g.w) with|true=>1|false=>g.m
theorem x9z (g:GeoV)(i:Int):AF k0q y9c [g.av,i64 i] [] (Q9 (i64 (g.bears i)) []):=by
 have wG:=z2i g
 have eB:g.bears i=match decide (i<0)||decide (i≥g.groups) with
  |true=>0
  |false=>match decide (i=0) with
   |true=>3
   |false=>match decide (i≤g.w) with|true=>1|false=>g.m:=rfl
 refine AF.mono (R:=fun r H'=>∃ z,z=g.bears i∧r=i64 z∧H'=[]) ?_ (by rintro r H' ⟨z,rfl,rfl,rfl⟩;exact⟨rfl,rfl⟩)
 generalize g.bears i=Z at eB
 generalize g.groups=G at wG eB
 refine Q8 hT Tryz.func12 rfl rfl Tryz.ntmps12 rfl ?_
 refine y6 hT ?_
 refine Z3 (Z4 0 g.pv rfl rfl) ?_
 refine y6 hT ?_
 refine Q1 (Q5 wG _ rfl rfl) ?_
 refine u6 (y6 hT ?_)
 refine u9 (fun h=>?_) (fun h=>?_)
 ·rw[show decide (i<0)=true from h]at eB
  refine y8 ?_
  refine y6 hT ?_
  refine u5 ?_
  exact x8 [] ⟨0,eB.symm,rfl,rfl⟩ rfl
 rw[show decide (i<0)=false from h,Bool.false_or]at eB
 refine y8 (u9 (fun h=>?_) (fun h=>?_))
 ·rw[show decide (i≥G)=true from h]at eB
  refine y6 hT ?_
  refine u5 ?_
  exact x8 [] ⟨0,eB.symm,rfl,rfl⟩ rfl
 rw[show decide (i≥G)=false from h]at eB
 refine x7 ?_
 refine u6 (y6 hT ?_)
 refine y8 (u9 (fun h=>?_) (fun h=>?_))
 ·have h:(i==0)=true:=h
  rw[beq_iff_eq]at h
  rw[k1t h]at eB
  refine y6 hT ?_
  refine u5 ?_
  exact x8 [] ⟨3,eB.symm,rfl,rfl⟩ rfl
 have h:(i==0)=false:=h
 rw[beq_eq_false_iff_ne]at h
 rw[k1s h]at eB
 refine x7 ?_
 refine u6 (y6 hT ?_)
 refine y8 (u9 (fun h=>?_) (fun h=>?_))
 ·rw[show decide (i≤g.w)=true from h]at eB
  refine y6 hT ?_
  refine u5 ?_
  exact x8 [] ⟨1,eB.symm,rfl,rfl⟩ rfl
 rw[show decide (i≤g.w)=false from h]at eB
 refine x7 ?_
 refine y6 hT ?_
 refine u5 ?_
 exact x8 [] ⟨g.m,eB.symm,rfl,rfl⟩ rfl
def z4w (l:List Int)(i:Int):Nat→List Int
 |0=>[]
 |k+1=>match decide (l.getD k 0=i) with
  |true=>z4w l i k++[(k:Int)]
  |false=>z4w l i k
theorem w0a (l:List Int)(i:Int):∀ k,(z4w l i k).length≤k
 |0=>k1v _
 |k+1=>by
  have:=w0a l i k
  unfold z4w
  split
  ·rw[k1y,List.length_singleton];omega
  ·omega
theorem z6t (g:GeoV)(i:Int)(hg:g.may=true):AF k0q y3m [g.av,i64 i] [] (Q9 (.p (.sl 1 (Y8 (z4w g.own i g.own.length)))) []):=by
 have wO:=y9v g hg
 obtain⟨_,hlen⟩:=v9h hg
 generalize g.own=L at wO hlen
 have hil:=V6 L
 have hps:∀ k,z4w L i (k+1)=match decide (L.getD k 0=i) with|true=>z4w L i k++[(k:Int)]|false=>z4w L i k:=fun k=>rfl
 have hpl:=w0a L i
 have hp0:z4w L i 0=[]:=rfl
 refine AF.mono (R:=fun r H'=>∃ z,z=z4w L i L.length∧r=.p (.sl 1 (Y8 z))∧H'=[]) ?_ (by rintro r H' ⟨z,rfl,rfl,rfl⟩;exact⟨rfl,rfl⟩)
 generalize z4w L i=pos at hps hpl hp0
 refine Q8 hT Tryz.func11 rfl rfl Tryz.ntmps11 rfl ?_
 refine y6 hT ?_
 refine Z3 (Z4 0 g.pv rfl rfl) ?_
 refine y6 hT ?_
 refine Q1 (Q5 wO _ rfl rfl) ?_
 refine u0 ⟨⟨27,[(1,i64 i),(5,.p (.sl 1 (Y8 L))),(6,.msl 0 1 0 (Y8 []).length)]⟩,[.row V1 1 (Y8 [])]⟩ True (y7 hT ?_) (fun _=>?_)
 ·exact⟨Wk.trans (W8 V1 1) (Wk.trans (q3u 6 1 1 0 rfl) (z8 [1] [1,5,6] rfl)),trivial⟩
 refine Q4 (fun st=>∃ X,X=pos L.length∧st=⟨⟨27,[(6,.msl 0 1 0 (Y8 X).length)]⟩,[.row V1 1 (Y8 X)]⟩) (y6 hT ?_) ?_
 ·refine x3 ?_
  refine Q3 (fun c st=>∃ (k:Nat) (jk:Int) (X:List Int),c+k=L.length∧jk=k∧X=pos k∧st=⟨⟨27,[(1,i64 i),(5,.p (.sl 1 (Y8 L))),(6,.msl 0 1 0 (Y8 X).length),(7,i64 jk)]⟩,[.row V1 1 (Y8 X)]⟩) L.length ⟨⟨27,_⟩,_⟩ (z8 [0] [1,5,6,7] rfl) ⟨0,0,[],by omega,rfl,hp0.symm,rfl⟩ ?_
  rintro c st ⟨k,jk,X,hck,hjk,hX,rfl⟩
  refine u6 (y6 hT ?_)
  refine y8 (u9 (fun h=>?_) (fun h=>?_))
  ·have h:=k0z (show decide (jk<(((Y8 L).length:Nat):Int))=true from h)
   have hk:k<L.length:=by omega
   refine x7 ?_
   have ha:L[k]?=some (L.getD k 0):=by rw[k0v,k0w hk];rfl
   have hpk:=hps k
   have hXl:=hpl k
   rw[← hX]at hpk hXl
   generalize L.getD k 0=a at ha hpk
   have hap:(Y8 L)[jk.toNat]?=some [.raw (.int .i64 a)]:=by rw[hjk,k0u];exact q2r ha
   refine Q4 (fun st=>∃ X',X'=pos (k+1)∧st=⟨⟨27,[(1,i64 i),(5,.p (.sl 1 (Y8 L))),(6,.msl 0 1 0 (Y8 X').length),(7,i64 jk)]⟩,[.row V1 1 (Y8 X')]⟩) (x3 (y6 hT ?_)) ?_
   ·refine⟨by omega,Z2 hap ?_⟩
    refine y8 (u9 (fun h=>?_) (fun h=>?_))
    ·have h:(a==i)=true:=h
     rw[beq_iff_eq]at h
     rw[k1t h]at hpk
     refine y7 hT ?_
     refine⟨rfl,⟨by show ((Y8 X).length+1)*8≤_;rw[V6];omega,by show (Y8 X).length+1≤_;rw[V6];omega⟩,?_⟩
     refine⟨_,z8 [2] [1,5,6,7] rfl,X++[jk],by rw[hpk,hjk],?_⟩
     rw[y8q];rfl
    ·have h:(a==i)=false:=h
     rw[beq_eq_false_iff_ne]at h
     rw[k1s h]at hpk
     exact x7 ⟨_,z8 [0] [1,5,6,7] rfl,X,hpk.symm,rfl⟩
   ·rintro _ ⟨X',hX',rfl⟩
    refine y7 hT ?_
    exact⟨c - 1,by omega,_,z8 [0] [1,5,6,7] rfl,k+1,IntKind.i64.wrap (jk+1),X',by omega,by rw[Q0 _ (by omega) (by omega)];omega,hX',rfl⟩
  ·have h:=k0y (show decide (jk<(((Y8 L).length:Nat):Int))=false from h)
   rw[show k=L.length by omega]at hX
   refine Q7 ?_
   exact⟨_,z8 [0] [6] rfl,X,hX,rfl⟩
 rintro _ ⟨X,hX,rfl⟩
 refine Z3 (z1w 6 0 1 _ rfl rfl rfl rfl) ?_
 refine y6 hT ?_
 refine u5 ?_
 exact x8 [] ⟨X,hX,rfl,rfl⟩ rfl
def flX (l:List Flt):List (List PV):=l.map Flt.pv
theorem w6q (l:List Flt):(flX l).length=l.length:=by simp[flX]
theorem v9i {l:List Flt}{i:Nat}{c:Flt}(h:l[i]?=some c):(flX l)[i]?=some c.pv:=by rw[flX,k1z,h];rfl
def Dev.secR (D:Dev):Nat→List x9 × Dev
 |0=>([],D)
 |k+1=>((D.secR k).1++[((D.secR k).2.read k).1.1],((D.secR k).2.read k).2)
theorem w6r {D:Dev}{b:Nat}(h:D.Ok b):∀ k,(D.secR k).2.Ok b
 |0=>h
 |k+1=>(w6r h k).read _
theorem y0h (D:Dev):∀ k,(D.secR k).1.length=k
 |0=>rfl
 |k+1=>by show ((D.secR k).1++[_]).length=_;rw[k1y,y0h D k];rfl
theorem w4e (D:Dev)(a:Int):(D.read a).2.cells=D.cells:=by
 unfold Dev.read
 split
 ·rfl
 ·split <;> rfl
theorem z2j (D:Dev):∀ k,(D.secR k).2.cells=D.cells
 |0=>rfl
 |k+1=>(w4e _ _).trans (z2j D k)
theorem w4f (l:List x9)(s:x9):w9 (l++[s])=w9 l++[[bP s]]:=by simp[w9]
theorem z6u (D:Dev)(b:Nat)(hD:D.Ok b)(hb:b≤1000000)(N:Nat)(hN:D.cells.length=N)(hN2:N≤100000) :
 AFm k0q 3 q7f [.ref 0 0] (Y3 D) (Q9 (.p (.sl 1 (w9 (D.secR N).1))) (Y3 (D.secR N).2)):=by
 have k0:=w6r hD
 have kl:=y0h D
 have kc:=z2j D
 have ks:∀ k,D.secR (k+1)=((D.secR k).1++[((D.secR k).2.read k).1.1],((D.secR k).2.read k).2):=fun k=>rfl
 have kz:D.secR 0=([],D):=rfl
 refine AFm.mono (R:=fun r H'=>∃ z,z=D.secR N∧r=.p (.sl 1 (w9 z.1))∧H'=Y3 z.2) ?_ (by rintro r H' ⟨z,rfl,rfl,rfl⟩;exact⟨rfl,rfl⟩)
 generalize D.secR=F at k0 kl kc ks kz ⊢
 refine Z6 3 hT Tryz.func14 rfl rfl Tryz.ntmps14 rfl rfl ?_
 refine y6 hT ?_
 refine u0 ⟨⟨24,[(0,.ref 0 0),(3,.msl 3 1 0 (w9 ([]:List x9)).length)]⟩,Y3 D++[.row y9 1 (w9 ([]:List x9))]⟩ True (y7 hT ?_) (fun _=>?_)
 ·exact⟨Wk.trans (W8 y9 1) (Wk.trans (q3u 3 3 1 0 rfl) (z8 [0,1,2,3] [0,3] rfl)),trivial⟩
 refine Q4 (fun st=>∃ (X:List x9) (E:Dev),(X,E)=F N∧st=⟨⟨24,[(3,.msl 3 1 0 (w9 X).length)]⟩,Y3 E++[.row y9 1 (w9 X)]⟩) (y6 hT ?_) ?_
 ·refine x3 ?_
  refine Q3 (fun n st=>∃ (k:Nat) (j:Int) (X:List x9) (E:Dev),n+k=N∧j=k∧(X,E)=F k∧st=⟨⟨24,[(0,.ref 0 0),(3,.msl 3 1 0 (w9 X).length),(4,i64 j)]⟩,Y3 E++[.row y9 1 (w9 X)]⟩) N ⟨⟨24,_⟩,_⟩ (z8 [0,1,2,3] [0,3,4] rfl) ⟨0,0,[],D,rfl,rfl,kz.symm,rfl⟩ ?_
  rintro n st ⟨k,j,X,E,hnk,hj,hX,rfl⟩
  have hXl:X.length=k:=by have:=kl k;rw[← hX]at this;exact this
  have hcl:=Y6 X
  have hEo:E.Ok b:=by have:=k0 k;rw[← hX]at this;exact this
  have hEc:E.cells.length=N:=by have:=kc k;rw[← hX]at this;rw[← hN];exact congrArg List.length this
  refine u6 (y6 hT ?_)
  refine Q1 (Z7 [0,1,2] (y6j E) rfl rfl rfl) ?_
  refine y8 (u9 (fun h=>?_) (fun h=>?_))
  ·have h:=k0z (show decide (j<(E.cells.length:Int))=true from h)
   have rd:=y1y E j (by have:=hEo.wl;omega) (fun x hx=>by have:=hEo.ws x hx;omega) (fun c hc=>by have:=hEo.cs c hc;omega)
   have e1:F (k+1)=(X++[(E.read j).1.1],(E.read j).2):=by rw[ks,← hX,hj]
   generalize E.read j=Y at rd e1
   obtain⟨⟨t,f⟩,G⟩:=Y
   have rd:AFm k0q 3 q6b [.ref 0 0,i64 j] (Y3 E) (Q9 (.tup [bA t,i64 f]) (Y3 G)):=rd
   have e1:F (k+1)=(X++[t],G):=e1
   refine x7 ?_
   refine u0 ⟨⟨24,[(0,.ref 0 0),(3,.msl 3 1 0 (w9 (X++[t])).length),(4,i64 j)]⟩,Y3 G++[.row y9 1 (w9 (X++[t]))]⟩ True (x3 ?_) (fun _=>?_)
   ·refine u0 ⟨⟨24,[(0,.ref 0 0),(3,.msl 3 1 0 (w9 X).length),(4,i64 j),(5,bA t)]⟩,Y3 G++[.row y9 1 (w9 X)]⟩ True (y7 hT ?_) (fun _=>?_)
    ·refine Q1 (Z7 [0,1,2] rd rfl rfl rfl) ?_
     exact⟨z8 [0,1,2,3] [0,3,4,5] rfl,trivial⟩
    refine X6 (fun k=>Nat.beq 2 k) hT ?_
    refine⟨⟨rfl,rfl⟩,?_⟩
    refine⟨rfl,⟨?_,?_⟩,?_⟩
    ·show ((w9 X).length+1)*24≤_
     omega
    ·show (w9 X).length+1≤_
     omega
    rw[w4f]
    exact⟨z8 [0,1,2,4] [0,3,4] rfl,trivial⟩
   ·refine y7 hT ?_
    refine⟨n - 1,by omega,_,z8 [0,1,2,3] [0,3,4] rfl,k+1,IntKind.i64.wrap (j+1),X++[t],G,by omega,?_,e1.symm,rfl⟩
    rw[Q0 _ (by omega) (by omega),hj];rfl
  ·have h:=k0y (show decide (j<(E.cells.length:Int))=false from h)
   rw[show k=N by omega]at hX
   refine Q7 ?_
   exact⟨_,z8 [0,1,2,3] [3] rfl,X,E,hX,rfl⟩
 rintro _ ⟨X,E,hX,rfl⟩
 refine Z3 (z1w 3 3 1 _ rfl rfl rfl rfl) ?_
 refine y6 hT ?_
 refine u5 ?_
 exact x8 [0,1,2] ⟨(X,E),hX,rfl,rfl⟩ rfl
def Dev.spoil (D:Dev)(l:List Flt):Nat→Dev
 |0=>D
 |k+1=>match l[k]? with
  |some f=>match decide (f.kind<4) with
   |true=>((D.spoil l k).fault f).2
   |false=>D.spoil l k
  |none=>D.spoil l k
theorem w0b {D:Dev}{b:Nat}(h:D.Ok b)(l:List Flt):∀ k,(D.spoil l k).Ok (b+k)
 |0=>h
 |k+1=>by
  have ih:=w0b h l k
  unfold Dev.spoil
  split
  ·split
   ·exact ih.fault _
   ·exact ih.mono (by omega)
  ·exact ih.mono (by omega)
theorem x5c (D:Dev)(b:Nat)(hD:D.Ok b)(l:List Flt)(hl:l.length≤1000)(hb:b+1000≤1000000) :
 AFm k0q 3 y5w [.ref 0 0,.p (.sl 9 (flX l))] (Y3 D) (Q9 (.tup []) (Y3 (D.spoil l l.length))):=by
 have k0:=w0b hD l
 have ks:∀ k,D.spoil l (k+1)=match l[k]? with
  |some f=>match decide (f.kind<4) with
   |true=>((D.spoil l k).fault f).2
   |false=>D.spoil l k
  |none=>D.spoil l k:=fun k=>rfl
 have kz:D.spoil l 0=D:=rfl
 refine AFm.mono (R:=fun r H'=>∃ z,z=D.spoil l l.length∧r=.tup []∧H'=Y3 z) ?_ (by rintro r H' ⟨z,rfl,rfl,rfl⟩;exact⟨rfl,rfl⟩)
 generalize D.spoil l=F at k0 ks kz ⊢
 have hfl:=w6q l
 refine Z6 3 hT Tryz.func17 rfl rfl Tryz.ntmps17 rfl rfl ?_
 refine y6 hT ?_
 refine x3 ?_
 refine Q3 (fun n st=>∃ (k:Nat) (j:Int) (E:Dev),n+k=l.length∧j=k∧E=F k∧st=⟨⟨23,[(0,.ref 0 0),(1,.p (.sl 9 (flX l))),(4,i64 j)]⟩,Y3 E⟩) l.length ⟨⟨23,_⟩,_⟩ (z8 [0,1,2] [0,1,4] rfl) ⟨0,0,D,rfl,rfl,kz.symm,rfl⟩ ?_
 rintro n st ⟨k,j,E,hnk,hj,hX,rfl⟩
 refine u6 (y6 hT ?_)
 refine y8 (u9 (fun h=>?_) (fun h=>?_))
 ·have h:=k0z (show decide (j<(((flX l).length:Nat):Int))=true from h)
  have hk:k<l.length:=by omega
  have hx:=k0w hk
  generalize l[k]=f at hx
  have hkk:=ks k
  rw[hx,← hX]at hkk
  have hkk:F (k+1)=match decide (f.kind<4) with|true=>(E.fault f).2|false=>E:=hkk
  have hxp:(flX l)[j.toNat]?=some f.pv:=by rw[hj,k0u];exact v9i hx
  have wF:=z7r E f (b+k) (by rw[hX];exact k0 k) (by omega)
  generalize E.fault f=Y at wF hkk
  obtain⟨e,G⟩:=Y
  refine x7 ?_
  refine Q4 (fun st=>∃ G,G=F (k+1)∧st=⟨⟨23,[(0,.ref 0 0),(1,.p (.sl 9 (flX l))),(4,i64 j)]⟩,Y3 G⟩) (x3 (y6 hT ?_)) ?_
  ·refine⟨by omega,Z2 hxp ?_⟩
   refine y8 (u9 (fun h2=>?_) (fun h2=>?_))
   ·have h2:decide (f.kind<4)=true:=h2
    rw[h2]at hkk
    refine y7 hT ?_
    refine⟨by omega,Z2 hxp ?_⟩
    refine Q1 (Z7 [0,1,2] wF rfl rfl rfl) ?_
    exact⟨_,z8 [0,1,2] [0,1,4] rfl,G,hkk.symm,rfl⟩
   ·have h2:decide (f.kind<4)=false:=h2
    rw[h2]at hkk
    exact x7 ⟨_,z8 [0,1,2] [0,1,4] rfl,E,hkk.symm,rfl⟩
  ·rintro _ ⟨G,hG,rfl⟩
   refine y7 hT ?_
   exact⟨n - 1,by omega,_,z8 [0,1,2] [0,1,4] rfl,k+1,IntKind.i64.wrap (j+1),G,by omega,by rw[Q0 _ (by omega) (by omega)];omega,hG,rfl⟩
 ·have h:=k0y (show decide (j<(((flX l).length:Nat):Int))=false from h)
  rw[show k=l.length by omega]at hX
  refine Q7 ?_
  exact x8 [0,1,2] ⟨E,hX,rfl,rfl⟩ rfl
theorem w4g (l r:List Int)(hl:l.length≤1000000):AF k0q x3t [.p (.sl 1 (Y8 l)),.p (.sl 1 (Y8 r))] [] (Q9 (bl (decide (l=r))) []):=by
 have hll:=V6 l
 have hrl:=V6 r
 refine AF.mono (R:=fun v H'=>∃ z,z=decide (l=r)∧v=bl z∧H'=[]) ?_ (by rintro v H' ⟨z,rfl,rfl,rfl⟩;exact⟨rfl,rfl⟩)
 refine Q8 hT Tryz.func25 rfl rfl Tryz.ntmps25 rfl ?_
 refine y6 hT ?_
 refine u6 (y6 hT ?_)
 refine y8 (u9 (fun h=>?_) (fun h=>?_))
 ·have h:((((Y8 l).length:Nat):Int) != (((Y8 r).length:Nat):Int))=true:=h
  rw[bne_iff_ne,hll,hrl]at h
  refine y6 hT ?_
  refine u5 ?_
  exact x8 [] ⟨false,(k1s (fun e=>h (by rw[e]))).symm,rfl,rfl⟩ rfl
 ·have h:((((Y8 l).length:Nat):Int) != (((Y8 r).length:Nat):Int))=false:=h
  have h:(((Y8 l).length:Nat):Int)=(((Y8 r).length:Nat):Int):=by simpa using h
  have hlr:l.length=r.length:=by omega
  refine x7 ?_
  refine Q4 (fun st=>l=r∧st=⟨⟨26,[]⟩,[]⟩) (y6 hT ?_) ?_
  ·refine x3 ?_
   refine Q3 (fun n st=>∃ (k:Nat) (j:Int),n+k=l.length∧j=k∧l.take k=r.take k∧st=⟨⟨26,[(0,.p (.sl 1 (Y8 l))),(1,.p (.sl 1 (Y8 r))),(5,i64 j)]⟩,[]⟩) l.length ⟨⟨26,_⟩,_⟩ (z8 [] [0,1,5] rfl) ⟨0,0,rfl,rfl,rfl,rfl⟩ ?_
   rintro n st ⟨k,j,hnk,hj,hX,rfl⟩
   refine u6 (y6 hT ?_)
   refine y8 (u9 (fun h=>?_) (fun h=>?_))
   ·have h:=k0z (show decide (j<(((Y8 l).length:Nat):Int))=true from h)
    have hx:=k0w (show k<l.length by omega)
    have hy:=k0w (show k<r.length by omega)
    generalize l[k]=a at hx
    generalize r[k]=c at hy
    have hxp:(Y8 l)[j.toNat]?=some [.raw (.int .i64 a)]:=by rw[hj,k0u];exact q2r hx
    have hyp:(Y8 r)[j.toNat]?=some [.raw (.int .i64 c)]:=by rw[hj,k0u];exact q2r hy
    refine x7 ?_
    refine u0 ⟨⟨26,[(0,.p (.sl 1 (Y8 l))),(1,.p (.sl 1 (Y8 r))),(5,i64 j)]⟩,[]⟩ (a=c) (x3 (u6 (Z0 [] [] hT u7 (by rfl) ?_))) (fun hac=>?_)
    ·refine⟨by omega,Z2 hxp ?_⟩
     refine⟨by omega,Z2 hyp ?_⟩
     refine y8 (u9 (fun h2=>?_) (fun h2=>?_))
     ·have h2:(a != c)=true:=h2
      rw[bne_iff_ne]at h2
      refine y6 hT ?_
      refine u5 ?_
      exact x8 [] ⟨false,(k1s (fun e=>h2 (by rw[e,hy]at hx;exact(k0x hx).symm))).symm,rfl,rfl⟩ rfl
     ·have h2:(a != c)=false:=h2
      exact x7 ⟨z8 [] [0,1,5] rfl,by simpa using h2⟩
    ·refine y7 hT ?_
     refine⟨n - 1,by omega,_,z8 [] [0,1,5] rfl,k+1,IntKind.i64.wrap (j+1),by omega,by rw[Q0 _ (by omega) (by omega)];omega,?_,rfl⟩
     rw[k2t,k2t,hx,hy,hX,hac]
   ·have h:=k0y (show decide (j<(((Y8 l).length:Nat):Int))=false from h)
    rw[show k=l.length by omega,List.take_length,hlr,List.take_length]at hX
    refine Q7 ?_
    exact⟨_,z8 [] [] rfl,hX,rfl⟩
  rintro _ ⟨hX,rfl⟩
  refine y6 hT ?_
  refine u5 ?_
  exact x8 [] ⟨true,(k1t hX).symm,rfl,rfl⟩ rfl
end Go.Proofs.YtkjklhcfgbaceaaGreat.AL
