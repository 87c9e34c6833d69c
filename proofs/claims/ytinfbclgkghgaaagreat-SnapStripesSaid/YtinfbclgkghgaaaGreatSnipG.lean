/- A part of the proof. -/
import Derived.Test.YtinfbclgkghgaaaGreatSnipF
open List renaming getElem?_eq_getElem→k0x,getD_eq_getElem?_getD→k0w,getElem?_eq_some_iff→k0u,getElem?_map→k1q,length_map→k1y,getElem_mem→k1x,length_replicate→k2q,getElem?_set_self→k2y,mem_of_getElem?→k2x,length_take→k2u,take_add_one→k2t,getElem?_range→k2s,length_range→k3q
open Int renaming toNat_natCast→k0v,natCast_nonneg→k2w
open Nat renaming le_refl→k1w
open Bool renaming and_eq_true→k1v
set_option maxHeartbeats 1000000
set_option maxRecDepth 20000
namespace Go.Proofs.YtinfbclgkghgaaaGreat.AL
open Go Go.Proofs
abbrev z1a (D:Dev):List ABlk:=[q3w D 1 2,.row Z4 4 (cx D.cells),.row Z0 2 (wx D.waits),.cells q0j [.ref 0 0]]
abbrev v9v (a:Int):AV:=.clo (.func q2a) [.p (.box [.raw (.int .i64 a)]),.ref 3 0]
def Dev.hits (D:Dev)(a:Int)(x:Wr):Dev:=match q4s a x with|true=>D.done x|false=>D
theorem w1b (D:Dev)(a:Int)(x:Wr)(h0:0≤x.at_)(h1:x.at_.toNat<D.cells.length) :
 AFm Tryz.prog 4 q2a [.agg [i64 x.at_,bA x.s],.p (.box [.raw (.int .i64 a)]),.ref 3 0] (z1a D) (v8 (bl (q4s a x)) (z1a (D.hits a x))):=by
 refine Q5 4 hT z1w rfl rfl z1x rfl rfl ?_
 refine q8 hT ?_
 refine u6 (Q4 4 [.raw (.int .i64 x.at_),bP x.s] rfl rfl) ?_
 refine z7 ⟨⟨16,[(1,.p (.box [.raw (.int .i64 a)])),(3,.p (.box [.raw (.int .i64 x.at_),bP x.s]))]⟩,z1a (D.hits a x)⟩ True (q8 hT ?_) (fun _=>?_)
 ·refine z4 (y4 (fun h=>?_) (fun h=>?_))
  ·have h:q4s a x=true:=h
   refine q9 hT ?_
   refine x7 (Q7 [0,1,2] (x1d D x h0 h1) rfl rfl rfl) ?_
   refine⟨?_,trivial⟩
   have e:D.hits a x=D.done x:=by unfold Dev.hits;rw[h]
   rw[e]
   exact q7 [0,1,2,3] [1,3] rfl
  ·have h:q4s a x=false:=h
   refine z5 ⟨?_,trivial⟩
   have e:D.hits a x=D:=by unfold Dev.hits;rw[h]
   rw[e]
   exact q7 [0,1,2,3] [1,3] rfl
 ·refine q8 hT ?_
  refine y9 ?_
  exact z9 [0,1,2,3] ⟨rfl,rfl⟩ rfl
theorem v6n (D:Dev)(a:Int)(hw:D.waitsIn)(hn:D.waits.length≤1000000) :
 AFm Tryz.prog 4 q5p [.msl 2 2 0 D.waits.length,v9v a] (z1a D) (fun r H'=>(r=i64 (-1)∧(∀ x∈D.waits,q4s a x=false)∧H'=z1a D) ∨
  (∃ (i:Nat) (x:Wr),D.waits[i]?=some x∧q4s a x=true∧(∀ y∈D.waits.take i,q4s a y=false)∧r=i64 i∧H'=z1a (D.done x))):=by
 refine Q5 4 hT q5q rfl rfl q5r rfl rfl ?_
 refine q8 hT ?_
 refine z8 (q8 hT ?_)
 refine z3 ?_
 refine y7 (fun n s=>∃ (i:Nat) (j:Int),n+i=D.waits.length∧j=i∧(∀ y∈D.waits.take i,q4s a y=false)∧s=⟨⟨19,[(0,.msl 2 2 0 D.waits.length),(1,v9v a),(7,i64 D.waits.length),(8,i64 j)]⟩,z1a D⟩) D.waits.length ⟨⟨19,_⟩,[_,_,_,_]⟩ (q7 [0,1,2,3] [0,1,7,8] rfl) ⟨0,_,by omega,rfl,fun y hy=>by simp at hy,rfl⟩ ?_
 rintro n s ⟨i,j,hni,rfl,hl,rfl⟩
 refine q8 hT ?_
 refine z8 (z4 (y4 (fun h=>?_) (fun h=>?_)))
 ·have hi:i<D.waits.length:=by
   have:=k0q (show decide ((i:Int)<(D.waits.length:Int))=true from h)
   omega
  have hx:=k0x hi
  have hin:=hw _ (k1x hi)
  generalize D.waits[i]=x at hx hin
  refine z5 ?_
  refine z8 (z3 (q8 hT ?_))
  refine q8 hT ?_
  refine⟨⟨k2w _,k0q h⟩,?_⟩
  refine w9 (show (wx D.waits)[0+((i:Nat):Int).toNat]?=some x.pv by rw[Nat.zero_add,k0v];exact y6d hx) ?_
  refine x7 (w1b D a x hin.1 (by omega)) ?_
  refine z4 (y4 (fun h2=>?_) (fun h2=>?_))
  ·have e:D.hits a x=D.done x:=by unfold Dev.hits;rw[h2]
   refine q8 hT ?_
   refine y9 ?_
   refine⟨_,_,q7 [0,1,2,3] [0] rfl,.inr ⟨i,x,hx,h2,hl,rfl,?_⟩⟩
   rw[← e];rfl
  ·have e:D.hits a x=D:=by unfold Dev.hits;rw[h2]
   refine z5 ?_
   refine q9 hT ?_
   refine⟨n - 1,by omega,_,q7 [0,1,2,3] [0,1,7,8] rfl,i+1,IntKind.i64.wrap ((i:Int)+1),by omega,?_,?_,?_⟩
   ·rw[y8 _ (by omega) (by omega)];rfl
   ·intro y hy
    rw[k2t,hx,List.mem_append]at hy
    rcases hy with hy|hy
    ·exact hl y hy
    ·have:y=x:=by simpa using hy
     rw[this];exact h2
   ·refine congrArg (St.mk _) ?_
    show z1a (D.hits a x)=z1a D
    rw[e]
 ·refine x6 ?_
  have hi:i=D.waits.length:=by
   have:¬ ((i:Int)<(D.waits.length:Int)):=k0z h
   omega
  refine q8 hT ?_
  refine y9 ?_
  refine⟨_,_,q7 [0,1,2,3] [0] rfl,.inl ⟨rfl,?_,rfl⟩⟩
  rw[hi,List.take_length]at hl
  exact hl
end Go.Proofs.YtinfbclgkghgaaaGreat.AL
/- The layer 06 (disk): what waits of a sector is settled (2). -/
namespace Go.Proofs.YtinfbclgkghgaaaGreat.AL
open Go Go.Proofs
def q1c (a:Int)(W:List Wr)(C:List Cell):List Cell:=W.foldl (fun C x=>match q4s a x with|true=>q2b C x|false=>C) C
def q1p (a:Int)(W:List Wr):List Wr:=W.filter fun x=>!q4s a x
def Dev.settle (D:Dev)(a:Int):Dev:={ D with cells:=q1c a D.waits D.cells,waits:=q1p a D.waits }
theorem z0i (a:Int)(W:List Wr)(x:Wr)(C:List Cell):q1c a (W++[x]) C=match q4s a x with|true=>q2b (q1c a W C) x|false=>q1c a W C:=by
 unfold q1c;rw[List.foldl_append];rfl
theorem q8h (a:Int)(W:List Wr):∀ C,(q1c a W C).length=C.length:=by
 induction W with
 |nil=>intro C;rfl
 |cons x r ih=>
  intro C
  show (q1c a r (match q4s a x with|true=>q2b C x|false=>C)).length=_
  rw[ih];split
  ·exact q9c _ _
  ·rfl
theorem y6m {a:Int}{W:List Wr}(h:∀ x∈W,q4s a x=false)(C:List Cell):q1c a W C=C:=by
 induction W generalizing C with
 |nil=>rfl
 |cons x r ih=>
  show q1c a r (match q4s a x with|true=>q2b C x|false=>C)=_
  rw[h x (by simp)];exact ih (fun y hy=>h y (by simp[hy])) C
theorem z5r {a:Int}{W:List Wr}(h:∀ x∈W,q4s a x=false):q1p a W=W:=by
 unfold q1p;rw[List.filter_eq_self];intro x hx;rw[h x hx];rfl
theorem z0j (a:Int)(W:List Wr)(x:Wr):q1p a (W++[x])=match q4s a x with|true=>q1p a W|false=>q1p a W++[x]:=by
 unfold q1p;rw[List.filter_append]
 cases h:q4s a x <;> simp[h]
theorem w5w (a:Int)(W:List Wr):(q1p a W).length≤W.length:=List.length_filter_le _ _
abbrev u2z (D:Dev)(a:Int):List ABlk:=[q3w D 1 2,.row Z4 4 (cx (q1c a D.waits D.cells)),.row Z0 2 (wx (q1p a D.waits)),.cells q0j [.ref 0 0]]
theorem u3a (l:List Wr)(i:Nat)(c:Wr):wx (l.set i c)=(wx l).set i c.pv:=by simp[wx,List.map_set]
structure DelOk (D:Dev) (a:Int) (k j:Nat) (C:List Cell) (W:List Wr):Prop where
 len:W.length=D.waits.length
 kj:k<j
 jn:j≤D.waits.length
 C:C=q1c a (D.waits.take j) D.cells
 W1:W.take k=q1p a (D.waits.take j)
 W2:W.drop j=D.waits.drop j
theorem DelOk.hit {D:Dev}{a:Int}{k j:Nat}{C:List Cell}{W:List Wr}(h:DelOk D a k j C W){x:Wr}(hx:D.waits[j]?=some x)(hh:q4s a x=true):DelOk D a k (j+1) (q2b C x) W:=by
 have hjl:j<D.waits.length:=(k0u.1 hx).1
 refine⟨h.len,by have:=h.kj;omega,hjl,?_,?_,?_⟩
 ·rw[k2t,hx];show _=q1c a (_++[x]) _;rw[z0i,hh,← h.C]
 ·rw[k2t,hx];show _=q1p a (_++[x]);rw[z0j,hh,← h.W1]
 ·rw[← List.drop_drop,← List.drop_drop,h.W2]
theorem DelOk.miss {D:Dev}{a:Int}{k j:Nat}{C:List Cell}{W:List Wr}(h:DelOk D a k j C W){x:Wr}(hx:D.waits[j]?=some x)(hh:q4s a x=false):DelOk D a (k+1) (j+1) C (W.set k x):=by
 have hjl:j<D.waits.length:=(k0u.1 hx).1
 have hkj:=h.kj
 refine⟨by rw[List.length_set];exact h.len,by omega,hjl,?_,?_,?_⟩
 ·rw[k2t,hx];show _=q1c a (_++[x]) _;rw[z0i,hh,← h.C]
 ·rw[k2t (l:=D.waits),hx];show _=q1p a (_++[x]);rw[z0j,hh,← h.W1]
  rw[k2t,k2y (by rw[h.len];omega),List.take_set_of_le (k1w _)];rfl
 ·rw[List.drop_set_of_lt (by omega),← List.drop_drop,← List.drop_drop,h.W2]
theorem u9t {α β γ:Sort _}(f:α→β→γ){a a':α}{b b':β}(h:a=a')(k:b=b'):f a b=f a' b':=by rw[h,k]
theorem v0z {α:Type}(l:List α)(k:Nat)(vs:List α)(h:k≤l.length):(X6 l k vs).take k=l.take k:=by
 unfold X6
 rw[List.append_assoc,List.take_append_of_le_length (by rw[k2u];omega),List.take_take,Nat.min_self]
theorem w1c (D:Dev)(a:Int)(C:List Cell)(W:List Wr)(hC:C.length=D.cells.length)(hW:W.length=D.waits.length)(x:Wr)(h0:0≤x.at_)(h1:x.at_.toNat<D.cells.length)(b:Bool)(C':List Cell)
 (hb:q4s a x=b) (hC':C'=match b with|true=>q2b C x|false=>C) :
 AFm Tryz.prog 4 q2a [.agg [i64 x.at_,bA x.s],.p (.box [.raw (.int .i64 a)]),.ref 3 0] [q3w D 1 2,.row Z4 4 (cx C),.row Z0 2 (wx W),.cells q0j [.ref 0 0]]
  (v8 (bl b) [q3w D 1 2,.row Z4 4 (cx C'),.row Z0 2 (wx W),.cells q0j [.ref 0 0]]):=by
 have h:=w1b { D with cells:=C,waits:=W } a x h0 (by show x.at_.toNat<C.length;omega)
 have e1:z1a { D with cells:=C,waits:=W }=[q3w D 1 2,.row Z4 4 (cx C),.row Z0 2 (wx W),.cells q0j [.ref 0 0]]:=by
  unfold z1a q3w;rw[hC,hW]
 have e2:z1a (({ D with cells:=C,waits:=W }:Dev).hits a x)=[q3w D 1 2,.row Z4 4 (cx C'),.row Z0 2 (wx W),.cells q0j [.ref 0 0]]:=by
  unfold Dev.hits
  rw[hb]
  cases b with
  |true=>
   have hC'':C'.length=D.cells.length:=by rw[hC'];exact(q9c C x).trans hC
   rw[hC']at hC'' ⊢
   unfold z1a q3w Dev.done
   rw[show (q2b C x).length=D.cells.length from hC'',hW]
  |false=>rw[hC'];exact e1
 rw[e1,e2,hb]at h
 exact h
theorem v1a (D:Dev)(a:Int)(hw:D.waitsIn)(hn:D.waits.length≤1000000) :
 AFm Tryz.prog 4 q4z [.msl 2 2 0 D.waits.length,v9v a] (z1a D) (v8 (.msl 2 2 0 (q1p a D.waits).length) (u2z D a)):=by
 refine Q5 4 hT q5a rfl rfl q5b rfl rfl ?_
 refine q8 hT ?_
 refine q8 hT ?_
 refine u1i (v6n D a hw hn) ?_
 rintro r H' (⟨rfl,hno,rfl⟩|⟨i,x,hx,hh,hno,rfl,rfl⟩)
 ·refine z8 (q8 hT ?_)
  refine z4 ?_
  refine q8 hT ?_
  refine y9 ?_
  refine z9 [0,1,2,3] ⟨?_,?_⟩ rfl
  ·rw[z5r hno];rfl
  ·show z1a D=u2z D a
   unfold z1a u2z
   rw[z5r hno,y6m hno]
 ·have hi:i<D.waits.length:=(k0u.1 hx).1
  refine z8 (q8 hT ?_)
  refine z4 ?_
  refine z5 ?_
  refine z8 (q8 hT ?_)
  refine z3 ?_
  refine y7 (fun n s=>∃ (k j:Nat) (k' j':Int) (C:List Cell) (W:List Wr),n+j=D.waits.length∧k'=k∧j'=j∧DelOk D a k j C W∧s=⟨⟨42,[(0,.msl 2 2 0 D.waits.length),(1,v9v a),(5,i64 k'),(6,i64 j')]⟩,[q3w D 1 2,.row Z4 4 (cx C),.row Z0 2 (wx W),.cells q0j [.ref 0 0]]⟩) (D.waits.length - (i+1)) ⟨⟨42,_⟩,[_,_,_,_]⟩ (q7 [0,1,2,3] [0,1,5,6] rfl) ⟨i,i+1,i,IntKind.i64.wrap ((i:Int)+1),q2b D.cells x,D.waits,by omega,rfl,?_,?_,?_⟩ ?_
  ·rw[y8 _ (by omega) (by omega)];rfl
  ·refine⟨rfl,by omega,hi,?_,?_,rfl⟩
   ·rw[k2t,hx];show _=q1c a (_++[x]) _;rw[z0i,hh,y6m hno]
   ·rw[k2t,hx];show _=q1p a (_++[x]);rw[z0j,hh,z5r hno]
  ·refine congrArg (St.mk _) ?_
   show z1a (D.done x)=_
   unfold z1a q3w
   rw[show (D.done x).cells.length=D.cells.length from q9c _ _]
   rfl
  rintro n s ⟨k,j,k',j',C,W,hnj,rfl,rfl,hd,rfl⟩
  refine z8 (q8 hT ?_)
  refine z4 (y4 (fun h=>?_) (fun h=>?_))
  ·have hj:j<D.waits.length:=by
    have:=k0q (show decide ((j:Int)<(D.waits.length:Int))=true from h)
    omega
   have hx2:=k0x hj
   have hin:=hw _ (k1x hj)
   generalize D.waits[j]=y at hx2 hin
   have hkj:=hd.kj
   have hy:W[j]?=some y:=by
    have:=congrArg (fun l=>l[0]?) hd.W2
    simpa [hx2] using this
   have hCl:C.length=D.cells.length:=by rw[hd.C,q8h]
   refine z5 ?_
   refine z8 (z3 (q8 hT ?_))
   refine⟨⟨k2w _,k0q h⟩,?_⟩
   refine w9 (show (wx W)[0+((j:Nat):Int).toNat]?=some y.pv by rw[Nat.zero_add,k0v];exact y6d hy) ?_
   refine u6 (Q4 4 [.raw (.int .i64 y.at_),bP y.s] rfl rfl) ?_
   refine q8 hT ?_
   cases hh:q4s a y with
   |true=>
    refine x7 (Q7 [0,1,2,3] (w1c D a C W hCl hd.len y hin.1 (by omega) true (q2b C y) hh rfl) rfl rfl rfl) ?_
    refine z4 ?_
    refine z5 ?_
    refine q9 hT ?_
    refine⟨n - 1,by omega,_,q7 [0,1,2,3] [0,1,5,6] rfl,k,j+1,k,IntKind.i64.wrap ((j:Int)+1),q2b C y,W,by omega,rfl,?_,hd.hit hx2 hh,rfl⟩
    rw[y8 _ (by omega) (by omega)];rfl
   |false=>
    refine x7 (Q7 [0,1,2,3] (w1c D a C W hCl hd.len y hin.1 (by omega) false C hh rfl) rfl rfl rfl) ?_
    refine z4 ?_
    refine q8 hT ?_
    refine⟨⟨k2w _,by omega⟩,?_⟩
    refine w9 (show (wx W)[0+((k:Nat):Int).toNat]?=some (W[k]'(by rw[hd.len];omega)).pv by rw[Nat.zero_add,k0v];exact y6d (k0x _)) ?_
    refine y3s rfl (w9 rfl ?_)
    refine q9 hT ?_
    refine q9 hT ?_
    refine⟨n - 1,by omega,_,q7 [0,1,2,3] [0,1,5,6] rfl,k+1,j+1,IntKind.i64.wrap ((k:Int)+1),IntKind.i64.wrap ((j:Int)+1),C,W.set k y,by omega,?_,?_,hd.miss hx2 hh,?_⟩
    ·rw[y8 _ (by omega) (by omega)];rfl
    ·rw[y8 _ (by omega) (by omega)];rfl
    ·refine congrArg (St.mk _) ?_
     rw[u3a,show (wx W).set k y.pv=(wx W).set (0+((k:Nat):Int).toNat) y.pv by rw[k0v,Nat.zero_add]]
     rfl
  ·refine x6 ?_
   have hj:j=D.waits.length:=by
    have:¬ ((j:Int)<(D.waits.length:Int)):=k0z h
    have:=hd.jn
    omega
   subst hj
   have hkj:=hd.kj
   refine q8 hT ?_
   refine⟨⟨k2w _,by omega,Int.le_refl _⟩,?_⟩
   refine⟨by rw[y0h,hd.len];simp;omega,?_⟩
   refine q8 hT ?_
   refine⟨⟨Int.le_refl _,k2w _,by omega⟩,?_⟩
   refine u6 (y6h 2 k rfl) ?_
   refine y9 ?_
   have hk:=hd.W1
   rw[List.take_length]at hk
   have hkl:(q1p a D.waits).length=k:=by rw[← hk,k2u,hd.len];omega
   refine z9 [0,1,2,3] ⟨?_,?_⟩ rfl
   ·rw[hkl];rfl
   ·refine u9t (fun x y=>[q3w D 1 2,ABlk.row Z4 4 (cx x),ABlk.row Z0 2 y,ABlk.cells q0j [.ref 0 0]]) ?_ ?_
    ·rw[hd.C,List.take_length]
    ·show (X6 (wx W) (0+((k:Nat):Int).toNat) _).take k=_
     rw[Nat.zero_add,k0v,v0z _ _ _ (by rw[y0h,hd.len];omega),← hk]
     simp[wx]
theorem z1z (D:Dev)(a:Int)(hw:D.waitsIn)(hn:D.waits.length≤1000000):AFm Tryz.prog 3 z5e [.ref 0 0,i64 a] (Y4 D) (v8 (.tup []) (Y4 (D.settle a))):=by
 refine Q5 3 hT z5f rfl rfl z5g rfl rfl ?_
 refine q8 hT ?_
 refine u6 (Q4 4 [.raw (.int .i64 a)] rfl rfl) ?_
 refine v7 [6,9] [] hT y5 (by rfl) ?_
 refine⟨_,_,Q7 [0,1,2,3] (v1a D a hw hn) rfl rfl rfl,?_⟩
 refine⟨rfl,?_⟩
 refine z9 [0,1,2] ⟨rfl,?_⟩ rfl
 unfold Y4 q3w
 rw[show (D.settle a).cells.length=D.cells.length from q8h _ _ _]
 rfl
structure Flt where
 kind:Int
 at_:Int
 off:Int
 n:Int
 to:Int
 m0:UInt8
 m1:UInt8
 m2:UInt8
 m3:UInt8
 deriving DecidableEq
abbrev Flt.pv (f:Flt):List PV:=[.raw (.int .i64 f.kind),.raw (.int .i64 f.at_),.raw (.int .i64 f.off),.raw (.int .i64 f.n),.raw (.int .i64 f.to),u8 f.m0,u8 f.m1,u8 f.m2,u8 f.m3]
abbrev Flt.av (f:Flt):AV:=.agg [i64 f.kind,i64 f.at_,i64 f.off,i64 f.n,i64 f.to,.p (u8 f.m0),.p (u8 f.m1),.p (u8 f.m2),.p (u8 f.m3)]
def Dev.upd (D:Dev)(a:Int)(g:Cell→Cell):Dev:={ D with cells:=D.cells.modify a.toNat g }
theorem y1i {l:List Cell}{i:Nat}{c:Cell}(g:Cell→Cell)(h:l[i]?=some c):l.modify i g=l.set i (g c):=by
 apply List.ext_getElem?
 intro j
 rw[List.getElem?_modify,List.getElem?_set]
 by_cases e:i=j
 ·subst e
  rw[if_pos rfl,if_pos (k0u.1 h).1,h];simp
 ·simp[e]
theorem z2a (D:Dev)(a:Int)(g:Cell→Cell){c:Cell}(h:D.cells[a.toNat]?=some c):Y4 (D.upd a g)=[q3w D 1 2,.row Z4 4 ((cx D.cells).set (0+a.toNat) (g c).pv),.row Z0 2 (wx D.waits)]:=by
 rw[← y6f D a.toNat (g c)]
 unfold Dev.upd
 rw[y1i g h]
theorem q8i {D:Dev}{a:Int}(h:D.has a=true):a.toNat<D.cells.length∧0≤a∧a<(D.cells.length:Int):=by
 have h1:(decide (a≥0)&&decide (a<(D.cells.length:Int)))=true:=h
 rw[k1v,decide_eq_true_eq,decide_eq_true_eq]at h1
 omega
theorem q7j (D:Dev){a:Int}(h:D.has a=true):∃ c,D.cells[a.toNat]?=some c∧(cx D.cells)[0+a.toNat]?=some c.pv:=by
 have hc:=k0x (q8i h).1
 exact⟨_,hc,by rw[Nat.zero_add];exact y6c hc⟩
theorem q3g (D:Dev)(a b:Int):(D.settle a).has b=D.has b:=by
 unfold Dev.has;rw[show (D.settle a).cells.length=D.cells.length from q8h _ _ _]
theorem bx_zeros:bx z4v=List.replicate 256 [PV.raw (.int .u8 0)]:=by
 unfold z4v bx;rw[List.map_replicate];rfl
theorem v1b (D:Dev)(f:Flt)(hw:D.waitsIn)(hn:D.waits.length≤1000000)(hh:D.has f.at_=true) :
 AFm Tryz.prog 3 z9k [.ref 0 0,f.av] (Y4 D) (v8 (.tup []) (Y4 ((D.settle f.at_).upd f.at_ fun c=>{ c with lost:=true }))):=by
 refine Q5 3 hT z9m rfl rfl z9n rfl rfl ?_
 refine q8 hT ?_
 refine u6 (Q4 3 f.pv rfl rfl) ?_
 refine q8 hT ?_
 refine x7 (Q7 [0,1,2] (z1z D f.at_ hw hn) rfl rfl rfl) ?_
 have hlt:=q8i ((q3g D f.at_ f.at_).trans hh)
 obtain⟨c,hc,g1⟩:=q7j (D.settle f.at_) ((q3g D f.at_ f.at_).trans hh)
 refine v7 [8] [] hT y5 (by rfl) ?_
 refine⟨⟨hlt.2.1,hlt.2.2⟩,?_⟩
 refine w9 g1 ?_
 exact z9 [0,1,2] ⟨rfl,(z2a (D.settle f.at_) f.at_ (fun c=>{ c with lost:=true }) hc).symm⟩ rfl
theorem w5x (D:Dev)(f:Flt)(hw:D.waitsIn)(hn:D.waits.length≤1000000)(hh:D.has f.at_=true) :
 AFm Tryz.prog 3 z6x [.ref 0 0,f.av] (Y4 D) (v8 (.tup []) (Y4 ((D.settle f.at_).upd f.at_ fun c=>{ c with s:=z4v,lost:=false }))):=by
 refine Q5 3 hT z6y rfl rfl z6z rfl rfl ?_
 refine q8 hT ?_
 refine u6 (Q4 3 f.pv rfl rfl) ?_
 refine q8 hT ?_
 refine x7 (Q7 [0,1,2] (z1z D f.at_ hw hn) rfl rfl rfl) ?_
 have hlt:=q8i ((q3g D f.at_ f.at_).trans hh)
 obtain⟨c,hc,g1⟩:=q7j (D.settle f.at_) ((q3g D f.at_ f.at_).trans hh)
 have g2:∀ e,((cx (D.settle f.at_).cells).set (0+f.at_.toNat) e)[0+f.at_.toNat]?=some e:=fun e=>by
  rw[Nat.zero_add];exact k2y (by rw[x5q];exact hlt.1)
 refine v7 [15,18] [12] hT y5 (by rfl) ?_
 refine⟨⟨rfl,by omega,by decide,by omega⟩,?_⟩
 refine⟨⟨rfl,List.length_replicate.symm⟩,?_⟩
 refine⟨⟨hlt.2.1,hlt.2.2⟩,?_⟩
 refine w9 g1 ?_
 refine y3s rfl (w9 rfl ?_)
 refine⟨⟨hlt.2.1,hlt.2.2⟩,?_⟩
 refine w9 (g2 _) ?_
 refine⟨rfl,?_⟩
 refine z9 [0,1,2] ⟨rfl,?_⟩ rfl
 refine Eq.trans ?_ (z2a (D.settle f.at_) f.at_ (fun c=>{ c with s:=z4v,lost:=false }) hc).symm
 refine Eq.trans (congrArg (fun z=>[q3w (D.settle f.at_) 1 2,ABlk.row Z4 4 z,ABlk.row Z0 2 (wx (D.settle f.at_).waits)]) (List.set_set ..)) ?_
 refine congrArg (fun z=>[q3w (D.settle f.at_) 1 2,ABlk.row Z4 4 ((cx (D.settle f.at_).cells).set (0+f.at_.toNat) [.sl 1 z,.raw (.bool false),.raw (.int .i64 c.drop),iP c.miss]),ABlk.row Z0 2 (wx (D.settle f.at_).waits)]) ?_
 exact bx_zeros.symm
theorem v1c (D:Dev)(f:Flt)(hh:D.has f.at_=true) :
 AFm Tryz.prog 3 z9p [.ref 0 0,f.av] (Y4 D) (v8 (.tup []) (Y4 (D.upd f.at_ fun c=>{ c with drop:=IntKind.i64.wrap (c.drop+f.n) }))):=by
 refine Q5 3 hT z9q rfl rfl z9r rfl rfl ?_
 refine q8 hT ?_
 refine u6 (Q4 3 f.pv rfl rfl) ?_
 have hlt:=q8i hh
 obtain⟨c,hc,g1⟩:=q7j D hh
 refine v7 [14] [] hT y5 (by rfl) ?_
 refine⟨⟨hlt.2.1,hlt.2.2⟩,?_⟩
 refine w9 g1 ?_
 refine⟨⟨hlt.2.1,hlt.2.2⟩,?_⟩
 refine w9 g1 ?_
 exact z9 [0,1,2] ⟨rfl,(z2a D f.at_ (fun c=>{ c with drop:=IntKind.i64.wrap (c.drop+f.n) }) hc).symm⟩ rfl
theorem v1d (D:Dev)(f:Flt)(hh:D.has f.at_=true)(hm:∀ c∈D.cells,c.miss.length≤1000000) :
 AFm Tryz.prog 3 z9s [.ref 0 0,f.av] (Y4 D) (v8 (.tup []) (Y4 (D.upd f.at_ fun c=>{ c with miss:=c.miss++[f.to] }))):=by
 refine Q5 3 hT z9t rfl rfl z9u rfl rfl ?_
 refine q8 hT ?_
 refine u6 (Q4 3 f.pv rfl rfl) ?_
 have hlt:=q8i hh
 obtain⟨c,hc,g1⟩:=q7j D hh
 have hcm:=hm _ (k2x hc)
 refine z8 ?_
 refine v7 [] [] hT y5 (by rfl) ?_
 refine⟨⟨hlt.2.1,hlt.2.2⟩,?_⟩
 refine v7 [5,9,12] [8,9] hT y5 (by rfl) ?_
 refine w9 g1 ?_
 refine⟨_,_,q2j (v0y c.miss hcm) _ rfl,?_⟩
 refine⟨⟨rfl,rfl⟩,?_⟩
 refine⟨y0g _,⟨?_,?_⟩,?_⟩
 ·show ((ix c.miss).length+1)*8≤140737488355328
  rw[y0g];omega
 ·show (ix c.miss).length+1≤140737488355328
  rw[y0g];omega
 refine⟨⟨rfl,rfl⟩,?_⟩
 refine w9 g1 ?_
 refine⟨rfl,?_⟩
 refine⟨⟨⟨rfl,rfl⟩,rfl⟩,?_⟩
 refine z9 [0,1,2] ⟨rfl,?_⟩ rfl
 refine Eq.trans ?_ (z2a D f.at_ (fun c=>{ c with miss:=c.miss++[f.to] }) hc).symm
 have e:ix (c.miss++[f.to])=ix c.miss++[[.raw (.int .i64 f.to)]]:=by simp[ix]
 show _=[_,ABlk.row Z4 4 ((cx D.cells).set (0+f.at_.toNat) [_,_,_,.sl 1 (ix (c.miss++[f.to]))]),_]
 rw[e]
 rfl
theorem v1e (l:z6)(hl:l.length≤1000000):AF Tryz.prog q1b [bA l] [] (v8 (.msl 0 1 0 l.length) [.row z1 1 (bx l)]):=by
 have hb:=w6 l
 show AF Tryz.prog q1b [.p (.sl 1 (bx l))] [] _
 rw[← hb]
 generalize bx l=xs at hb
 refine v6 hT q6i rfl rfl q6j rfl ?_
 refine q8 hT ?_
 refine z8 (q8 hT ?_)
 intro b hn
 refine z4 (y4 (fun h=>?_) (fun h=>?_))
 ·refine q8 hT ?_
  refine y9 ?_
  rw[hn h]
  exact x3z z1 1 ⟨rfl,rfl⟩
 ·refine z5 ?_
  refine q8 hT ?_
  refine⟨rfl,⟨?_,?_⟩,?_⟩
  ·show (0+xs.length)*1≤_;omega
  ·show 0+xs.length≤_;omega
  refine y9 ?_
  exact z9 [1] ⟨rfl,rfl⟩ rfl
def Flt.m (f:Flt):Nat→UInt8|0=>f.m0|1=>f.m1|2=>f.m2|_=>f.m3
def q6g (f:Flt)(s:z6):Nat→z6
 |0=>s
 |i+1=>match decide (f.off+i<(s.length:Int)) with
  |true=>(q6g f s i).set (f.off.toNat+i) ((q6g f s i).getD (f.off.toNat+i) 0 ^^^ f.m i)
  |false=>q6g f s i
theorem q9d (f:Flt)(s:z6):∀ i,(q6g f s i).length=s.length
 |0=>rfl
 |i+1=>by
  unfold q6g;split
  ·rw[List.length_set,q9d f s i]
  ·exact q9d f s i
theorem w5y (a b:UInt8):IntKind.u8.wrap ((BitVec.ofInt 8 (a.toNat:Int) ^^^ BitVec.ofInt 8 (b.toNat:Int)).toNat:Int)=((a ^^^ b).toNat:Int):=by
 have h1:BitVec.ofInt 8 (a.toNat:Int)=a.toBitVec:=by
  apply BitVec.eq_of_toNat_eq;simp
 have h2:BitVec.ofInt 8 (b.toNat:Int)=b.toBitVec:=by
  apply BitVec.eq_of_toNat_eq;simp
 rw[h1,h2]
 have h3:(a.toBitVec ^^^ b.toBitVec)=(a ^^^ b).toBitVec:=rfl
 rw[h3]
 have h4:(a ^^^ b).toBitVec.toNat<256:=(a ^^^ b).toBitVec.isLt
 show IntKind.u8.wrap (((a ^^^ b).toBitVec.toNat:Nat):Int)=(((a ^^^ b).toBitVec.toNat:Nat):Int)
 generalize (a ^^^ b).toBitVec.toNat=n at h4
 rw[IntKind.wrap_u8];omega
theorem y0i (f:Flt)(i:Nat)(h0:0≤f.off)(h1:f.off<256)(hi:i<4):IntKind.i64.wrap (f.off+((i:Nat):Int))=f.off+(i:Int)∧(IntKind.i64.wrap (f.off+((i:Nat):Int))).toNat=f.off.toNat+i:=by
 rw[y8 _ (by omega) (by omega)];omega
theorem q8j (f:Flt)(s:z6)(i:Nat)(h0:0≤f.off)(h1:f.off<256)(hi:i<4)(h:f.off+(i:Int)<(s.length:Int)) :
 (bx (q6g f s i))[0+(IntKind.i64.wrap (f.off+((i:Nat):Int))).toNat]?=some [u8 ((q6g f s i).getD (f.off.toNat+i) 0)]:=by
 rw[Nat.zero_add,(y0i f i h0 h1 hi).2]
 have hl:f.off.toNat+i<(q6g f s i).length:=by rw[q9d];omega
 rw[bx,k1q,k0x hl,k0w,k0x hl];rfl
theorem y3d (f:Flt)(s:z6)(i:Nat)(h0:0≤f.off)(h1:f.off<256)(hi:i<4)(h:f.off+(i:Int)<(s.length:Int)) :
 bx (q6g f s (i+1))=(bx (q6g f s i)).set (0+(IntKind.i64.wrap (f.off+((i:Nat):Int))).toNat) [.raw (.int .u8 (IntKind.u8.wrap ((BitVec.ofInt 8 (((q6g f s i).getD (f.off.toNat+i) 0).toNat:Int) ^^^ BitVec.ofInt 8 ((f.m i).toNat:Int)).toNat:Int)))]:=by
 rw[Nat.zero_add,(y0i f i h0 h1 hi).2,w5y]
 conv=>lhs;unfold q6g
 rw[k1u h]
 show bx (List.set _ _ _)=_
 rw[bx,List.map_set];rfl
theorem x5s (f:Flt)(s:z6)(i:Nat)(h:¬ f.off+(i:Int)<(s.length:Int)):q6g f s (i+1)=q6g f s i:=by
 conv=>lhs;unfold q6g
 rw[k1t h]
theorem v6p (D:Dev)(f:Flt)(hw:D.waitsIn)(hn:D.waits.length≤1000000)(hh:D.has f.at_=true)(h0:0≤f.off)(h1:f.off<256)(hs:∀ c∈(D.settle f.at_).cells,c.s.length≤1000000) :
 AFm Tryz.prog 3 y1w [.ref 0 0,f.av] (Y4 D) (v8 (.tup []) (Y4 ((D.settle f.at_).upd f.at_ fun c=>{ c with s:=q6g f c.s 4 }))):=by
 refine Q5 3 hT y1x rfl rfl y1y rfl rfl ?_
 refine q8 hT ?_
 refine u6 (Q4 3 f.pv rfl rfl) ?_
 refine q8 hT ?_
 refine x7 (Q7 [0,1,2] (z1z D f.at_ hw hn) rfl rfl rfl) ?_
 have hlt:=q8i ((q3g D f.at_ f.at_).trans hh)
 obtain⟨c,hc,g1⟩:=q7j (D.settle f.at_) ((q3g D f.at_ f.at_).trans hh)
 have hcs:=hs _ (k2x hc)
 refine z8 ?_
 refine v7 [9] [] hT y5 (by rfl) ?_
 refine⟨⟨hlt.2.1,hlt.2.2⟩,?_⟩
 refine w9 g1 ?_
 refine⟨_,_,q2j (v1e c.s hcs) _ rfl,?_⟩
 refine z8 (q8 hT ?_)
 refine z3 ?_
 refine y7 (fun n s=>∃ (i:Nat) (j:Int),n+i=4∧j=i∧s=⟨⟨54,[(0,.ref 0 0),(3,.p (.box f.pv)),(4,.msl 3 1 0 c.s.length),(22,.agg [.p (u8 f.m0),.p (u8 f.m1),.p (u8 f.m2),.p (u8 f.m3)]),(23,i64 j)]⟩,Y4 (D.settle f.at_)++[.row z1 1 (bx (q6g f c.s i))]⟩) 4 ⟨⟨54,_⟩,[_,_,_,_]⟩ (q7 [0,1,2,4] [0,3,4,22,23] rfl) ⟨0,_,rfl,rfl,rfl⟩ ?_
 rintro n s ⟨i,j,hni,rfl,rfl⟩
 refine q8 hT ?_
 refine z8 (z4 (y4 (fun h=>?_) (fun h=>?_)))
 ·have hi:i<4:=by
   have:=k0q (show decide ((i:Int)<4)=true from h)
   omega
  refine z5 ?_
  obtain rfl|rfl|rfl|rfl:i=0∨i=1∨i=2∨i=3:=by omega
  ·refine z8 (z3 (q8 hT ?_))
   refine⟨⟨by omega,by omega⟩,?_⟩
   have ha:=y0i f 0 h0 h1 (by omega)
   refine q8 hT ?_
   refine z4 (y4 (fun h3=>?_) (fun h3=>?_))
   ·have h3:f.off+((0:Nat):Int)<(c.s.length:Int):=by
     have:=k0q h3
     rw[ha.1]at this;exact this
    refine q9 hT ?_
    refine⟨⟨by rw[ha.1];omega,by rw[ha.1];exact h3⟩,?_⟩
    refine w9 (q8j f c.s 0 h0 h1 (by omega) h3) ?_
    refine⟨⟨by rw[ha.1];omega,by rw[ha.1];exact h3⟩,?_⟩
    refine w9 (q8j f c.s 0 h0 h1 (by omega) h3) ?_
    refine q9 hT ?_
    refine⟨n - 1,by omega,_,q7 [0,1,2,3] [0,3,4,22,23] rfl,0+1,IntKind.i64.wrap (((0:Nat):Int)+1),by omega,by decide,?_⟩
    refine congrArg (St.mk _) ?_
    rw[y3d f c.s 0 h0 h1 (by omega) h3]
    rfl
   ·have h3:¬ f.off+((0:Nat):Int)<(c.s.length:Int):=by
     have:=k0z h3
     rw[ha.1]at this;exact this
    refine z5 ?_
    refine q9 hT ?_
    refine⟨n - 1,by omega,_,q7 [0,1,2,3] [0,3,4,22,23] rfl,0+1,IntKind.i64.wrap (((0:Nat):Int)+1),by omega,by decide,?_⟩
    refine congrArg (St.mk _) ?_
    rw[x5s f c.s 0 h3]
    rfl
  ·refine z8 (z3 (q8 hT ?_))
   refine⟨⟨by omega,by omega⟩,?_⟩
   have ha:=y0i f 1 h0 h1 (by omega)
   refine q8 hT ?_
   refine z4 (y4 (fun h3=>?_) (fun h3=>?_))
   ·have h3:f.off+((1:Nat):Int)<(c.s.length:Int):=by
     have:=k0q h3
     rw[ha.1]at this;exact this
    refine q9 hT ?_
    refine⟨⟨by rw[ha.1];omega,by rw[ha.1];exact h3⟩,?_⟩
    refine w9 (q8j f c.s 1 h0 h1 (by omega) h3) ?_
    refine⟨⟨by rw[ha.1];omega,by rw[ha.1];exact h3⟩,?_⟩
    refine w9 (q8j f c.s 1 h0 h1 (by omega) h3) ?_
    refine q9 hT ?_
    refine⟨n - 1,by omega,_,q7 [0,1,2,3] [0,3,4,22,23] rfl,1+1,IntKind.i64.wrap (((1:Nat):Int)+1),by omega,by decide,?_⟩
    refine congrArg (St.mk _) ?_
    rw[y3d f c.s 1 h0 h1 (by omega) h3]
    rfl
   ·have h3:¬ f.off+((1:Nat):Int)<(c.s.length:Int):=by
     have:=k0z h3
     rw[ha.1]at this;exact this
    refine z5 ?_
    refine q9 hT ?_
    refine⟨n - 1,by omega,_,q7 [0,1,2,3] [0,3,4,22,23] rfl,1+1,IntKind.i64.wrap (((1:Nat):Int)+1),by omega,by decide,?_⟩
    refine congrArg (St.mk _) ?_
    rw[x5s f c.s 1 h3]
    rfl
  ·refine z8 (z3 (q8 hT ?_))
   refine⟨⟨by omega,by omega⟩,?_⟩
   have ha:=y0i f 2 h0 h1 (by omega)
   refine q8 hT ?_
   refine z4 (y4 (fun h3=>?_) (fun h3=>?_))
   ·have h3:f.off+((2:Nat):Int)<(c.s.length:Int):=by
     have:=k0q h3
     rw[ha.1]at this;exact this
    refine q9 hT ?_
    refine⟨⟨by rw[ha.1];omega,by rw[ha.1];exact h3⟩,?_⟩
    refine w9 (q8j f c.s 2 h0 h1 (by omega) h3) ?_
    refine⟨⟨by rw[ha.1];omega,by rw[ha.1];exact h3⟩,?_⟩
    refine w9 (q8j f c.s 2 h0 h1 (by omega) h3) ?_
    refine q9 hT ?_
    refine⟨n - 1,by omega,_,q7 [0,1,2,3] [0,3,4,22,23] rfl,2+1,IntKind.i64.wrap (((2:Nat):Int)+1),by omega,by decide,?_⟩
    refine congrArg (St.mk _) ?_
    rw[y3d f c.s 2 h0 h1 (by omega) h3]
    rfl
   ·have h3:¬ f.off+((2:Nat):Int)<(c.s.length:Int):=by
     have:=k0z h3
     rw[ha.1]at this;exact this
    refine z5 ?_
    refine q9 hT ?_
    refine⟨n - 1,by omega,_,q7 [0,1,2,3] [0,3,4,22,23] rfl,2+1,IntKind.i64.wrap (((2:Nat):Int)+1),by omega,by decide,?_⟩
    refine congrArg (St.mk _) ?_
    rw[x5s f c.s 2 h3]
    rfl
  ·refine z8 (z3 (q8 hT ?_))
   refine⟨⟨by omega,by omega⟩,?_⟩
   have ha:=y0i f 3 h0 h1 (by omega)
   refine q8 hT ?_
   refine z4 (y4 (fun h3=>?_) (fun h3=>?_))
   ·have h3:f.off+((3:Nat):Int)<(c.s.length:Int):=by
     have:=k0q h3
     rw[ha.1]at this;exact this
    refine q9 hT ?_
    refine⟨⟨by rw[ha.1];omega,by rw[ha.1];exact h3⟩,?_⟩
    refine w9 (q8j f c.s 3 h0 h1 (by omega) h3) ?_
    refine⟨⟨by rw[ha.1];omega,by rw[ha.1];exact h3⟩,?_⟩
    refine w9 (q8j f c.s 3 h0 h1 (by omega) h3) ?_
    refine q9 hT ?_
    refine⟨n - 1,by omega,_,q7 [0,1,2,3] [0,3,4,22,23] rfl,3+1,IntKind.i64.wrap (((3:Nat):Int)+1),by omega,by decide,?_⟩
    refine congrArg (St.mk _) ?_
    rw[y3d f c.s 3 h0 h1 (by omega) h3]
    rfl
   ·have h3:¬ f.off+((3:Nat):Int)<(c.s.length:Int):=by
     have:=k0z h3
     rw[ha.1]at this;exact this
    refine z5 ?_
    refine q9 hT ?_
    refine⟨n - 1,by omega,_,q7 [0,1,2,3] [0,3,4,22,23] rfl,3+1,IntKind.i64.wrap (((3:Nat):Int)+1),by omega,by decide,?_⟩
    refine congrArg (St.mk _) ?_
    rw[x5s f c.s 3 h3]
    rfl
 ·refine x6 ?_
  have hi:i=4:=by
   have:=k0z (show decide ((i:Int)<4)=false from h)
   omega
  subst hi
  refine u6 (y3b 4 3 rfl rfl (by rw[w6,q9d];omega)) ?_
  refine v7 [9] [] hT y5 (by rfl) ?_
  refine⟨⟨hlt.2.1,hlt.2.2⟩,?_⟩
  refine w9 g1 ?_
  refine z9 [0,1,2] ⟨rfl,?_⟩ rfl
  refine Eq.trans ?_ (z2a (D.settle f.at_) f.at_ (fun c=>{ c with s:=q6g f c.s 4 }) hc).symm
  refine congrArg (fun z=>[q3w (D.settle f.at_) 1 2,ABlk.row Z4 4 ((cx (D.settle f.at_).cells).set (0+f.at_.toNat) [.sl 1 z,.raw (.bool c.lost),.raw (.int .i64 c.drop),iP c.miss]),ABlk.row Z0 2 (wx (D.settle f.at_).waits)]) ?_
  show ((bx (q6g f c.s 4)).drop 0).take c.s.length=_
  rw[List.drop_zero,← q9d f c.s 4,← w6,List.take_length]
def Dev.may (D:Dev)(f:Flt):Int:=match D.has f.at_ with
 |false=>3
 |true=>match decide (f.kind<1)||decide (f.kind > 5) with
  |true=>1
  |false=>match (f.kind==1)&&(decide (f.off<0)||decide (f.off≥256)) with
   |true=>1
   |false=>match (f.kind==4)&&(decide (f.n<1)||decide (f.n > 1000)) with
    |true=>1
    |false=>match (f.kind==5)&&!(D.has f.to) with
     |true=>3
     |false=>0
theorem v6q (D:Dev)(f:Flt):AFm Tryz.prog 3 y1t [.ref 0 0,f.av] (Y4 D) (v8 (i64 (D.may f)) (Y4 D)):=by
 refine Q5 3 hT y1u rfl rfl y1v rfl rfl ?_
 refine q8 hT ?_
 refine u6 (Q4 3 f.pv rfl rfl) ?_
 refine z7 ⟨⟨57,[]⟩,Y4 D⟩ (D.may f=0) (z3 (q8 hT ?_)) ?_
 ·refine x7 (Q7 [0,1,2] (z7r D f.at_) rfl rfl rfl) ?_
  refine z4 (y4 (fun h=>?_) (fun h=>?_))
  ·have e:D.may f=3:=by unfold Dev.may;rw[(Bool.not_eq_true' _).mp h]
   refine q8 hT ?_
   refine y9 ?_
   rw[e]
   exact z9 [0,1,2] ⟨rfl,rfl⟩ rfl
  have h:D.has f.at_=true:=(Bool.not_eq_false' _).mp h
  have one:(decide (f.kind<1)||decide (f.kind > 5))=true→D.may f=1:=fun h2=>by unfold Dev.may;rw[h,h2]
  refine y6 (fun s1=>∃ b,b=(decide (f.kind<1)||decide (f.kind > 5))∧s1=⟨⟨57,[(0,.ref 0 0),(3,.p (.box f.pv)),(11,bl b)]⟩,Y4 D⟩) (q8 hT ?_) ?_
  ·refine z4 (y4 (fun h2=>?_) (fun h2=>?_))
   ·refine z5 ⟨_,q7 [0,1,2] [0,3,11] rfl,decide (f.kind<1),?_,rfl⟩
    rw[show decide (f.kind<1)=true from h2];rfl
   ·refine q9 hT ?_
    refine⟨_,q7 [0,1,2] [0,3,11] rfl,decide (f.kind > 5),?_,rfl⟩
    rw[show decide (f.kind<1)=false from h2];rfl
  rintro _ ⟨b,hb,rfl⟩
  refine z4 (y4 (fun h2=>?_) (fun h2=>?_))
  ·have e:D.may f=1:=one (hb.symm.trans h2)
   refine q8 hT ?_
   refine y9 ?_
   rw[e]
   exact z9 [0,1,2] ⟨rfl,rfl⟩ rfl
  have hk:(decide (f.kind<1)||decide (f.kind > 5))=false:=hb.symm.trans h2
  have two:((f.kind==1)&&(decide (f.off<0)||decide (f.off≥256)))=true→D.may f=1:=fun h3=>by unfold Dev.may;rw[h,hk,h3]
  refine y6 (fun s1=>∃ b,b=((f.kind==1)&&(decide (f.off<0)||decide (f.off≥256)))∧s1=⟨⟨57,[(0,.ref 0 0),(3,.p (.box f.pv)),(18,bl b)]⟩,Y4 D⟩) (q9 hT ?_) ?_
  ·refine y4 (fun h3=>?_) (fun h3=>?_)
   ·have h3:(f.kind==1)=true:=h3
    refine y4 (fun h4=>?_) (fun h4=>?_)
    ·refine⟨_,q7 [0,1,2] [0,3,18] rfl,true,?_,rfl⟩
     rw[h3,show decide (f.off<0)=true from h4];rfl
    ·refine⟨_,q7 [0,1,2] [0,3,18] rfl,decide (f.off≥256),?_,rfl⟩
     rw[h3,show decide (f.off<0)=false from h4];rfl
   ·have h3:(f.kind==1)=false:=h3
    refine⟨_,q7 [0,1,2] [0,3,18] rfl,false,?_,rfl⟩
    rw[h3];rfl
  rintro _ ⟨b,hb,rfl⟩
  refine z4 (y4 (fun h2=>?_) (fun h2=>?_))
  ·have e:D.may f=1:=two (hb.symm.trans h2)
   refine q8 hT ?_
   refine y9 ?_
   rw[e]
   exact z9 [0,1,2] ⟨rfl,rfl⟩ rfl
  have hk2:((f.kind==1)&&(decide (f.off<0)||decide (f.off≥256)))=false:=hb.symm.trans h2
  have three:((f.kind==4)&&(decide (f.n<1)||decide (f.n > 1000)))=true→D.may f=1:=fun h3=>by unfold Dev.may;rw[h,hk,hk2,h3]
  refine y6 (fun s1=>∃ b,b=((f.kind==4)&&(decide (f.n<1)||decide (f.n > 1000)))∧s1=⟨⟨57,[(0,.ref 0 0),(3,.p (.box f.pv)),(32,bl b)]⟩,Y4 D⟩) (q9 hT ?_) ?_
  ·refine y4 (fun h3=>?_) (fun h3=>?_)
   ·have h3:(f.kind==4)=true:=h3
    refine y4 (fun h4=>?_) (fun h4=>?_)
    ·refine⟨_,q7 [0,1,2] [0,3,32] rfl,true,?_,rfl⟩
     rw[h3,show decide (f.n<1)=true from h4];rfl
    ·refine⟨_,q7 [0,1,2] [0,3,32] rfl,decide (f.n > 1000),?_,rfl⟩
     rw[h3,show decide (f.n<1)=false from h4];rfl
   ·have h3:(f.kind==4)=false:=h3
    refine⟨_,q7 [0,1,2] [0,3,32] rfl,false,?_,rfl⟩
    rw[h3];rfl
  rintro _ ⟨b,hb,rfl⟩
  refine z4 (y4 (fun h2=>?_) (fun h2=>?_))
  ·have e:D.may f=1:=three (hb.symm.trans h2)
   refine q8 hT ?_
   refine y9 ?_
   rw[e]
   exact z9 [0,1,2] ⟨rfl,rfl⟩ rfl
  have hk3:((f.kind==4)&&(decide (f.n<1)||decide (f.n > 1000)))=false:=hb.symm.trans h2
  refine q8 hT ?_
  refine y4 (fun h3=>?_) (fun h3=>?_)
  ·have h3:(f.kind==5)=true:=h3
   refine x7 (Q7 [0,1,2] (z7r D f.to) rfl rfl rfl) ?_
   refine z4 (y4 (fun h4=>?_) (fun h4=>?_))
   ·have e:D.may f=3:=by unfold Dev.may;rw[h,hk,hk2,hk3,h3,show (!(D.has f.to))=true from h4];rfl
    refine q8 hT ?_
    refine y9 ?_
    rw[e]
    exact z9 [0,1,2] ⟨rfl,rfl⟩ rfl
   ·have e:D.may f=0:=by unfold Dev.may;rw[h,hk,hk2,hk3,h3,show (!(D.has f.to))=false from h4];rfl
    exact z5 ⟨q7 [0,1,2] [] rfl,e⟩
  ·have h3:(f.kind==5)=false:=h3
   have e:D.may f=0:=by unfold Dev.may;rw[h,hk,hk2,hk3,h3];rfl
   refine z4 ?_
   exact z5 ⟨q7 [0,1,2] [] rfl,e⟩
 ·intro e
  refine q8 hT ?_
  refine y9 ?_
  rw[e]
  exact z9 [0,1,2] ⟨rfl,rfl⟩ rfl
structure Dev.Ok (D:Dev) (b:Nat):Prop where
 at_:∀ x∈D.waits,0≤x.at_∧x.at_<(D.cells.length:Int)
 ws:∀ x∈D.waits,x.s.length=256
 cs:∀ c∈D.cells,c.s.length=256
 mt:∀ c∈D.cells,∀ t∈c.miss,0≤t∧t<(D.cells.length:Int)
 ml:∀ c∈D.cells,c.miss.length≤b
 wl:D.waits.length≤b
def Dev.hurt (D:Dev)(f:Flt):Dev:=
 if f.kind=1 then (D.settle f.at_).upd f.at_ fun c=>{ c with s:=q6g f c.s 4 }
 else if f.kind=2 then (D.settle f.at_).upd f.at_ fun c=>{ c with s:=z4v,lost:=false }
 else if f.kind=3 then (D.settle f.at_).upd f.at_ fun c=>{ c with lost:=true }
 else if f.kind=4 then D.upd f.at_ fun c=>{ c with drop:=IntKind.i64.wrap (c.drop+f.n) }
 else D.upd f.at_ fun c=>{ c with miss:=c.miss++[f.to] }
def Dev.fault (D:Dev)(f:Flt):Int × Dev:=match D.may f==0 with
 |false=>(D.may f,D)
 |true=>(0,D.hurt f)
theorem v6r {D:Dev}{f:Flt}(h:D.may f=0):D.has f.at_=true∧(1≤f.kind∧f.kind≤5)∧(f.kind=1→0≤f.off∧f.off<256)∧(f.kind=4→1≤f.n∧f.n≤1000)∧(f.kind=5→D.has f.to=true):=by
 unfold Dev.may at h
 split at h
 ·omega
 rename_i h1
 split at h
 ·omega
 rename_i h2
 split at h
 ·omega
 rename_i h3
 split at h
 ·omega
 rename_i h4
 split at h
 ·omega
 rename_i h5
 simp only[Bool.or_eq_false_iff,decide_eq_false_iff_not,Bool.and_eq_false_iff,beq_eq_false_iff_ne,Bool.not_eq_false']at h2 h3 h4 h5
 refine⟨h1,by omega,fun hk=>?_,fun hk=>?_,fun hk=>?_⟩
 ·rcases h3 with h3|h3
  ·exact absurd hk h3
  ·omega
 ·rcases h4 with h4|h4
  ·exact absurd hk h4
  ·omega
 ·rcases h5 with h5|h5
  ·exact absurd hk h5
  ·exact h5
theorem x1j {C:List Cell}{x:Wr}{c:Cell}(h:c∈q2b C x):c∈C∨∃ c0∈C,c = { c0 with s:=x.s,lost:=false }:=by
 unfold q2b at h
 split at h
 ·rename_i c0 hc0
  rcases List.mem_or_eq_of_mem_set h with h|h
  ·exact .inl h
  ·exact .inr ⟨c0,k2x hc0,h⟩
 ·exact .inl h
theorem z2b {a:Int}{W:List Wr}{C:List Cell}{c:Cell}(h:c∈q1c a W C):∃ c0∈C,c.miss=c0.miss∧(c.s=c0.s∨∃ x∈W,c.s=x.s):=by
 induction W generalizing C with
 |nil=>exact⟨c,h,rfl,.inl rfl⟩
 |cons x r ih=>
  have h:c∈q1c a r (match q4s a x with|true=>q2b C x|false=>C):=h
  obtain⟨c1,h1,h2,h3⟩:=ih h
  have:∃ c0∈C,c1.miss=c0.miss∧(c1.s=c0.s∨c1.s=x.s):=by
   split at h1
   ·rcases x1j h1 with h1|⟨c0,h0,e⟩
    ·exact⟨c1,h1,rfl,.inl rfl⟩
    ·exact⟨c0,h0,by rw[e],.inr (by rw[e])⟩
   ·exact⟨c1,h1,rfl,.inl rfl⟩
  obtain⟨c0,g1,g2,g3⟩:=this
  refine⟨c0,g1,h2.trans g2,?_⟩
  rcases h3 with h3|⟨y,hy,h3⟩
  ·rcases g3 with g3|g3
   ·exact .inl (h3.trans g3)
   ·exact .inr ⟨x,by simp,h3.trans g3⟩
  ·exact .inr ⟨y,by simp[hy],h3⟩
theorem Dev.Ok.settle {D:Dev}{b:Nat}(h:D.Ok b)(a:Int):(D.settle a).Ok b:=by
 have hl:(D.settle a).cells.length=D.cells.length:=q8h _ _ _
 have hw:∀ x∈(D.settle a).waits,x∈D.waits:=fun x hx=>(List.mem_filter.1 hx).1
 refine⟨fun x hx=>by rw[hl];exact h.at_ x (hw x hx),fun x hx=>h.ws x (hw x hx),fun c hc=>?_,fun c hc t ht=>?_,fun c hc=>?_,Nat.le_trans (w5w a D.waits) h.wl⟩
 ·obtain⟨c0,h0,_,h2⟩:=z2b hc
  rcases h2 with h2|⟨x,hx,h2⟩
  ·rw[h2];exact h.cs c0 h0
  ·rw[h2];exact h.ws x hx
 ·obtain⟨c0,h0,h1,_⟩:=z2b hc
  rw[h1]at ht;rw[hl];exact h.mt c0 h0 t ht
 ·obtain⟨c0,h0,h1,_⟩:=z2b hc
  rw[h1];exact h.ml c0 h0
theorem w5z (D:Dev)(f:Flt)(b:Nat)(hD:D.Ok b)(hb:b≤1000000):AFm Tryz.prog 3 z6m [.ref 0 0,f.av] (Y4 D) (v8 (i64 (D.fault f).1) (Y4 (D.fault f).2)):=by
 refine Q5 3 hT z6n rfl rfl z6p rfl rfl ?_
 refine q8 hT ?_
 refine u6 (Q4 3 f.pv rfl rfl) ?_
 refine z8 (q8 hT ?_)
 refine x7 (Q7 [0,1,2] (v6q D f) rfl rfl rfl) ?_
 refine q8 hT ?_
 refine z4 (y4 (fun h=>?_) (fun h=>?_))
 ·have h:(D.may f==0)=false:=by
   have h:(D.may f != 0)=true:=h
   simpa using h
  have e:D.fault f=(D.may f,D):=by unfold Dev.fault;rw[h]
  refine q8 hT ?_
  refine y9 ?_
  rw[e]
  exact z9 [0,1,2] ⟨rfl,rfl⟩ rfl
 have h:(D.may f==0)=true:=by
  have h:(D.may f != 0)=false:=h
  simpa using h
 have e:D.fault f=(0,D.hurt f):=by unfold Dev.fault;rw[h]
 have hm:=v6r (show D.may f=0 by simpa using h)
 rw[e]
 refine z5 ?_
 refine q8 hT ?_
 obtain⟨k,fa,fo,fn,ft,f0,f1,f2,f3⟩:=f
 have hw:D.waitsIn:=fun x hx=>hD.at_ x hx
 have hn:D.waits.length≤1000000:=Nat.le_trans hD.wl hb
 have hcs:∀ c∈(D.settle fa).cells,c.s.length≤1000000:=fun c hc=>by rw[(hD.settle fa).cs c hc];omega
 have hml:∀ c∈D.cells,c.miss.length≤1000000:=fun c hc=>Nat.le_trans (hD.ml c hc) hb
 have hk:k=1∨k=2∨k=3∨k=4∨k=5:=by have:=hm.2.1;simp only at this;omega
 rcases hk with rfl|rfl|rfl|rfl|rfl
 ·refine q8 hT ?_
  refine x7 (Q7 [0,1,2] (v6p D ⟨1,fa,fo,fn,ft,f0,f1,f2,f3⟩ hw hn hm.1 (hm.2.2.1 rfl).1 (hm.2.2.1 rfl).2 hcs) rfl rfl rfl) ?_
  refine q8 hT ?_
  refine y9 ?_
  exact z9 [0,1,2] ⟨rfl,rfl⟩ rfl
 ·refine q8 hT ?_
  refine x7 (Q7 [0,1,2] (w5x D ⟨2,fa,fo,fn,ft,f0,f1,f2,f3⟩ hw hn hm.1) rfl rfl rfl) ?_
  refine q8 hT ?_
  refine y9 ?_
  exact z9 [0,1,2] ⟨rfl,rfl⟩ rfl
 ·refine q8 hT ?_
  refine x7 (Q7 [0,1,2] (v1b D ⟨3,fa,fo,fn,ft,f0,f1,f2,f3⟩ hw hn hm.1) rfl rfl rfl) ?_
  refine q8 hT ?_
  refine y9 ?_
  exact z9 [0,1,2] ⟨rfl,rfl⟩ rfl
 ·refine q8 hT ?_
  refine x7 (Q7 [0,1,2] (v1c D ⟨4,fa,fo,fn,ft,f0,f1,f2,f3⟩ hm.1) rfl rfl rfl) ?_
  refine q8 hT ?_
  refine y9 ?_
  exact z9 [0,1,2] ⟨rfl,rfl⟩ rfl
 ·refine q8 hT ?_
  refine x7 (Q7 [0,1,2] (v1d D ⟨5,fa,fo,fn,ft,f0,f1,f2,f3⟩ hm.1 hml) rfl rfl rfl) ?_
  refine q8 hT ?_
  refine y9 ?_
  exact z9 [0,1,2] ⟨rfl,rfl⟩ rfl
def Q3z (b:UInt8):z6:=List.replicate 256 b
theorem u3b (l:z6)(i:Nat)(b:UInt8):bx (l.set i b)=(bx l).set i [u8 b]:=by simp[bx,List.map_set]
theorem y6n (s t:z6)(hs:s.length≤1000000):AF Tryz.prog x4d [bA s,bA t] [] (v8 (bl (s==t)) []):=by
 refine v6 hT x4e rfl rfl x4f rfl ?_
 refine q8 hT ?_
 refine z8 (q8 hT ?_)
 refine z4 (y4 (fun h=>?_) (fun h=>?_))
 ·have hne:(s==t)=false:=by
   have h:(((bx s).length:Int) != ((bx t).length:Int))=true:=h
   rw[w6,w6]at h
   rw[beq_eq_false_iff_ne]
   rintro rfl
   simp at h
  refine q8 hT ?_
  refine y9 ?_
  rw[hne]
  exact z9 [] ⟨rfl,rfl⟩ rfl
 have hlen:s.length=t.length:=by
  have h:(((bx s).length:Int) != ((bx t).length:Int))=false:=h
  rw[w6,w6]at h
  have h:(s.length:Int)=t.length:=by simpa using h
  omega
 refine z5 ?_
 refine z8 (q8 hT ?_)
 refine z3 ?_
 refine y7 (fun n st=>∃ (i:Nat) (j:Int),n+i=s.length∧j=i∧s.take i=t.take i∧st=⟨⟨26,[(0,bA s),(1,bA t),(5,i64 j)]⟩,[]⟩) s.length ⟨⟨26,_⟩,[]⟩ (q7 [] [0,1,5] rfl) ⟨0,_,rfl,rfl,rfl,rfl⟩ ?_
 rintro n st ⟨i,j,hni,rfl,ht,rfl⟩
 refine z8 (q8 hT ?_)
 refine z4 (y4 (fun h=>?_) (fun h=>?_))
 ·have hi:i<s.length:=by
   have:=k0q (show decide ((i:Int)<((bx s).length:Int))=true from h)
   rw[w6]at this;omega
  have hx:(bx s)[((i:Nat):Int).toNat]?=some [u8 s[i]]:=by
   rw[k0v,bx,k1q,k0x hi];rfl
  have hy:(bx t)[((i:Nat):Int).toNat]?=some [u8 (t[i]'(by omega))]:=by
   rw[k0v,bx,k1q,k0x (by omega)];rfl
  refine z5 ?_
  refine z8 (z3 (z8 ?_))
  refine v7 [] [] hT y5 (by rfl) ?_
  refine⟨k2w _,w9 hx ?_⟩
  refine⟨k2w _,w9 hy ?_⟩
  refine z4 (y4 (fun h2=>?_) (fun h2=>?_))
  ·have hne:(s==t)=false:=by
    rw[beq_eq_false_iff_ne]
    rintro rfl
    have h2:(((s[i].toNat:Nat):Int) != ((s[i].toNat:Nat):Int))=true:=h2
    simp at h2
   refine q8 hT ?_
   refine y9 ?_
   rw[hne]
   exact z9 [] ⟨rfl,rfl⟩ rfl
  ·have he:s[i]=t[i]'(by omega):=by
    have h2:(((s[i].toNat:Nat):Int) != (((t[i]'(by omega)).toNat:Nat):Int))=false:=h2
    have h2:(s[i].toNat:Int)=((t[i]'(by omega)).toNat:Int):=by simpa using h2
    have h2:s[i].toNat=(t[i]'(by omega)).toNat:=by omega
    exact UInt8.toNat_inj.mp h2
   refine z5 ?_
   refine q9 hT ?_
   refine⟨n - 1,by omega,_,q7 [] [0,1,5] rfl,i+1,IntKind.i64.wrap ((i:Int)+1),by omega,?_,?_,rfl⟩
   ·rw[y8 _ (by omega) (by omega)];rfl
   ·rw[k2t,k2t,ht,k0x hi,k0x (show i<t.length by omega),he]
 ·refine x6 ?_
  have hi:i=s.length:=by
   have:=k0z (show decide ((i:Int)<((bx s).length:Int))=false from h)
   rw[w6]at this;omega
  have he:(s==t)=true:=by
   rw[beq_iff_eq]
   rw[hi,List.take_length,hlen,List.take_length]at ht
   exact ht
  refine q8 hT ?_
  refine y9 ?_
  rw[he]
  exact z9 [] ⟨rfl,rfl⟩ rfl
theorem Dev.Ok.mono {D:Dev}{b b':Nat}(h:D.Ok b)(hb:b≤b'):D.Ok b':=
 ⟨h.at_,h.ws,h.cs,h.mt,fun c hc=>Nat.le_trans (h.ml c hc) hb,Nat.le_trans h.wl hb⟩
theorem v6s (n b:Nat):(Dev.new n).Ok b:=by
 refine⟨fun x hx=>by simp[Dev.new]at hx,fun x hx=>by simp[Dev.new]at hx,fun c hc=>?_,fun c hc t ht=>?_,fun c hc=>?_,Nat.zero_le _⟩
 ·rw[List.eq_of_mem_replicate hc];exact k2q
 ·rw[List.eq_of_mem_replicate hc]at ht;simp at ht
 ·rw[List.eq_of_mem_replicate hc];exact Nat.zero_le _
theorem Dev.Ok.lives {D:Dev}{b:Nat}(h:D.Ok b):D.lives.Ok b:=⟨h.at_,h.ws,h.cs,h.mt,h.ml,h.wl⟩
theorem Dev.Ok.count {D:Dev}{b:Nat}(h:D.Ok b):D.count.Ok b:=⟨h.at_,h.ws,h.cs,h.mt,h.ml,h.wl⟩
theorem Dev.Ok.read {D:Dev}{b:Nat}(h:D.Ok b)(a:Int):(D.read a).2.Ok b:=by
 unfold Dev.read
 split
 ·exact h
 ·split
  ·exact h
  ·exact h.count
theorem z5s {W:List Wr}{keep:List Bool}{C:List Cell}{i:Nat}{c:Cell}(h:c∈q2r W keep i C)(hi:i≤W.length):∃ c0∈C,c.miss=c0.miss∧(c.s=c0.s∨∃ x∈W,c.s=x.s):=by
 induction i generalizing c with
 |zero=>exact⟨c,h,rfl,.inl rfl⟩
 |succ i ih=>
  unfold q2r at h
  split at h
  ·have hx:W.getD i ⟨0,[]⟩∈W:=by
    rw[k0w,k0x (by omega)]
    exact k1x _
   rcases x1j h with h|⟨c0,h0,e⟩
   ·exact ih h (by omega)
   ·obtain⟨c1,g1,g2,_⟩:=ih h0 (by omega)
    refine⟨c1,g1,by rw[e];exact g2,.inr ⟨_,hx,by rw[e]⟩⟩
  ·exact ih h (by omega)
theorem Dev.Ok.drain {D:Dev}{b:Nat}(h:D.Ok b)(keep:List Bool):(D.drain keep).Ok b:=by
 have hl:(D.drain keep).cells.length=D.cells.length:=q5e _ _ _ _
 refine⟨fun x hx=>by simp[Dev.drain]at hx,fun x hx=>by simp[Dev.drain]at hx,fun c hc=>?_,fun c hc t ht=>?_,fun c hc=>?_,Nat.zero_le _⟩
 ·obtain⟨c0,h0,_,h2⟩:=z5s hc (k1w _)
  rcases h2 with h2|⟨x,hx,h2⟩
  ·rw[h2];exact h.cs c0 h0
  ·rw[h2];exact h.ws x hx
 ·obtain⟨c0,h0,h1,_⟩:=z5s hc (k1w _)
  rw[h1]at ht;rw[hl];exact h.mt c0 h0 t ht
 ·obtain⟨c0,h0,h1,_⟩:=z5s hc (k1w _)
  rw[h1];exact h.ml c0 h0
theorem Dev.Ok.crashed {D:Dev}{b:Nat}(h:D.Ok b)(keep:List Bool):(D.crashed keep).Ok b:=by
 have h:=h.drain keep
 exact⟨h.at_,h.ws,h.cs,h.mt,h.ml,h.wl⟩
theorem Dev.Ok.flush {D:Dev}{b:Nat}(h:D.Ok b):D.flush.2.Ok b:=by
 unfold Dev.flush
 split
 ·exact h
 ·split
  ·exact h.lives
  ·exact h.lives.drain _
theorem Dev.Ok.set {D:Dev}{b:Nat}(h:D.Ok b)(i:Nat){c:Cell}(h1:c.s.length=256)(h2:∀ t∈c.miss,0≤t∧t<(D.cells.length:Int))(h3:c.miss.length≤b):({ D with cells:=D.cells.set i c }:Dev).Ok b:=by
 have hm:∀ x∈D.cells.set i c,x∈D.cells∨x=c:=fun x hx=>List.mem_or_eq_of_mem_set hx
 refine⟨fun x hx=>by show _∧_<((D.cells.set i c).length:Int);rw[List.length_set];exact h.at_ x hx,h.ws,fun x hx=>?_,fun x hx t ht=>?_,fun x hx=>?_,h.wl⟩
 ·rcases hm x hx with hx|rfl
  ·exact h.cs x hx
  ·exact h1
 ·show _∧_<((D.cells.set i c).length:Int)
  rw[List.length_set]
  rcases hm x hx with hx|rfl
  ·exact h.mt x hx t ht
  ·exact h2 t ht
 ·rcases hm x hx with hx|rfl
  ·exact h.ml x hx
  ·exact h3
theorem Dev.Ok.wait {D:Dev}{b:Nat}(h:D.Ok b){x:Wr}(h1:0≤x.at_∧x.at_<(D.cells.length:Int))(h2:x.s.length=256):({ D with waits:=D.waits++[x] }:Dev).Ok (b+1):=by
 have hm:∀ y∈D.waits++[x],y∈D.waits∨y=x:=fun y hy=>by simpa using hy
 refine⟨fun y hy=>?_,fun y hy=>?_,h.cs,h.mt,fun c hc=>Nat.le_succ_of_le (h.ml c hc),?_⟩
 ·rcases hm y hy with hy|rfl
  ·exact h.at_ y hy
  ·exact h1
 ·rcases hm y hy with hy|rfl
  ·exact h.ws y hy
  ·exact h2
 ·show (D.waits++[x]).length≤b+1
  have:=h.wl
  simp;omega
theorem Dev.Ok.put {D:Dev}{b:Nat}(h:D.Ok b){a:Int}(ha:D.has a=true){s:z6}(hs:s.length=256):(D.put a s).Ok (b+1):=by
 have hlt:=q8i ha
 obtain⟨c,hc,_⟩:=q7j D ha
 have hcm:=k2x hc
 obtain⟨c1,c2,c3,c4⟩:=c
 cases h3:decide (c3 > 0) with
 |true=>
  rw[w0z hc h3]
  exact(h.set a.toNat (c:=⟨c1,c2,IntKind.i64.wrap (c3 - 1),c4⟩) (h.cs ⟨c1,c2,c3,c4⟩ hcm) (h.mt ⟨c1,c2,c3,c4⟩ hcm) (h.ml ⟨c1,c2,c3,c4⟩ hcm)).mono (Nat.le_succ _)
 |false=>
  cases c4 with
  |nil=>
   rw[x1e hc h3]
   exact h.wait hlt.2 hs
  |cons t r=>
   rw[w1a hc h3]
   have ht:=h.mt _ hcm t (by simp)
   have h1:=h.set a.toNat (c:=⟨c1,c2,c3,r⟩) (h.cs ⟨c1,c2,c3,t :: r⟩ hcm) (fun t' ht'=>h.mt _ hcm t' (by simp[ht'])) (Nat.le_trans (Nat.le_succ _) (h.ml _ hcm))
   exact h1.wait (x:=⟨t,s⟩) (by show _∧_<((D.cells.set _ _).length:Int);rw[List.length_set];exact ht) hs
theorem Dev.Ok.write {D:Dev}{b:Nat}(h:D.Ok b)(a:Int)(s:z6):(D.write a s).2.Ok (b+1):=by
 unfold Dev.write
 split
 ·exact h.mono (Nat.le_succ _)
 split
 ·exact h.mono (Nat.le_succ _)
 rename_i ha
 split
 ·exact h.mono (Nat.le_succ _)
 rename_i hs
 split
 ·exact h.lives.mono (Nat.le_succ _)
 ·have hs:(s.length:Int)=256:=by simpa using hs
  exact h.lives.count.put (a:=a) ha (by omega)
theorem Dev.Ok.upd {D:Dev}{b:Nat}(h:D.Ok b){a:Int}(ha:D.has a=true)(g:Cell→Cell)(h1:∀ c∈D.cells,(g c).s.length=256)(h2:∀ c∈D.cells,∀ t∈(g c).miss,0≤t∧t<(D.cells.length:Int))(h3:∀ c∈D.cells,(g c).miss.length≤b):(D.upd a g).Ok b:=by
 obtain⟨c,hc,_⟩:=q7j D ha
 have hcm:=k2x hc
 unfold Dev.upd
 rw[y1i g hc]
 exact h.set a.toNat (h1 c hcm) (h2 c hcm) (h3 c hcm)
theorem Dev.Ok.fault {D:Dev}{b:Nat}(h:D.Ok b)(f:Flt):(D.fault f).2.Ok (b+1):=by
 unfold Dev.fault
 split
 ·exact h.mono (Nat.le_succ _)
 rename_i hm
 have hm:=v6r (show D.may f=0 by simpa using hm)
 have hs:=h.settle f.at_
 have ha:(D.settle f.at_).has f.at_=true:=(q3g D f.at_ f.at_).trans hm.1
 unfold Dev.hurt
 split
 ·exact(hs.upd ha (fun c=>{ c with s:=q6g f c.s 4 }) (fun c hc=>(q9d f c.s 4).trans (hs.cs c hc)) (fun c hc=>hs.mt c hc) (fun c hc=>hs.ml c hc)).mono (Nat.le_succ _)
 split
 ·exact(hs.upd ha (fun c=>{ c with s:=z4v,lost:=false }) (fun c hc=>k2q) (fun c hc=>hs.mt c hc) (fun c hc=>hs.ml c hc)).mono (Nat.le_succ _)
 split
 ·exact(hs.upd ha (fun c=>{ c with lost:=true }) (fun c hc=>hs.cs c hc) (fun c hc=>hs.mt c hc) (fun c hc=>hs.ml c hc)).mono (Nat.le_succ _)
 split
 ·exact(h.upd hm.1 (fun c=>{ c with drop:=IntKind.i64.wrap (c.drop+f.n) }) (fun c hc=>h.cs c hc) (fun c hc=>h.mt c hc) (fun c hc=>h.ml c hc)).mono (Nat.le_succ _)
 ·have h5:f.kind=5:=by omega
  have hto:=q8i (hm.2.2.2.2 h5)
  refine(h.mono (Nat.le_succ _)).upd hm.1 (fun c=>{ c with miss:=c.miss++[f.to] }) (fun c hc=>h.cs c hc) (fun c hc t ht=>?_) (fun c hc=>?_)
  ·rcases List.mem_append.1 ht with ht|ht
   ·exact h.mt c hc t ht
   ·have:t=f.to:=by simpa using ht
    rw[this];exact hto.2
  ·have:=h.ml c hc
   simp;omega
def Dev.holds (D:Dev)(a:Int)(b:UInt8):Bool:=match (D.read a).1.2==0 with|true=>(D.read a).1.1==Q3z b|false=>false
theorem Dev.Ok.big {D:Dev}{b:Nat}(h:D.Ok b)(hb:b≤1000000):D.waitsIn∧D.waits.length≤1000000∧(∀ x∈D.waits,x.s.length≤1000000)∧(∀ c∈D.cells,c.s.length≤1000000):=
 ⟨h.at_,Nat.le_trans h.wl hb,fun x hx=>by rw[h.ws x hx];omega,fun c hc=>by rw[h.cs c hc];omega⟩
end Go.Proofs.YtinfbclgkghgaaaGreat.AL
namespace Go.Proofs.YtinfbclgkghgaaaGreat.AL
namespace Crc
abbrev W:=BitVec 32
def poly:W:=0x82F63B78#32
def st (n:W):W:=(n >>> 1) ^^^ (match n.getLsbD 0 with|true=>poly|false=>0#32)
def stN:Nat→W→W
 |0,n=>n
 |k+1,n=>stN k (st n)
theorem u3c (a b:W):st (a ^^^ b)=st a ^^^ st b:=by
 unfold st
 rw[BitVec.ushiftRight_xor_distrib,BitVec.getLsbD_xor]
 cases a.getLsbD 0 <;> cases b.getLsbD 0
 ·simp
 ·simp[BitVec.xor_assoc]
 ·simp only[Bool.xor_false,BitVec.xor_zero]
  rw[BitVec.xor_assoc,BitVec.xor_assoc,BitVec.xor_comm (b >>> 1)]
 ·show (a >>> 1 ^^^ b >>> 1) ^^^ 0#32=(a >>> 1 ^^^ poly) ^^^ (b >>> 1 ^^^ poly)
  rw[BitVec.xor_zero,BitVec.xor_assoc (a >>> 1),← BitVec.xor_assoc poly,BitVec.xor_comm poly (b >>> 1),BitVec.xor_assoc (b >>> 1),BitVec.xor_self,BitVec.xor_zero]
theorem z7u:∀ (k:Nat) (a b:W),stN k (a ^^^ b)=stN k a ^^^ stN k b
 |0,_,_=>rfl
 |k+1,a,b=>by rw[stN,stN,stN,u3c,z7u k]
theorem z3n:∀ (j k:Nat) (n:W),stN (j+k) n=stN k (stN j n)
 |0,k,n=>by rw[Nat.zero_add];rfl
 |j+1,k,n=>by rw[Nat.add_right_comm];exact z3n j k (st n)
theorem v9w {n:W}(h:n.getLsbD 0=false):st n=n >>> 1:=by unfold st;rw[h];simp
theorem x5t:∀ (k:Nat) {n:W},(∀ i,i<k→n.getLsbD i=false)→stN k n=n >>> k
 |0,n,_=>by simp[stN]
 |k+1,n,h=>by
  rw[stN,v9w (h 0 (by omega)),x5t k (fun i hi=>by rw[BitVec.getLsbD_ushiftRight];exact h (1+i) (by omega)),← BitVec.shiftRight_add,Nat.add_comm k 1]
theorem y6p (i:Nat):(255#32).getLsbD i=decide (i<8):=by
 by_cases h:i<32
 ·have:∀ j:Fin 32,(255#32).getLsbD j.val=decide (j.val<8):=by decide
  exact this ⟨i,h⟩
 ·rw[BitVec.getLsbD_of_ge _ _ (by omega),k1t (by omega)]
theorem v9x (n:W):stN 8 (n ^^^ (n &&& 255#32))=n >>> 8:=by
 rw[x5t 8 (fun i hi=>by rw[BitVec.getLsbD_xor,BitVec.getLsbD_and,y6p,k1u hi,Bool.and_true,Bool.xor_self])]
 apply BitVec.eq_of_getLsbD_eq
 intro i hi
 rw[BitVec.getLsbD_ushiftRight,BitVec.getLsbD_ushiftRight,BitVec.getLsbD_xor,BitVec.getLsbD_and,y6p,k1t (by omega),Bool.and_false,Bool.xor_false]
def wd (c:UInt8):W:=BitVec.ofNat 32 c.toNat
def z4m (n:W)(c:UInt8):W:=stN 8 (n ^^^ wd c)
def run (n:W)(l:List UInt8):W:=l.foldl z4m n
def all1:W:=0xFFFFFFFF#32
def sum (l:List UInt8):W:=run all1 l ^^^ all1
theorem z0k (n:W)(l r:List UInt8):run n (l++r)=run (run n l) r:=List.foldl_append
theorem w1d (n:W)(l:List UInt8)(c:UInt8):run n (l++[c])=z4m (run n l) c:=by rw[z0k];rfl
theorem v6t (a b:W)(c:UInt8):z4m (a ^^^ b) c=z4m a c ^^^ stN 8 b:=by
 unfold z4m
 rw[BitVec.xor_assoc,BitVec.xor_comm b,← BitVec.xor_assoc,z7u]
theorem w8s:∀ (l:List UInt8) (a b:W),run (a ^^^ b) l=run a l ^^^ stN (8*l.length) b
 |[],a,b=>rfl
 |c :: r,a,b=>by
  show run (z4m (a ^^^ b) c) r=run (z4m a c) r ^^^ _
  rw[v6t,w8s r,← z3n,List.length_cons]
  congr 2
  omega
theorem v9y {n:W}(h:st n=0#32):n=0#32:=by
 unfold st at h
 have h31:=congrArg (fun x=>BitVec.getLsbD x 31) h
 simp only[BitVec.getLsbD_xor,BitVec.getLsbD_ushiftRight]at h31
 rw[BitVec.getLsbD_of_ge n (1+31) (by omega)]at h31
 cases hb:n.getLsbD 0 with
 |true=>
  rw[hb]at h31
  exact absurd h31 (by decide)
 |false=>
  rw[hb]at h
  have h:n >>> 1 ^^^ 0#32=0#32:=h
  rw[BitVec.xor_zero]at h
  apply BitVec.eq_of_getLsbD_eq
  intro i hi
  rw[BitVec.getLsbD_zero]
  cases i with
  |zero=>exact hb
  |succ i=>
   have:=congrArg (fun x=>BitVec.getLsbD x i) h
   simp only[BitVec.getLsbD_ushiftRight,BitVec.getLsbD_zero]at this
   rw[Nat.add_comm];exact this
theorem y6q:∀ (k:Nat) {n:W},stN k n=0#32→n=0#32
 |0,_,h=>h
 |k+1,_,h=>v9y (y6q k h)
theorem w8t:∀ k,stN k 0#32=0#32
 |0=>rfl
 |k+1=>by rw[stN,show st 0#32=0#32 by decide];exact w8t k
def x1k (a b c d:UInt8):W:=wd a ^^^ (wd b <<< 8) ^^^ (wd c <<< 16) ^^^ (wd d <<< 24)
theorem q8k (c:UInt8){i:Nat}(h:8≤i):(wd c).getLsbD i=false:=by
 unfold wd
 rw[BitVec.getLsbD_ofNat]
 have:c.toNat<2 ^ i:=Nat.lt_of_lt_of_le c.toNat_lt (Nat.pow_le_pow_right (by omega) h)
 rw[Nat.testBit_lt_two_pow this,Bool.and_false]
theorem v9z (k:Nat){n:W}(hk:k≤32)(h:∀ i,32 - k≤i→n.getLsbD i=false):stN k (n <<< k)=n:=by
 rw[x5t k (fun i hi=>by rw[BitVec.getLsbD_shiftLeft,k1u hi];simp)]
 apply BitVec.eq_of_getLsbD_eq
 intro i hi
 rw[BitVec.getLsbD_ushiftRight,BitVec.getLsbD_shiftLeft,k1t (show ¬ k+i<k by omega)]
 by_cases hl:k+i<32
 ·rw[k1u hl,Nat.add_sub_cancel_left];rfl
 ·rw[k1t hl,h i (by omega)];rfl
theorem y0j (x:W)(k:Nat)(hk:k≤24)(c:UInt8):stN k x ^^^ wd c=stN k (x ^^^ (wd c <<< k)):=by
 rw[z7u,v9z k (by omega) (fun i hi=>q8k c (by omega))]
theorem u9u (x:W)(a b c d:UInt8):run x [a,b,c,d]=stN 32 (x ^^^ x1k a b c d):=by
 show stN 8 (stN 8 (stN 8 (stN 8 (x ^^^ wd a) ^^^ wd b) ^^^ wd c) ^^^ wd d)=_
 rw[y0j (x ^^^ wd a) 8 (by omega) b,← z3n 8 8,y0j _ 16 (by omega) c,← z3n 16 8,y0j _ 24 (by omega) d,← z3n 24 8]
 unfold x1k
 congr 1
 rw[BitVec.xor_assoc,BitVec.xor_assoc,BitVec.xor_assoc,BitVec.xor_assoc,BitVec.xor_assoc]
theorem y3e {c:UInt8}(h:∀ i,i<8→(wd c).getLsbD i=false):c=0:=by
 have h0:wd c=0#32:=by
  apply BitVec.eq_of_getLsbD_eq
  intro i hi
  rw[BitVec.getLsbD_zero]
  by_cases h8:i<8
  ·exact h i h8
  ·exact q8k c (by omega)
 have h1:=congrArg BitVec.toNat h0
 unfold wd at h1
 rw[BitVec.toNat_ofNat,Nat.mod_eq_of_lt (Nat.lt_trans c.toNat_lt (by decide))]at h1
 exact UInt8.toNat_inj.1 h1
def u0a (a b c d:UInt8):Nat→UInt8|0=>a|1=>b|2=>c|_=>d
theorem x1m (a b c d:UInt8){j i:Nat}(hj:j<4)(hi:i<8):(x1k a b c d).getLsbD (8*j+i)=(wd (u0a a b c d j)).getLsbD i:=by
 unfold x1k u0a
 have hlt:8*j+i<32:=by omega
 simp only[BitVec.getLsbD_xor,BitVec.getLsbD_shiftLeft,decide_eq_true hlt,Bool.true_and]
 match j,hj with
 |0,_=>rw[k1u (show 8*0+i<8 by omega),k1u (show 8*0+i<16 by omega),k1u (show 8*0+i<24 by omega)];simp
 |1,_=>rw[k1t (show ¬ 8*1+i<8 by omega),k1u (show 8*1+i<16 by omega),k1u (show 8*1+i<24 by omega),q8k a (show 8≤8*1+i by omega),show 8*1+i - 8=i by omega];simp
 |2,_=>rw[k1t (show ¬ 8*2+i<8 by omega),k1t (show ¬ 8*2+i<16 by omega),k1u (show 8*2+i<24 by omega),q8k a (show 8≤8*2+i by omega),q8k b (show 8≤8*2+i - 8 by omega),show 8*2+i - 16=i by omega];simp
 |3,_=>rw[k1t (show ¬ 8*3+i<8 by omega),k1t (show ¬ 8*3+i<16 by omega),k1t (show ¬ 8*3+i<24 by omega),q8k a (show 8≤8*3+i by omega),q8k b (show 8≤8*3+i - 8 by omega),q8k c (show 8≤8*3+i - 16 by omega),show 8*3+i - 24=i by omega];simp
theorem w6a {a b c d:UInt8}(h:x1k a b c d=0#32):a=0∧b=0∧c=0∧d=0:=by
 have hb:∀ j i,j<4→i<8→(wd (u0a a b c d j)).getLsbD i=false:=fun j i hj hi=>by
  rw[← x1m a b c d hj hi,h,BitVec.getLsbD_zero]
 exact⟨y3e fun i hi=>hb 0 i (by omega) hi,y3e fun i hi=>hb 1 i (by omega) hi,y3e fun i hi=>hb 2 i (by omega) hi,y3e fun i hi=>hb 3 i (by omega) hi⟩
def y9p (l r:List UInt8):List UInt8:=List.zipWith (· ^^^ ·) l r
theorem v6u (a b:UInt8):wd (a ^^^ b)=wd a ^^^ wd b:=by
 unfold wd
 rw[UInt8.toNat_xor]
 apply BitVec.eq_of_getLsbD_eq
 intro i hi
 simp[hi]
theorem w1e:∀ (l r:List UInt8) (a b:W),l.length=r.length→run a l ^^^ run b r=run (a ^^^ b) (y9p l r)
 |[],[],a,b,_=>rfl
 |x :: l,y :: r,a,b,h=>by
  show run (z4m a x) l ^^^ run (z4m b y) r=run (z4m (a ^^^ b) (x ^^^ y)) (y9p l r)
  rw[w1e l r _ _ (by simpa using h)]
  congr 1
  unfold z4m
  rw[← z7u,v6u]
  congr 1
  rw[BitVec.xor_assoc,BitVec.xor_assoc,← BitVec.xor_assoc (wd x),BitVec.xor_comm (wd x),BitVec.xor_assoc]
 |[],_ :: _,_,_,h=>by simp at h
 |_ :: _,[],_,_,h=>by simp at h
theorem x1n (n:W)(k:Nat):run n (List.replicate k 0)=stN (8*k) n:=by
 have:=w8s (List.replicate k 0) 0#32 n
 rw[BitVec.zero_xor,k2q]at this
 rw[this]
 have h0:run 0#32 (List.replicate k 0)=0#32:=by
  clear this
  induction k with
  |zero=>rfl
  |succ k ih=>rw[List.replicate_succ];show run (z4m 0#32 0) _=_;rw[show z4m 0#32 0=0#32 by decide];exact ih
 rw[h0,BitVec.zero_xor]
theorem v1f {x y:Nat}{a b c d:UInt8}(h:run 0#32 (List.replicate x 0++[a,b,c,d]++List.replicate y 0)=0#32):a=0∧b=0∧c=0∧d=0:=by
 rw[z0k,z0k,x1n,x1n,w8t,u9u,BitVec.zero_xor]at h
 exact w6a (y6q 32 (y6q _ h))
end Crc
end Go.Proofs.YtinfbclgkghgaaaGreat.AL
namespace Go.Proofs.YtinfbclgkghgaaaGreat.AL
open Go Go.Proofs Go.Proofs.YtinfbclgkghgaaaGreat.AL.Crc
abbrev u32 (x:W):PV:=.raw (.int .u32 (x.toNat:Int))
theorem y3f (x:W):BitVec.ofInt 32 (x.toNat:Int)=x:=by
 apply BitVec.eq_of_toNat_eq
 rw[BitVec.toNat_ofInt]
 have:=x.isLt
 omega
theorem w6b (x:W):IntKind.u32.wrap (x.toNat:Int)=(x.toNat:Int):=by
 have:=x.isLt
 have e:∀ n:Int,IntKind.u32.wrap n=n % 4294967296:=fun n=>by simp[IntKind.wrap,IntKind.bits,IntKind.signed]
 rw[e];omega
theorem u9v (n:Nat):IntKind.u32.wrap (n:Int)=((BitVec.ofNat 32 n).toNat:Int):=by
 have e:∀ n:Int,IntKind.u32.wrap n=n % 4294967296:=fun n=>by simp[IntKind.wrap,IntKind.bits,IntKind.signed]
 rw[e,BitVec.toNat_ofNat];omega
theorem u1m (x y:W):IntKind.u32.wrap ((BitVec.ofInt 32 (x.toNat:Int) ^^^ BitVec.ofInt 32 (y.toNat:Int)).toNat:Int)=((x ^^^ y).toNat:Int):=by rw[y3f,y3f,w6b]
theorem v6v (x:W)(k:Nat)(hk:k≤32):((x.toNat:Int).fdiv (2 ^ (min ((k:Nat):Int).toNat 32)))=((x >>> k).toNat:Int):=by
 rw[k0v,Nat.min_eq_left hk,BitVec.toNat_ushiftRight,Nat.shiftRight_eq_div_pow]
 rw[Int.fdiv_eq_ediv_of_nonneg _ (Int.pow_nonneg (by omega))]
 rw[Int.natCast_ediv,Int.natCast_pow];rfl
theorem u1n (x:W):(IntKind.u32.wrap ((BitVec.ofInt 32 (x.toNat:Int) &&& BitVec.ofInt 32 1).toNat:Int)==1)=x.getLsbD 0:=by
 rw[y3f,show BitVec.ofInt 32 1=1#32 by decide,w6b]
 have e:(x &&& 1#32).toNat=x.toNat % 2:=by
  rw[BitVec.toNat_and];exact Nat.and_one_is_mod x.toNat
 rw[e,← BitVec.testBit_toNat,Nat.testBit_zero]
 rcases Nat.mod_two_eq_zero_or_one x.toNat with h|h <;> rw[h] <;> decide
theorem w8u (x:W):st x=match x.getLsbD 0 with|true=>(x >>> 1) ^^^ poly|false=>x >>> 1:=by
 unfold st
 cases x.getLsbD 0 with
 |true=>rfl
 |false=>exact BitVec.xor_zero
theorem w1f (k:Nat)(n:W):stN (k+1) n=st (stN k n):=z3n k 1 n
def y2w (j:Nat):W:=stN 8 (BitVec.ofNat 32 j)
def w6c (N i:Nat):List PV:=(List.range i).map (fun j=>u32 (y2w j))++List.replicate (N - i) (u32 0)
def q9e (N i:Nat):List (List PV):=(w6c N i).map fun p=>[p]
theorem v6w {N i:Nat}(h:i<N):(w6c N i).set i (u32 (y2w i))=w6c N (i+1):=by
 unfold w6c
 rw[List.set_append_right _ _ (by simp),k1y,k3q,Nat.sub_self,show N - i=(N - (i+1))+1 by omega,List.replicate_succ,List.set_cons_zero,List.range_succ,List.map_append]
 simp
theorem v6x {N i:Nat}(h:i<N):(q9e N i).set i [u32 (y2w i)]=q9e N (i+1):=by
 unfold q9e;rw[← v6w h,List.map_set]
theorem v6y {N j:Nat}(h:j<N):(q9e N N)[j]?=some [u32 (y2w j)]:=by
 unfold q9e w6c
 rw[Nat.sub_self,List.replicate_zero,List.append_nil,k1q,k1q,k2s h];rfl
theorem v1g {N i:Nat}(h:i<N):∃ x,(q9e N i)[i]?=some [x]:=by
 unfold q9e
 rw[k1q,k0x (by simp[w6c];omega)]
 exact⟨_,rfl⟩
theorem v6z:AF Tryz.prog w5r [] [] (v8 (.elr 0 1 0 0) [.row q1j 1 (q9e 256 256)]):=by
 refine v6 hT w5s rfl rfl w5t rfl ?_
 refine q8 hT ?_
 refine q8 hT ?_
 refine u6 (Wk.trans (u2y 1 0 1 rfl) (u2x 0 (List.replicate 256 (u32 0)) rfl rfl rfl)) ?_
 obtain⟨N,hN⟩:∃ N:Nat,N=256:=⟨_,rfl⟩
 rw[← hN]
 refine z8 (q8 hT ?_)
 refine z3 ?_
 refine y7 (fun n s=>∃ (i:Nat) (j:Int),n+i=N∧j=i∧s=⟨⟨25,[(1,.elr 0 1 0 0),(5,i64 j)]⟩,[.row q1j 1 (q9e N i)]⟩) N ⟨⟨25,_⟩,[_]⟩ (q7 [0] [1,5] rfl) ⟨0,0,rfl,rfl,by unfold q9e w6c;rfl⟩ ?_
 rintro n s ⟨i,j,hni,rfl,rfl⟩
 refine q8 hT ?_
 refine z8 (z4 (y4 (fun h=>?_) (fun h=>?_)))
 ·have hi:i<N:=by
   have:=k0q (show decide ((i:Int)<256)=true from h)
   omega
  refine z5 ?_
  refine z7 ⟨⟨25,[(1,.elr 0 1 0 0),(5,i64 i)]⟩,[.row q1j 1 (q9e N (i+1))]⟩ True (z3 ?_) (fun _=>?_)
  ·refine q8 hT ?_
   refine q8 hT ?_
   refine z7 ⟨⟨25,[(1,.elr 0 1 0 0),(2,i64 i),(3,.p (u32 (y2w i))),(5,i64 i)]⟩,[.row q1j 1 (q9e N i)]⟩ True (q8 hT ?_) (fun _=>?_)
   ·refine z3 ?_
    refine y7 (fun n s=>∃ (k:Nat) (j v:Int),n+k=8∧j=k∧v=((stN k (BitVec.ofNat 32 i)).toNat:Int)∧s=⟨⟨25,[(1,.elr 0 1 0 0),(2,i64 i),(3,.p (.raw (.int .u32 v))),(5,i64 i),(10,i64 j)]⟩,[.row q1j 1 (q9e N i)]⟩) 8 ⟨⟨25,_⟩,[_]⟩ (q7 [0] [1,2,3,5,10] rfl) ⟨0,0,_,rfl,rfl,u9v i,rfl⟩ ?_
    rintro m s ⟨k,j,v,hmk,rfl,hv,rfl⟩
    refine q8 hT ?_
    refine z8 (z4 (y4 (fun h=>?_) (fun h=>?_)))
    ·have hk:k<8:=by
      have:=k0q (show decide ((k:Int)<8)=true from h)
      omega
     refine z5 ?_
     refine z7 ⟨⟨25,[(1,.elr 0 1 0 0),(2,i64 i),(3,.p (u32 (stN (k+1) (BitVec.ofNat 32 i)))),(5,i64 i),(10,i64 k)]⟩,[.row q1j 1 (q9e N i)]⟩ True (z3 ?_) (fun _=>?_)
     ·rw[w1f,w8u]
      subst hv
      generalize stN k (BitVec.ofNat 32 i)=x
      refine q8 hT ?_
      refine q8 hT ?_
      refine q8 hT ?_
      refine z4 (y4 (fun h=>?_) (fun h=>?_))
      ·have h:(IntKind.u32.wrap ((BitVec.ofInt 32 (x.toNat:Int) &&& BitVec.ofInt 32 1).toNat:Int)==1)=true:=h
       rw[u1n]at h
       refine q9 hT ?_
       rw[h]
       have e:(((x >>> 1) ^^^ poly).toNat:Int)=IntKind.u32.wrap ((BitVec.ofInt 32 ((x.toNat:Int).fdiv (2 ^ (min ((1:Nat):Int).toNat 32))) ^^^ BitVec.ofInt 32 2197175160).toNat:Int):=by
        rw[v6v x 1 (by omega),y3f,show BitVec.ofInt 32 2197175160=poly by decide,w6b]
       show Wk _ _ ⟨⟨25,[(1,_),(2,_),(3,.p (.raw (.int .u32 (((x >>> 1) ^^^ poly).toNat:Int)))),(5,_),(10,_)]⟩,_⟩∧True
       rw[e]
       exact⟨q7 [0] [1,2,3,5,10] rfl,trivial⟩
      ·have h:(IntKind.u32.wrap ((BitVec.ofInt 32 (x.toNat:Int) &&& BitVec.ofInt 32 1).toNat:Int)==1)=false:=h
       rw[u1n]at h
       refine z5 ?_
       rw[h]
       show Wk _ _ ⟨⟨25,[(1,_),(2,_),(3,.p (.raw (.int .u32 ((x >>> 1).toNat:Int)))),(5,_),(10,_)]⟩,_⟩∧True
       rw[← v6v x 1 (by omega)]
       exact⟨q7 [0] [1,2,3,5,10] rfl,trivial⟩
     ·refine q9 hT ?_
      refine⟨m - 1,by omega,_,q7 [0] [1,2,3,5,10] rfl,k+1,IntKind.i64.wrap ((k:Int)+1),_,by omega,?_,rfl,rfl⟩
      rw[y8 _ (by omega) (by omega)];rfl
    ·have hk:¬ (k:Int)<8:=k0z h
     have hk8:k=8:=by omega
     subst hk8 hv
     refine x6 ?_
     exact⟨q7 [0] [1,2,3,5] rfl,trivial⟩
   ·obtain⟨x0,hx0⟩:=v1g hi
    refine q9 hT ?_
    refine⟨⟨k2w _,by omega⟩,?_⟩
    have hx1:(q9e N i)[0+((i:Nat):Int).toNat]?=some [x0]:=by rw[Nat.zero_add,k0v];exact hx0
    refine y3s rfl (w9 hx1 ?_)
    rw[show q9e N (i+1)=(q9e N i).set (0+((i:Nat):Int).toNat) [u32 (y2w i)] by rw[Nat.zero_add,k0v,v6x hi]]
    exact⟨q7 [0] [1,5] rfl,trivial⟩
  ·refine q9 hT ?_
   refine⟨n - 1,by omega,_,q7 [0] [1,5] rfl,i+1,IntKind.i64.wrap ((i:Int)+1),by omega,?_,rfl⟩
   rw[y8 _ (by omega) (by omega)];rfl
 ·have hi:i=N:=by
   have:=k0z (show decide ((i:Int)<256)=false from h)
   omega
  subst hi
  refine x6 ?_
  refine q8 hT ?_
  refine y9 ?_
  rw[hN]
  exact z9 [0] ⟨rfl,rfl⟩ rfl
theorem q0t (n:Nat):IntKind.u8.wrap (n:Int)=((UInt8.ofNat n).toNat:Int):=by
 rw[IntKind.wrap_u8,UInt8.toNat_ofNat'];omega
theorem u0b (x:W)(c:UInt8):IntKind.u8.wrap ((BitVec.ofInt 8 (IntKind.u8.wrap (x.toNat:Int)) ^^^ BitVec.ofInt 8 (c.toNat:Int)).toNat:Int)=((UInt8.ofNat x.toNat ^^^ c).toNat:Int):=by
 rw[q0t x.toNat,w5y]
theorem u3d (x:W):wd (UInt8.ofNat x.toNat)=x &&& 255#32:=by
 apply BitVec.eq_of_getLsbD_eq
 intro i hi
 unfold wd
 rw[BitVec.getLsbD_and,y6p,BitVec.getLsbD_ofNat,k1u hi,Bool.true_and,UInt8.toNat_ofNat',show 2 ^ 8=2 ^ 8 from rfl,Nat.testBit_mod_two_pow,BitVec.testBit_toNat,Bool.and_comm]
theorem v7a (x:W)(c:UInt8):z4m x c=y2w (UInt8.ofNat x.toNat ^^^ c).toNat ^^^ (x >>> 8):=by
 unfold z4m y2w
 rw[show BitVec.ofNat 32 (UInt8.ofNat x.toNat ^^^ c).toNat=wd (UInt8.ofNat x.toNat ^^^ c) from rfl,v6u,u3d,← v9x,← z7u]
 congr 1
 rw[BitVec.xor_assoc,BitVec.xor_comm (wd c),← BitVec.xor_assoc,BitVec.xor_comm x (x &&& 255#32),← BitVec.xor_assoc (x &&& 255#32),BitVec.xor_self,BitVec.zero_xor]
theorem y0k {l:z6}{i:Nat}{c:UInt8}(h:l[i]?=some c):(bx l)[i]?=some [u8 c]:=by rw[bx,k1q,h];rfl
theorem v7b (l:z6)(hl:l.length≤1000000):AF Tryz.prog w5k [i64 0,bA l] [] (v8 (i64 ((sum l).toNat:Int)) []):=by
 obtain⟨N,hN⟩:∃ N:Nat,N=256:=⟨_,rfl⟩
 have hm:=v6z
 rw[← hN]at hm
 refine v6 hT w5m rfl rfl w5n rfl ?_
 refine q8 hT ?_
 refine q8 hT ?_
 refine x7 hm ?_
 refine q8 hT ?_
 refine z7 ⟨⟨34,[(6,.p (u32 (run all1 l)))]⟩,[]⟩ True (q8 hT ?_) (fun _=>?_)
 ·refine z3 ?_
  refine y7 (fun n s=>∃ (i:Nat) (j v:Int),n+i=l.length∧j=i∧v=((run all1 (l.take i)).toNat:Int)∧s=⟨⟨34,[(5,.elr 0 1 0 0),(6,.p (.raw (.int .u32 v))),(13,bA l),(14,i64 l.length),(15,i64 j)]⟩,[.row q1j 1 (q9e N N)]⟩) l.length ⟨⟨34,_⟩,[_]⟩ (q7 [0] [5,6,13,14,15] rfl) ⟨0,0,_,rfl,rfl,(by decide:IntKind.u32.wrap ((BitVec.ofInt 32 (IntKind.u32.wrap 0) ^^^ BitVec.ofInt 32 4294967295).toNat:Int)=(all1.toNat:Int)),by rw[← w6 l];rfl⟩ ?_
  rintro n s ⟨i,j,v,hni,rfl,hv,rfl⟩
  refine q8 hT ?_
  refine z8 (z4 (y4 (fun h=>?_) (fun h=>?_)))
  ·have hi:i<l.length:=by
    have:=k0q (show decide ((i:Int)<(l.length:Int))=true from h)
    omega
   have hx:=k0x hi
   have htk:l.take (i+1)=l.take i++[l[i]]:=by rw[k2t,hx];rfl
   generalize l[i]=c at hx htk
   have hxp:(bx l)[((i:Nat):Int).toNat]?=some [u8 c]:=by rw[k0v];exact y0k hx
   have hrun:run all1 (l.take (i+1))=z4m (run all1 (l.take i)) c:=by rw[htk,w1d]
   subst hv
   generalize run all1 (l.take i)=x at hrun
   refine z5 ?_
   refine z7 ⟨⟨34,[(5,.elr 0 1 0 0),(6,.p (u32 (run all1 (l.take (i+1))))),(13,bA l),(14,i64 l.length),(15,i64 i)]⟩,[.row q1j 1 (q9e N N)]⟩ True (z3 (q8 hT ?_)) (fun _=>?_)
   ·refine⟨k2w _,w9 hxp ?_⟩
    refine q9 hT ?_
    have hy:=u0b x c
    have hyl:(UInt8.ofNat x.toNat ^^^ c).toNat<256:=UInt8.toNat_lt _
    rw[hrun,v7a]
    generalize UInt8.ofNat x.toNat ^^^ c=y at hy hyl
    refine⟨?_,?_⟩
    ·show 0≤IntKind.u8.wrap ((BitVec.ofInt 8 (IntKind.u8.wrap (x.toNat:Int)) ^^^ BitVec.ofInt 8 (c.toNat:Int)).toNat:Int)∧IntKind.u8.wrap ((BitVec.ofInt 8 (IntKind.u8.wrap (x.toNat:Int)) ^^^ BitVec.ofInt 8 (c.toNat:Int)).toNat:Int)<((256:Nat):Int)
     rw[hy];omega
    have hg:(q9e N N)[0+(IntKind.u8.wrap ((BitVec.ofInt 8 (IntKind.u8.wrap (x.toNat:Int)) ^^^ BitVec.ofInt 8 (c.toNat:Int)).toNat:Int)).toNat]?=some [u32 (y2w y.toNat)]:=by
     rw[hy,Nat.zero_add,k0v];exact v6y (by omega)
    refine y3s rfl (w9 hg ?_)
    have e:(((y2w y.toNat) ^^^ (x >>> 8)).toNat:Int)=IntKind.u32.wrap ((BitVec.ofInt 32 ((y2w y.toNat).toNat:Int) ^^^ BitVec.ofInt 32 ((x.toNat:Int).fdiv (2 ^ (min ((8:Nat):Int).toNat 32)))).toNat:Int):=by
     rw[v6v x 8 (by omega),u1m]
    show Wk _ _ ⟨⟨34,[(5,_),(6,.p (.raw (.int .u32 (((y2w y.toNat) ^^^ (x >>> 8)).toNat:Int)))),(13,_),(14,_),(15,_)]⟩,_⟩∧True
    rw[e]
    exact⟨q7 [0] [5,6,13,14,15] rfl,trivial⟩
   ·refine q9 hT ?_
    refine⟨n - 1,by omega,_,q7 [0] [5,6,13,14,15] rfl,i+1,IntKind.i64.wrap ((i:Int)+1),_,by omega,?_,rfl,rfl⟩
    rw[y8 _ (by omega) (by omega)];rfl
  ·have hi:¬ (i:Int)<(l.length:Int):=k0z h
   have hil:i=l.length:=by omega
   subst hil hv
   rw[List.take_length]
   refine x6 ?_
   exact⟨q7 [] [6] rfl,trivial⟩
 ·refine q8 hT ?_
  refine y9 ?_
  refine z9 [] ⟨?_,rfl⟩ rfl
  show AV.p (.raw (.int .i64 (IntKind.i64.wrap (IntKind.u32.wrap ((BitVec.ofInt 32 ((run all1 l).toNat:Int) ^^^ BitVec.ofInt 32 4294967295).toNat:Int)))))=_
  rw[show (4294967295:Int)=(all1.toNat:Int) by decide,u1m]
  have:=(run all1 l ^^^ all1).isLt
  rw[y8 _ (by omega) (by omega)]
  rfl
theorem w8v (l:z6)(hl:l.length≤1000000):AF Tryz.prog x0z [bA l] [] (v8 (i64 ((sum l).toNat:Int)) []):=by
 refine v6 hT v0w rfl rfl v0x rfl ?_
 refine q8 hT ?_
 refine q8 hT ?_
 refine x7 (v7b l hl) ?_
 refine y9 ?_
 exact z9 [] ⟨rfl,rfl⟩ rfl
end Go.Proofs.YtinfbclgkghgaaaGreat.AL
namespace Go.Proofs.YtinfbclgkghgaaaGreat.AL
def q5s (a b:Nat):Nat→Nat
 |0=>0
 |k+1=>match a / 2 ^ k % 2 != b / 2 ^ k % 2 with
  |true=>q5s a b k+2 ^ k
  |false=>q5s a b k
theorem u0c (a b k:Nat):(a ^^^ b) / 2 ^ k % 2=if (a / 2 ^ k % 2 != b / 2 ^ k % 2)=true then 1 else 0:=by
 have h:=Nat.testBit_xor (x:=a) (y:=b) (i:=k)
 rw[Nat.testBit_eq_decide_div_mod_eq,Nat.testBit_eq_decide_div_mod_eq,Nat.testBit_eq_decide_div_mod_eq]at h
 have h1:(a ^^^ b) / 2 ^ k % 2<2:=Nat.mod_lt _ (by omega)
 have h2:a / 2 ^ k % 2<2:=Nat.mod_lt _ (by omega)
 have h3:b / 2 ^ k % 2<2:=Nat.mod_lt _ (by omega)
 generalize (a ^^^ b) / 2 ^ k % 2=x at *
 generalize a / 2 ^ k % 2=y at *
 generalize b / 2 ^ k % 2=z at *
 have hx:x=0∨x=1:=by omega
 have hy:y=0∨y=1:=by omega
 have hz:z=0∨z=1:=by omega
 rcases hx with rfl|rfl <;> rcases hy with rfl|rfl <;> rcases hz with rfl|rfl <;> simp at h ⊢
theorem y6r (a b:Nat):∀ k,q5s a b k=(a ^^^ b) % 2 ^ k
 |0=>by rw[Nat.pow_zero,Nat.mod_one];rfl
 |k+1=>by
  have ih:=y6r a b k
  rw[Nat.mod_pow_succ,u0c]
  unfold q5s
  cases h:(a / 2 ^ k % 2 != b / 2 ^ k % 2) with
  |true=>simp only[ih,if_true,Nat.mul_one]
  |false=>simp only[ih,Bool.false_eq_true,if_false,Nat.mul_zero,Nat.add_zero]
theorem v7c (a b k:Nat):q5s a b k<2 ^ k:=by rw[y6r];exact Nat.mod_lt _ (Nat.two_pow_pos k)
end Go.Proofs.YtinfbclgkghgaaaGreat.AL
namespace Go.Proofs.YtinfbclgkghgaaaGreat.AL
open Go Go.Proofs Go.Proofs.YtinfbclgkghgaaaGreat.AL.Crc
theorem y9q (a b:Nat)(ha:a<4294967296)(hb:b<4294967296):AF Tryz.prog q4j [i64 a,i64 b] [] (v8 (i64 (a ^^^ b:Nat)) []):=by
 refine v6 hT y5d rfl rfl y5e rfl ?_
 refine q8 hT ?_
 refine q8 hT ?_
 refine q8 hT ?_
 refine z8 (q8 hT ?_)
 refine z3 ?_
 refine y7 (fun n s=>∃ (k:Nat) (k':Int) (d p x y:Int),n+k=32∧k'=k∧d=q5s a b k∧p=((2 ^ k:Nat):Int)∧x=((a / 2 ^ k:Nat):Int)∧y=((b / 2 ^ k:Nat):Int)∧s=⟨⟨27,[(0,i64 x),(1,i64 y),(5,i64 d),(6,i64 p),(7,i64 k')]⟩,[]⟩) 32 ⟨⟨27,_⟩,[]⟩ (q7 [] [0,1,5,6,7] rfl) ⟨0,0,0,1,_,_,rfl,rfl,rfl,rfl,?_,?_,rfl⟩ ?_
 ·rw[Nat.pow_zero,Nat.div_one]
 ·rw[Nat.pow_zero,Nat.div_one]
 rintro n s ⟨k,k',d,p,x,y,hk,rfl,rfl,rfl,rfl,rfl,rfl⟩
 have hd:=v7c a b k
 have hm:∀ q:Nat,((q:Int).tmod 2)=((q % 2:Nat):Int):=fun q=>by
  rw[Int.tmod_eq_emod_of_nonneg (k2w _)];exact(Int.natCast_emod q 2).symm
 have hq:∀ q:Nat,q<4294967296→IntKind.i64.wrap ((q:Int).tdiv 2)=((q / 2:Nat):Int):=fun q hq=>by
  rw[Int.tdiv_eq_ediv_of_nonneg (k2w _),y8 _ (by omega) (by omega)];omega
 refine z8 (q8 hT ?_)
 refine z4 (y4 (fun h=>?_) (fun h=>?_))
 ·have hk32:k<32:=by
   have:=k0q (show decide ((k:Int)<32)=true from h)
   omega
  have hp:2 ^ k≤2 ^ 31:=Nat.pow_le_pow_right (by omega) (by omega)
  have hp2:2 ^ (k+1)=2 ^ k*2:=Nat.pow_succ ..
  have hdx:a / 2 ^ k<4294967296:=Nat.lt_of_le_of_lt (Nat.div_le_self _ _) ha
  have hdy:b / 2 ^ k<4294967296:=Nat.lt_of_le_of_lt (Nat.div_le_self _ _) hb
  have hx2:a / 2 ^ (k+1)=a / 2 ^ k / 2:=by rw[hp2,Nat.div_div_eq_div_mul]
  have hy2:b / 2 ^ (k+1)=b / 2 ^ k / 2:=by rw[hp2,Nat.div_div_eq_div_mul]
  refine z5 ?_
  refine z7 ⟨⟨27,[(0,i64 ((a / 2 ^ (k+1):Nat):Int)),(1,i64 ((b / 2 ^ (k+1):Nat):Int)),(5,i64 (q5s a b (k+1):Nat)),(6,i64 ((2 ^ (k+1):Nat):Int)),(7,i64 (k:Nat))]⟩,[]⟩ True (z3 ?_) (fun _=>?_)
  ·refine z7 ⟨⟨27,[(0,i64 ((a / 2 ^ k:Nat):Int)),(1,i64 ((b / 2 ^ k:Nat):Int)),(5,i64 (q5s a b (k+1):Nat)),(6,i64 ((2 ^ k:Nat):Int)),(7,i64 (k:Nat))]⟩,[]⟩ True (q8 hT ?_) (fun _=>?_)
   ·refine z4 (y4 (fun h1=>?_) (fun h1=>?_))
    ·have h1:(((a / 2 ^ k:Nat):Int).tmod 2 != ((b / 2 ^ k:Nat):Int).tmod 2)=true:=h1
     rw[hm,hm]at h1
     have h2:(a / 2 ^ k % 2 != b / 2 ^ k % 2)=true:=by
      rw[bne_iff_ne]at h1 ⊢;omega
     have e:q5s a b (k+1)=q5s a b k+2 ^ k:=by
      conv=>lhs;unfold q5s
      rw[h2]
     refine q9 hT ?_
     have e2:IntKind.i64.wrap (((q5s a b k:Nat):Int)+((2 ^ k:Nat):Int))=((q5s a b (k+1):Nat):Int):=by
      rw[e,y8 _ (by omega) (by omega)];omega
     rw[← e2]
     exact⟨q7 [] [0,1,5,6,7] rfl,trivial⟩
    ·have h1:(((a / 2 ^ k:Nat):Int).tmod 2 != ((b / 2 ^ k:Nat):Int).tmod 2)=false:=h1
     rw[hm,hm]at h1
     have h2:(a / 2 ^ k % 2 != b / 2 ^ k % 2)=false:=by
      rw[bne_eq_false_iff_eq]at h1 ⊢;omega
     have e:q5s a b (k+1)=q5s a b k:=by
      conv=>lhs;unfold q5s
      rw[h2]
     rw[e]
     exact z5 ⟨q7 [] [0,1,5,6,7] rfl,trivial⟩
   ·refine q8 hT ?_
    refine q8 hT ?_
    refine q9 hT ?_
    have e3:IntKind.i64.wrap (((2 ^ k:Nat):Int)*2)=((2 ^ (k+1):Nat):Int):=by
     rw[hp2,y8 _ (by omega) (by omega)];omega
    rw[hx2,hy2,← hq _ hdx,← hq _ hdy,← e3]
    exact⟨q7 [] [0,1,5,6,7] rfl,trivial⟩
  ·refine q9 hT ?_
   refine⟨n - 1,by omega,_,q7 [] [0,1,5,6,7] rfl,k+1,IntKind.i64.wrap ((k:Int)+1),_,_,_,_,by omega,?_,rfl,rfl,rfl,rfl,rfl⟩
   rw[y8 _ (by omega) (by omega)];rfl
 ·have hk32:k=32:=by
   have:=k0z (show decide ((k:Int)<32)=false from h)
   omega
  subst hk32
  refine x6 ?_
  refine q8 hT ?_
  refine y9 ?_
  have e:q5s a b 32=(a ^^^ b:Nat):=by
   rw[y6r]
   exact Nat.mod_eq_of_lt (Nat.xor_lt_two_pow (show a<2 ^ 32 from ha) (show b<2 ^ 32 from hb))
  rw[← e]
  exact z9 [] ⟨rfl,rfl⟩ rfl
theorem z7v (x y:W):AF Tryz.prog q4j [i64 (x.toNat:Int),i64 (y.toNat:Int)] [] (v8 (i64 ((x ^^^ y).toNat:Int)) []):=by
 have:=y9q x.toNat y.toNat x.isLt y.isLt
 rw[BitVec.toNat_xor];exact this
theorem y6s (q k:Nat):((q:Int).tmod (k:Int))=((q % k:Nat):Int):=by
 rw[Int.tmod_eq_emod_of_nonneg (k2w _)];exact(Int.natCast_emod q k).symm
theorem z7w (q k:Nat)(hq:q<9223372036854775808):IntKind.i64.wrap ((q:Int).tdiv (k:Int))=((q / k:Nat):Int):=by
 rw[Int.tdiv_eq_ediv_of_nonneg (k2w _),← Int.natCast_ediv]
 have:q / k≤q:=Nat.div_le_self _ _
 generalize q / k=r at this
 exact y8 _ (by omega) (by omega)
theorem v7d (c:UInt8):(wd c).toNat=c.toNat:=by
 unfold wd
 rw[BitVec.toNat_ofNat,Nat.mod_eq_of_lt (Nat.lt_trans c.toNat_lt (by decide))]
theorem v7e (x:W):IntKind.i64.wrap ((x.toNat:Int).tdiv 2)=((x >>> 1).toNat:Int):=by
 have:=x.isLt
 rw[show (2:Int)=((2:Nat):Int) from rfl,z7w _ _ (by omega),BitVec.toNat_ushiftRight,Nat.shiftRight_eq_div_pow]
theorem u1p (x:W):((x.toNat:Int).tmod 2==1)=x.getLsbD 0:=by
 rw[show (2:Int)=((2:Nat):Int) from rfl,y6s,← BitVec.testBit_toNat,Nat.testBit_zero]
 rcases Nat.mod_two_eq_zero_or_one x.toNat with h|h <;> rw[h] <;> decide
theorem v1h (l:z6)(hl:l.length≤1000000):AF Tryz.prog x8w [bA l] [] (v8 (i64 ((sum l).toNat:Int)) []):=by
 refine v6 hT x8x rfl rfl x8y rfl ?_
 refine q8 hT ?_
 refine q8 hT ?_
 refine z7 ⟨⟨34,[(3,i64 ((run all1 l).toNat:Int))]⟩,[]⟩ True (q8 hT ?_) (fun _=>?_)
 ·refine z3 ?_
  refine y7 (fun n s=>∃ (i:Nat) (j v:Int),n+i=l.length∧j=i∧v=((run all1 (l.take i)).toNat:Int)∧s=⟨⟨34,[(0,bA l),(3,i64 v),(4,i64 j)]⟩,[]⟩) l.length ⟨⟨34,_⟩,[]⟩ (q7 [] [0,3,4] rfl) ⟨0,0,_,rfl,rfl,(by decide:(4294967295:Int)=(all1.toNat:Int)),rfl⟩ ?_
  rintro n s ⟨i,j,v,hni,rfl,hv,rfl⟩
  refine z8 (q8 hT ?_)
  refine z4 (y4 (fun h=>?_) (fun h=>?_))
  ·have hi:i<l.length:=by
    have:=k0q (show decide ((i:Int)<((bx l).length:Int))=true from h)
    rw[w6]at this;omega
   have hx:=k0x hi
   have htk:l.take (i+1)=l.take i++[l[i]]:=by rw[k2t,hx];rfl
   generalize l[i]=c at hx htk
   have hxp:(bx l)[((i:Nat):Int).toNat]?=some [u8 c]:=by rw[k0v];exact y0k hx
   have hrun:run all1 (l.take (i+1))=stN 8 (run all1 (l.take i) ^^^ wd c):=by rw[htk,w1d];rfl
   subst hv
   generalize run all1 (l.take i)=x at hrun
   have w:AF Tryz.prog q4j [i64 (x.toNat:Int),i64 (IntKind.i64.wrap (c.toNat:Int))] [] (v8 (i64 ((x ^^^ wd c).toNat:Int)) []):=by
    have hc:=c.toNat_lt
    rw[y8 _ (by omega) (by omega),← v7d];exact z7v x (wd c)
   refine z5 ?_
   refine z7 ⟨⟨34,[(0,bA l),(3,i64 ((run all1 (l.take (i+1))).toNat:Int)),(4,i64 i)]⟩,[]⟩ True (z3 (q8 hT ?_)) (fun _=>?_)
   ·rw[hrun]
    refine⟨k2w _,w9 hxp ?_⟩
    refine x7 w ?_
    generalize x ^^^ wd c=z
    refine q8 hT ?_
    refine z3 ?_
    refine y7 (fun n s=>∃ (k:Nat) (j v:Int),n+k=8∧j=k∧v=((stN k z).toNat:Int)∧s=⟨⟨34,[(0,bA l),(3,i64 v),(4,i64 i),(5,i64 j)]⟩,[]⟩) 8 ⟨⟨34,_⟩,[]⟩ (q7 [] [0,3,4,5] rfl) ⟨0,0,_,rfl,rfl,rfl,rfl⟩ ?_
    rintro m s ⟨k,j,v,hmk,rfl,hv,rfl⟩
    refine z8 (q8 hT ?_)
    refine z4 (y4 (fun h=>?_) (fun h=>?_))
    ·have hk:k<8:=by
      have:=k0q (show decide ((k:Int)<8)=true from h)
      omega
     refine z5 ?_
     refine z7 ⟨⟨34,[(0,bA l),(3,i64 ((stN (k+1) z).toNat:Int)),(4,i64 i),(5,i64 k)]⟩,[]⟩ True (z3 ?_) (fun _=>?_)
     ·rw[w1f,w8u]
      subst hv
      generalize stN k z=x
      refine q8 hT ?_
      refine q8 hT ?_
      refine q8 hT ?_
      refine z4 (y4 (fun h=>?_) (fun h=>?_))
      ·have h:((x.toNat:Int).tmod 2==1)=true:=h
       rw[u1p]at h
       have w2:AF Tryz.prog q4j [i64 (IntKind.i64.wrap ((x.toNat:Int).tdiv 2)),i64 2197175160] [] (v8 (i64 (((x >>> 1) ^^^ poly).toNat:Int)) []):=by
        rw[v7e,show (2197175160:Int)=(poly.toNat:Int) by decide];exact z7v _ poly
       refine q9 hT ?_
       refine x7 w2 ?_
       rw[h]
       exact⟨q7 [] [0,3,4,5] rfl,trivial⟩
      ·have h:((x.toNat:Int).tmod 2==1)=false:=h
       rw[u1p]at h
       refine z5 ?_
       rw[h]
       show Wk _ _ ⟨⟨34,[(0,_),(3,i64 ((x >>> 1).toNat:Int)),(4,_),(5,_)]⟩,_⟩∧True
       rw[← v7e]
       exact⟨q7 [] [0,3,4,5] rfl,trivial⟩
     ·refine q9 hT ?_
      refine⟨m - 1,by omega,_,q7 [] [0,3,4,5] rfl,k+1,IntKind.i64.wrap ((k:Int)+1),_,by omega,?_,rfl,rfl⟩
      rw[y8 _ (by omega) (by omega)];rfl
    ·have hk:¬ (k:Int)<8:=k0z h
     have hk8:k=8:=by omega
     subst hk8 hv
     refine x6 ?_
     exact⟨q7 [] [0,3,4] rfl,trivial⟩
   ·refine q9 hT ?_
    refine⟨n - 1,by omega,_,q7 [] [0,3,4] rfl,i+1,IntKind.i64.wrap ((i:Int)+1),_,by omega,?_,rfl,rfl⟩
    rw[y8 _ (by omega) (by omega)];rfl
  ·have hi:¬ (i:Int)<((bx l).length:Int):=k0z h
   rw[w6]at hi
   have hil:i=l.length:=by omega
   subst hil hv
   rw[List.take_length]
   refine x6 ?_
   exact⟨q7 [] [3] rfl,trivial⟩
 ·refine q8 hT ?_
  refine y9 ?_
  refine z9 [] ⟨?_,rfl⟩ rfl
  show AV.p (.raw (.int .i64 (IntKind.i64.wrap (4294967295 - ((run all1 l).toNat:Int)))))=_
  have h1:=(run all1 l).isLt
  have e:(sum l).toNat=4294967295 - (run all1 l).toNat:=by
   unfold sum
   have:run all1 l ^^^ all1 = ~~~ (run all1 l):=by
    rw[← BitVec.xor_allOnes];rfl
   rw[this,BitVec.toNat_not]
  rw[y8 _ (by omega) (by omega),e]
  congr 3
  omega
end Go.Proofs.YtinfbclgkghgaaaGreat.AL
namespace Go.Proofs.YtinfbclgkghgaaaGreat.AL.Gf
def w6d (n j:Nat):Nat:=match n.testBit (15 - j) with|true=>n ^^^ (285*2 ^ (7 - j))|false=>n
def redN (n:Nat):Nat→Nat
 |0=>n
 |j+1=>w6d (redN n j) j
def accN (a b:Nat):Nat→Nat
 |0=>0
 |k+1=>match b.testBit k with|true=>accN a b k ^^^ (a*2 ^ k)|false=>accN a b k
theorem u9w (a b c:Nat):(a ^^^ c) ^^^ (b ^^^ c)=a ^^^ b:=by
 rw[Nat.xor_assoc,Nat.xor_comm b c,← Nat.xor_assoc c,Nat.xor_self,Nat.zero_xor]
theorem v7f (x y j:Nat):w6d (x ^^^ y) j=w6d x j ^^^ w6d y j:=by
 unfold w6d
 rw[Nat.testBit_xor]
 cases x.testBit (15 - j) <;> cases y.testBit (15 - j)
 ·rfl
 ·show (x ^^^ y) ^^^ _=x ^^^ (y ^^^ _);rw[Nat.xor_assoc]
 ·show (x ^^^ y) ^^^ _=(x ^^^ _) ^^^ y;rw[Nat.xor_assoc,Nat.xor_comm y,← Nat.xor_assoc]
 ·show x ^^^ y=(x ^^^ _) ^^^ (y ^^^ _);rw[u9w]
theorem w1g (x y:Nat):∀ j,redN (x ^^^ y) j=redN x j ^^^ redN y j
 |0=>rfl
 |j+1=>by unfold redN;rw[w1g x y j,v7f]
theorem x1p:∀ j,redN 0 j=0
 |0=>rfl
 |j+1=>by unfold redN;rw[x1p j];unfold w6d;rw[Nat.zero_testBit]
def w6e (a:UInt8)(b:Nat):Nat→UInt8
 |0=>0
 |k+1=>w6e a b k ^^^ (match b.testBit k with|true=>xts k a|false=>0)
def v7g (b:Nat):Nat→UInt8
 |0=>0
 |k+1=>v7g b k ^^^ (match b.testBit k with|true=>pw k|false=>0)
theorem w1h (a:UInt8)(b:Nat):∀ k,w6e a b k=mul (v7g b k) a
 |0=>rfl
 |k+1=>by
  unfold w6e v7g
  rw[w1h a b k,xor_mul]
  cases b.testBit k with
  |true=>show _ ^^^ xts k a=_ ^^^ mul (pw k) a;rw[y2z]
  |false=>rfl
theorem v7h (b:UInt8):v7g b.toNat 8=b:=by
 have h:(all8.all fun b=>v7g b.toNat 8==b)=true:=by decide +kernel
 exact eq_of_beq (List.all_eq_true.mp h b (z1d b))
theorem u0d (a:UInt8){k:Nat}(hk:k<8):redN (a.toNat*2 ^ k) 8=(xts k a).toNat:=by
 have h:(all8.all fun a=>(List.range 8).all fun k=>redN (a.toNat*2 ^ k) 8==(xts k a).toNat)=true:=by decide +kernel
 exact eq_of_beq (List.all_eq_true.mp (List.all_eq_true.mp h a (z1d a)) k (List.mem_range.mpr hk))
theorem w8w (a:UInt8)(b:Nat):∀ k,k≤8→redN (accN a.toNat b k) 8=(w6e a b k).toNat
 |0,_=>x1p 8
 |k+1,hk=>by
  unfold accN w6e
  have ih:=w8w a b k (by omega)
  cases b.testBit k with
  |true=>show redN (accN a.toNat b k ^^^ (a.toNat*2 ^ k)) 8=(w6e a b k ^^^ xts k a).toNat;rw[w1g,ih,u0d a (by omega),UInt8.toNat_xor]
  |false=>show redN (accN a.toNat b k) 8=(w6e a b k ^^^ 0).toNat;rw[ih,UInt8.xor_zero]
theorem red_mul (a b:UInt8):redN (accN a.toNat b.toNat 8) 8=(mul a b).toNat:=by
 rw[w8w a b.toNat 8 (k1w _),w1h,v7h,mul_comm]
theorem accN_lt (a:UInt8)(b:Nat):∀ k,k≤8→accN a.toNat b k<2 ^ 16
 |0,_=>(by decide:0<2 ^ 16)
 |k+1,hk=>by
  unfold accN
  have ih:=accN_lt a b k (by omega)
  have h2:2 ^ k≤2 ^ 7:=Nat.pow_le_pow_right (by decide) (by omega)
  have ha:=a.toNat_lt
  have hm:a.toNat*2 ^ k≤255*2 ^ 7:=Nat.mul_le_mul (by omega) h2
  split
  ·exact Nat.xor_lt_two_pow ih (by omega)
  ·exact ih
theorem redN_lt {n:Nat}(hn:n<2 ^ 16):∀ j,redN n j<2 ^ 16
 |0=>hn
 |j+1=>by
  unfold redN w6d
  have ih:=redN_lt hn j
  have h2:2 ^ (7 - j)≤2 ^ 7:=Nat.pow_le_pow_right (by decide) (by omega)
  split
  ·exact Nat.xor_lt_two_pow ih (by omega)
  ·exact ih
end Go.Proofs.YtinfbclgkghgaaaGreat.AL.Gf
namespace Go.Proofs.YtinfbclgkghgaaaGreat.AL
open Go Go.Proofs
theorem z3p (a k:Nat)(ha:a<2 ^ 40)(hk:k≤64):AF Tryz.prog w0s [i64 a,i64 k] [] (v8 (i64 (a.testBit k).toNat) []):=by
 refine AF.mono (R:=fun r H'=>∃ z:Int,z=(a.testBit k).toNat∧r=i64 z∧H'=[]) ?_ (by rintro r H' ⟨z,rfl,rfl,rfl⟩;exact⟨rfl,rfl⟩)
 refine v6 hT w0t rfl rfl w0u rfl ?_
 refine q8 hT ?_
 refine y6 (fun st=>∃ x:Int,x=((a / 2 ^ k:Nat):Int)∧st=⟨⟨15,[(0,i64 x)]⟩,[]⟩) (q8 hT ?_) ?_
 ·refine z3 ?_
  refine y7 (fun c st=>∃ (i:Nat) (ji x:Int),c+i=k∧ji=i∧x=((a / 2 ^ i:Nat):Int)∧st=⟨⟨15,[(0,i64 x),(1,i64 k),(5,i64 ji)]⟩,[]⟩) k ⟨⟨15,_⟩,_⟩ (q7 [] [0,1,5] rfl) ⟨0,0,a,by omega,rfl,by rw[Nat.pow_zero,Nat.div_one],rfl⟩ ?_
  rintro c st ⟨i,ji,x,hci,hji,hx,rfl⟩
  refine z8 (q8 hT ?_)
  refine z4 (y4 (fun h=>?_) (fun h=>?_))
  ·have h:=k0q (show decide (ji<(k:Int))=true from h)
   refine z5 ?_
   have hd:a / 2 ^ i≤a:=Nat.div_le_self _ _
   have hn:IntKind.i64.wrap (x.tdiv 2)=((a / 2 ^ (i+1):Nat):Int):=by
    rw[hx,show (2:Int)=((2:Nat):Int) from rfl,z7w _ _ (by omega),Nat.div_div_eq_div_mul,Nat.pow_succ]
   refine y6 (fun st=>∃ x:Int,x=((a / 2 ^ (i+1):Nat):Int)∧st=⟨⟨15,[(0,i64 x),(1,i64 k),(5,i64 ji)]⟩,[]⟩) (z3 (q9 hT ?_)) ?_
   ·exact⟨_,q7 [] [0,1,5] rfl,_,hn,rfl⟩
   ·rintro _ ⟨x,hx,rfl⟩
    refine q9 hT ?_
    exact⟨c - 1,by omega,_,q7 [] [0,1,5] rfl,i+1,IntKind.i64.wrap (ji+1),x,by omega,by rw[y8 _ (by omega) (by omega)];omega,hx,rfl⟩
  ·have h:=k0z (show decide (ji<(k:Int))=false from h)
   refine x6 ?_
   exact⟨_,q7 [] [0] rfl,x,by rw[hx,show i=k by omega],rfl⟩
 rintro _ ⟨x,hx,rfl⟩
 refine q8 hT ?_
 refine y9 ?_
 refine z9 [] ⟨_,?_,rfl,rfl⟩ rfl
 rw[hx,show (2:Int)=((2:Nat):Int) from rfl,y6s,Nat.toNat_testBit]
theorem z2c (k:Nat)(hk:k≤16):AF Tryz.prog y9k [i64 k] [] (v8 (i64 ((2 ^ k:Nat):Int)) []):=by
 refine AF.mono (R:=fun r H'=>∃ z:Int,z=((2 ^ k:Nat):Int)∧r=i64 z∧H'=[]) ?_ (by rintro r H' ⟨z,rfl,rfl,rfl⟩;exact⟨rfl,rfl⟩)
 refine v6 hT y9m rfl rfl y9n rfl ?_
 refine q8 hT ?_
 refine q8 hT ?_
 refine y6 (fun st=>∃ x:Int,x=((2 ^ k:Nat):Int)∧st=⟨⟨13,[(3,i64 x)]⟩,[]⟩) (q8 hT ?_) ?_
 ·refine z3 ?_
  refine y7 (fun c st=>∃ (i:Nat) (ji x:Int),c+i=k∧ji=i∧x=((2 ^ i:Nat):Int)∧st=⟨⟨13,[(0,i64 k),(3,i64 x),(4,i64 ji)]⟩,[]⟩) k ⟨⟨13,_⟩,_⟩ (q7 [] [0,3,4] rfl) ⟨0,0,1,by omega,rfl,rfl,rfl⟩ ?_
  rintro c st ⟨i,ji,x,hci,hji,hx,rfl⟩
  refine z8 (q8 hT ?_)
  refine z4 (y4 (fun h=>?_) (fun h=>?_))
  ·have h:=k0q (show decide (ji<(k:Int))=true from h)
   refine z5 ?_
   have h2:2 ^ i≤2 ^ 16:=Nat.pow_le_pow_right (by decide) (by omega)
   generalize hpi:2 ^ i=pi at h2 hx
   refine y6 (fun st=>∃ x:Int,x=((2 ^ (i+1):Nat):Int)∧st=⟨⟨13,[(0,i64 k),(3,i64 x),(4,i64 ji)]⟩,[]⟩) (z3 (q9 hT ?_)) ?_
   ·exact⟨_,q7 [] [0,3,4] rfl,_,by rw[hx,y8 _ (by omega) (by omega),Nat.pow_succ,hpi,Int.natCast_mul];rfl,rfl⟩
   ·rintro _ ⟨x,hx,rfl⟩
    refine q9 hT ?_
    exact⟨c - 1,by omega,_,q7 [] [0,3,4] rfl,i+1,IntKind.i64.wrap (ji+1),x,by omega,by rw[y8 _ (by omega) (by omega)];omega,hx,rfl⟩
  ·have h:=k0z (show decide (ji<(k:Int))=false from h)
   refine x6 ?_
   exact⟨_,q7 [] [3] rfl,x,by rw[hx,show i=k by omega],rfl⟩
 rintro _ ⟨x,hx,rfl⟩
 refine q8 hT ?_
 refine y9 ?_
 exact z9 [] ⟨x,hx,rfl,rfl⟩ rfl
theorem v7i (x k:Nat):x % 2 ^ (k+1)=x % 2 ^ k+(match x.testBit k with|true=>2 ^ k|false=>0):=by
 have h:=Nat.toNat_testBit x k
 have h2:=Nat.mod_mul (a:=2 ^ k) (b:=2) (x:=x)
 rw[← Nat.pow_succ]at h2
 rw[h2,← h]
 cases x.testBit k <;> simp
theorem y0m (a b:Nat)(ha:a<2 ^ 16)(hb:b<2 ^ 16):AF Tryz.prog w0v [i64 a,i64 b] [] (v8 (i64 ((a ^^^ b:Nat):Int)) []):=by
 refine AF.mono (R:=fun r H'=>∃ z:Int,z=((a ^^^ b:Nat):Int)∧r=i64 z∧H'=[]) ?_ (by rintro r H' ⟨z,rfl,rfl,rfl⟩;exact⟨rfl,rfl⟩)
 have hab:a ^^^ b<2 ^ 16:=Nat.xor_lt_two_pow ha hb
 have hbit:∀ k,(a ^^^ b).testBit k=(a.testBit k ^^ b.testBit k):=fun k=>Nat.testBit_xor ..
 generalize hx0:a ^^^ b=X at hab hbit
 refine v6 hT w0w rfl rfl w0x rfl ?_
 refine q8 hT ?_
 refine q8 hT ?_
 refine y6 (fun st=>∃ x:Int,x=((X:Nat):Int)∧st=⟨⟨23,[(5,i64 x)]⟩,[]⟩) (q8 hT ?_) ?_
 ·refine z3 ?_
  refine y7 (fun c st=>∃ (i:Nat) (ji x:Int),c+i=16∧ji=i∧x=((X % 2 ^ i:Nat):Int)∧st=⟨⟨23,[(0,i64 a),(1,i64 b),(5,i64 x),(6,i64 ji)]⟩,[]⟩) 16 ⟨⟨23,_⟩,_⟩ (q7 [] [0,1,5,6] rfl) ⟨0,0,0,by omega,rfl,by rw[Nat.pow_zero,Nat.mod_one];rfl,rfl⟩ ?_
  rintro c st ⟨i,ji,x,hci,hji,hx,rfl⟩
  refine z8 (q8 hT ?_)
  refine z4 (y4 (fun h=>?_) (fun h=>?_))
  ·have h:=k0q (show decide (ji<16)=true from h)
   refine z5 ?_
   have wa:=z3p a i (by omega) (by omega)
   have wb:=z3p b i (by omega) (by omega)
   have wp:=z2c i (by omega)
   rw[← hji]at wa wb wp
   have h2:2 ^ i≤2 ^ 16:=Nat.pow_le_pow_right (by decide) (by omega)
   have hst:=v7i X i
   rw[hbit i]at hst
   have hml:=Nat.mod_le X (2 ^ i)
   refine y6 (fun st=>∃ x:Int,x=((X % 2 ^ (i+1):Nat):Int)∧st=⟨⟨23,[(0,i64 a),(1,i64 b),(5,i64 x),(6,i64 ji)]⟩,[]⟩) (z3 (q8 hT ?_)) ?_
   ·refine x7 (w7 wa _ rfl rfl) ?_
    refine x7 (w7 wb _ rfl rfl) ?_
    refine z4 (y4 (fun h=>?_) (fun h=>?_))
    ·have h:(((a.testBit i).toNat:Int) != ((b.testBit i).toNat:Int))=true:=h
     have hxr:(a.testBit i ^^ b.testBit i)=true:=by
      revert h
      cases a.testBit i <;> cases b.testBit i <;> decide
     rw[hxr]at hst
     refine q9 hT ?_
     refine x7 (w7 wp _ rfl rfl) ?_
     refine⟨_,q7 [] [0,1,5,6] rfl,_,?_,rfl⟩
     rw[hst,hx,y8 _ (by omega) (by omega)];exact(Int.natCast_add _ _).symm
    ·have h:(((a.testBit i).toNat:Int) != ((b.testBit i).toNat:Int))=false:=h
     have hxr:(a.testBit i ^^ b.testBit i)=false:=by
      revert h
      cases a.testBit i <;> cases b.testBit i <;> decide
     rw[hxr]at hst
     exact z5 ⟨_,q7 [] [0,1,5,6] rfl,x,by rw[hst,hx];rfl,rfl⟩
   ·rintro _ ⟨x,hx,rfl⟩
    refine q9 hT ?_
    exact⟨c - 1,by omega,_,q7 [] [0,1,5,6] rfl,i+1,IntKind.i64.wrap (ji+1),x,by omega,by rw[y8 _ (by omega) (by omega)];omega,hx,rfl⟩
  ·have h:=k0z (show decide (ji<16)=false from h)
   refine x6 ?_
   exact⟨_,q7 [] [5] rfl,x,by rw[hx,show i=16 by omega,Nat.mod_eq_of_lt hab],rfl⟩
 rintro _ ⟨x,hx,rfl⟩
 refine q8 hT ?_
 refine y9 ?_
 exact z9 [] ⟨x,hx,rfl,rfl⟩ rfl
theorem q6u (a b:UInt8):AF Tryz.prog y1g [.p (u8 a),.p (u8 b)] [] (v8 (.p (u8 (a ^^^ b))) []):=by
 have w:=y0m a.toNat b.toNat (by have:=a.toNat_lt;omega) (by have:=b.toNat_lt;omega)
 rw[← UInt8.toNat_xor,← y8 (a.toNat:Int) (by have:=a.toNat_lt;omega) (by have:=a.toNat_lt;omega),← y8 (b.toNat:Int) (by have:=b.toNat_lt;omega) (by have:=b.toNat_lt;omega)]at w
 have hw:IntKind.u8.wrap (((a ^^^ b).toNat:Nat):Int)=((a ^^^ b).toNat:Int):=by rw[q0t,UInt8.ofNat_toNat]
 refine AF.mono (R:=fun r H'=>∃ z:Int,z=((a ^^^ b).toNat:Int)∧r=.p (.raw (.int .u8 z))∧H'=[]) ?_ (by rintro r H' ⟨z,rfl,rfl,rfl⟩;exact⟨rfl,rfl⟩)
 generalize (a ^^^ b).toNat=q at w hw
 refine v6 hT w0d rfl rfl w0e rfl ?_
 refine q8 hT ?_
 refine q8 hT ?_
 refine x7 (w7 w _ rfl rfl) ?_
 refine y9 ?_
 exact z9 [] ⟨_,hw,rfl,rfl⟩ rfl
theorem q6v (a b:UInt8):AF Tryz.prog y1f [.p (u8 a),.p (u8 b)] [] (v8 (.p (u8 (Gf.mul a b))) []):=by
 have hw:IntKind.u8.wrap (((Gf.mul a b).toNat:Nat):Int)=((Gf.mul a b).toNat:Int):=by rw[q0t,UInt8.ofNat_toNat]
 refine AF.mono (R:=fun r H'=>∃ z:Int,z=((Gf.mul a b).toNat:Int)∧r=.p (.raw (.int .u8 z))∧H'=[]) ?_ (by rintro r H' ⟨z,rfl,rfl,rfl⟩;exact⟨rfl,rfl⟩)
 have hred:=Gf.red_mul a b
 have hal:=fun k hk=>Gf.accN_lt a b.toNat k hk
 have hrl:=fun j=>Gf.redN_lt (hal 8 (k1w _)) j
 have hb:=b.toNat_lt
 have ha:=a.toNat_lt
 refine v6 hT w0b rfl rfl w0c rfl ?_
 refine q8 hT ?_
 refine q8 hT ?_
 refine y6 (fun st=>∃ x:Int,x=((Gf.accN a.toNat b.toNat 8:Nat):Int)∧st=⟨⟨40,[(5,i64 x)]⟩,[]⟩) (q8 hT ?_) ?_
 ·refine z3 ?_
  refine y7 (fun c st=>∃ (i:Nat) (ji x:Int),c+i=8∧ji=i∧x=((Gf.accN a.toNat b.toNat i:Nat):Int)∧st=⟨⟨40,[(0,.p (u8 a)),(1,.p (u8 b)),(5,i64 x),(6,i64 ji)]⟩,[]⟩) 8 ⟨⟨40,_⟩,_⟩ (q7 [] [0,1,5,6] rfl) ⟨0,0,0,by omega,rfl,rfl,rfl⟩ ?_
  rintro c st ⟨i,ji,x,hci,hji,hx,rfl⟩
  refine z8 (q8 hT ?_)
  refine z4 (y4 (fun h=>?_) (fun h=>?_))
  ·have h:=k0q (show decide (ji<8)=true from h)
   refine z5 ?_
   have wb:=z3p b.toNat i (by omega) (by omega)
   have wp:=z2c i (by omega)
   have h2:2 ^ i≤2 ^ 7:=Nat.pow_le_pow_right (by decide) (by omega)
   have hm:a.toNat*2 ^ i≤255*2 ^ 7:=Nat.mul_le_mul (by omega) h2
   have ws:=y0m (Gf.accN a.toNat b.toNat i) (a.toNat*2 ^ i) (hal i (by omega)) (by omega)
   have hst:Gf.accN a.toNat b.toNat (i+1)=match b.toNat.testBit i with|true=>Gf.accN a.toNat b.toNat i ^^^ (a.toNat*2 ^ i)|false=>Gf.accN a.toNat b.toNat i:=rfl
   have hwa:IntKind.i64.wrap (a.toNat:Int)=a.toNat:=y8 _ (by omega) (by omega)
   have hwb:IntKind.i64.wrap (b.toNat:Int)=b.toNat:=y8 _ (by omega) (by omega)
   have hmw:IntKind.i64.wrap (IntKind.i64.wrap (a.toNat:Int)*((2 ^ i:Nat):Int))=((a.toNat*2 ^ i:Nat):Int):=by
    rw[hwa,show (a.toNat:Int)*((2 ^ i:Nat):Int)=((a.toNat*2 ^ i:Nat):Int) from(Int.natCast_mul _ _).symm]
    exact y8 _ (by omega) (by omega)
   rw[← hx,← hmw]at ws
   rw[← hji]at wb wp
   rw[← hwb]at wb
   refine y6 (fun st=>∃ x:Int,x=((Gf.accN a.toNat b.toNat (i+1):Nat):Int)∧st=⟨⟨40,[(0,.p (u8 a)),(1,.p (u8 b)),(5,i64 x),(6,i64 ji)]⟩,[]⟩) (z3 (q8 hT ?_)) ?_
   ·refine x7 (w7 wb _ rfl rfl) ?_
    refine z4 (y4 (fun h=>?_) (fun h=>?_))
    ·have h:(((b.toNat.testBit i).toNat:Int)==1)=true:=h
     have hb1:b.toNat.testBit i=true:=by
      revert h
      cases b.toNat.testBit i <;> decide
     rw[hb1]at hst
     refine q9 hT ?_
     refine x7 (w7 wp _ rfl rfl) ?_
     refine x7 (w7 ws _ rfl rfl) ?_
     exact⟨_,q7 [] [0,1,5,6] rfl,_,by rw[hst],rfl⟩
    ·have h:(((b.toNat.testBit i).toNat:Int)==1)=false:=h
     have hb1:b.toNat.testBit i=false:=by
      revert h
      cases b.toNat.testBit i <;> decide
     rw[hb1]at hst
     exact z5 ⟨_,q7 [] [0,1,5,6] rfl,x,by rw[hst,hx],rfl⟩
   ·rintro _ ⟨x,hx,rfl⟩
    refine q9 hT ?_
    exact⟨c - 1,by omega,_,q7 [] [0,1,5,6] rfl,i+1,IntKind.i64.wrap (ji+1),x,by omega,by rw[y8 _ (by omega) (by omega)];omega,hx,rfl⟩
  ·have h:=k0z (show decide (ji<8)=false from h)
   refine x6 ?_
   exact⟨_,q7 [] [5] rfl,x,by rw[hx,show i=8 by omega],rfl⟩
 rintro _ ⟨x8,hx8,rfl⟩
 have hal8:=hal 8 (k1w _)
 generalize Gf.accN a.toNat b.toNat 8=N8 at hred hrl hx8 hal8
 refine y6 (fun st=>∃ x:Int,x=((Gf.mul a b).toNat:Int)∧st=⟨⟨40,[(5,i64 x)]⟩,[]⟩) (q8 hT ?_) ?_
 ·refine z3 ?_
  refine y7 (fun c st=>∃ (j:Nat) (ji x:Int),c+j=8∧ji=15 - (j:Int)∧x=((Gf.redN N8 j:Nat):Int)∧st=⟨⟨40,[(5,i64 x),(7,i64 ji)]⟩,[]⟩) 8 ⟨⟨40,_⟩,_⟩ (q7 [] [5,7] rfl) ⟨0,15,x8,by omega,rfl,hx8,rfl⟩ ?_
  rintro c st ⟨j,ji,x,hcj,hji,hx,rfl⟩
  refine z8 (q8 hT ?_)
  refine z4 (y4 (fun h=>?_) (fun h=>?_))
  ·have h:=k0q (show decide (ji≥8)=true from h)
   refine z5 ?_
   have hj:j<8:=by omega
   have hrj:=hrl j
   have wb:=z3p (Gf.redN N8 j) (15 - j) (by omega) (by omega)
   have hjw:IntKind.i64.wrap (ji - 8)=((7 - j:Nat):Int):=by rw[y8 _ (by omega) (by omega),hji];omega
   have wp:=z2c (7 - j) (by omega)
   have h2:2 ^ (7 - j)≤2 ^ 7:=Nat.pow_le_pow_right (by decide) (by omega)
   have ws:=y0m (Gf.redN N8 j) (285*2 ^ (7 - j)) hrj (by omega)
   have hst:Gf.redN N8 (j+1)=match (Gf.redN N8 j).testBit (15 - j) with|true=>Gf.redN N8 j ^^^ (285*2 ^ (7 - j))|false=>Gf.redN N8 j:=rfl
   have hmw:IntKind.i64.wrap (285*((2 ^ (7 - j):Nat):Int))=((285*2 ^ (7 - j):Nat):Int):=by
    rw[show (285:Int)*((2 ^ (7 - j):Nat):Int)=((285*2 ^ (7 - j):Nat):Int) from(Int.natCast_mul _ _).symm]
    exact y8 _ (by omega) (by omega)
   rw[← hx,← hmw]at ws
   rw[show ((15 - j:Nat):Int)=ji by omega,← hx]at wb
   rw[← hjw]at wp
   refine y6 (fun st=>∃ x:Int,x=((Gf.redN N8 (j+1):Nat):Int)∧st=⟨⟨40,[(5,i64 x),(7,i64 ji)]⟩,[]⟩) (z3 (q8 hT ?_)) ?_
   ·refine x7 (w7 wb _ rfl rfl) ?_
    refine z4 (y4 (fun h=>?_) (fun h=>?_))
    ·have h:((((Gf.redN N8 j).testBit (15 - j)).toNat:Int)==1)=true:=h
     have hb1:(Gf.redN N8 j).testBit (15 - j)=true:=by
      revert h
      cases (Gf.redN N8 j).testBit (15 - j) <;> decide
     rw[hb1]at hst
     refine q9 hT ?_
     refine x7 (w7 wp _ rfl rfl) ?_
     refine x7 (w7 ws _ rfl rfl) ?_
     exact⟨_,q7 [] [5,7] rfl,_,by rw[hst],rfl⟩
    ·have h:((((Gf.redN N8 j).testBit (15 - j)).toNat:Int)==1)=false:=h
     have hb1:(Gf.redN N8 j).testBit (15 - j)=false:=by
      revert h
      cases (Gf.redN N8 j).testBit (15 - j) <;> decide
     rw[hb1]at hst
     exact z5 ⟨_,q7 [] [5,7] rfl,x,by rw[hst,hx],rfl⟩
   ·rintro _ ⟨x,hx,rfl⟩
    refine q9 hT ?_
    exact⟨c - 1,by omega,_,q7 [] [5,7] rfl,j+1,IntKind.i64.wrap (ji - 1),x,by omega,by rw[y8 _ (by omega) (by omega)];omega,hx,rfl⟩
  ·have h:=k0z (show decide (ji≥8)=false from h)
   refine x6 ?_
   exact⟨_,q7 [] [5] rfl,x,by rw[hx,show j=8 by omega,hred],rfl⟩
 rintro _ ⟨x,hx,rfl⟩
 rw[← hx]at hw
 refine q8 hT ?_
 refine y9 ?_
 exact z9 [] ⟨_,hw.trans hx,rfl,rfl⟩ rfl
theorem Gf.mul_inv_cancel {b:UInt8}(hb:b≠0)(a c:UInt8):Gf.mul c b=a↔c=Gf.mul a (Gf.inv b):=by
 constructor
 ·intro h
  rw[← h,Gf.mul_assoc,Gf.mul_inv hb,Gf.mul_one]
 ·intro h
  rw[h,Gf.mul_assoc,Gf.mul_comm (Gf.inv b),Gf.mul_inv hb,Gf.mul_one]
theorem q9f (a b:UInt8)(hb:b≠0):AF Tryz.prog w0i [.p (u8 a),.p (u8 b)] [] (v8 (.tup [.p (u8 (Gf.mul a (Gf.inv b))),i64 0]) []):=by
 obtain⟨q,hq⟩:∃ q,q=Gf.mul a (Gf.inv b):=⟨_,rfl⟩
 rw[← hq]
 have hqc:=fun c=>Gf.mul_inv_cancel hb a c
 rw[← hq]at hqc
 have hql:=q.toNat_lt
 refine AF.mono (R:=fun r H'=>∃ z:Int,z=(q.toNat:Int)∧r=.tup [.p (.raw (.int .u8 z)),i64 0]∧H'=[]) ?_ (by rintro r H' ⟨z,rfl,rfl,rfl⟩;exact⟨rfl,rfl⟩)
 refine v6 hT w0j rfl rfl w0k rfl ?_
 refine q8 hT ?_
 refine z7 ⟨⟨23,[(0,.p (u8 a)),(1,.p (u8 b))]⟩,[]⟩ True (q8 hT ?_) (fun _=>?_)
 ·refine z4 (y4 (fun h=>?_) (fun h=>?_))
  ·have h:((b.toNat:Int)==0)=true:=h
   rw[beq_iff_eq]at h
   exact absurd (UInt8.toNat_inj.mp (show b.toNat=(0:UInt8).toNat by show b.toNat=0;omega)) hb
  ·exact z5 ⟨q7 [] [0,1] rfl,trivial⟩
 refine z8 (q8 hT ?_)
 refine z3 ?_
 refine y7 (fun n st=>∃ (c:Nat) (jc:Int),n+c=q.toNat∧jc=c∧st=⟨⟨23,[(0,.p (u8 a)),(1,.p (u8 b)),(6,i64 jc)]⟩,[]⟩) q.toNat ⟨⟨23,_⟩,_⟩ (q7 [] [0,1,6] rfl) ⟨0,0,by omega,rfl,rfl⟩ ?_
 rintro n st ⟨c,jc,hnc,hjc,rfl⟩
 refine z8 (q8 hT ?_)
 refine z4 (y4 (fun h=>?_) (fun h=>?_))
 ·refine z5 ?_
  have hcw:IntKind.u8.wrap jc=((UInt8.ofNat c).toNat:Int):=by rw[hjc,q0t]
  have hcn:(UInt8.ofNat c).toNat=c:=by rw[UInt8.toNat_ofNat',Nat.mod_eq_of_lt (by omega)]
  have wM:=q6v (UInt8.ofNat c) b
  have hcq:=hqc (UInt8.ofNat c)
  generalize Gf.mul (UInt8.ofNat c) b=p at wM hcq
  refine z7 ⟨⟨23,[(0,.p (u8 a)),(1,.p (u8 b)),(6,i64 jc)]⟩,[]⟩ (c≠q.toNat) (z3 (q8 hT ?_)) (fun hne=>?_)
  ·have wM:AF Tryz.prog y1f [.p (.raw (.int .u8 (IntKind.u8.wrap jc))),.p (u8 b)] [] (v8 (.p (u8 p)) []):=by rw[hcw];exact wM
   refine x7 (w7 wM _ rfl rfl) ?_
   refine q8 hT ?_
   refine z4 (y4 (fun h=>?_) (fun h=>?_))
   ·have h:((p.toNat:Int)==(a.toNat:Int))=true:=h
    rw[beq_iff_eq]at h
    have hpa:p=a:=UInt8.toNat_inj.mp (by omega)
    have hc:=hcq.mp hpa
    refine q8 hT ?_
    refine y9 ?_
    exact z9 [] ⟨_,by rw[hcw,hc],rfl,rfl⟩ rfl
   ·have h:((p.toNat:Int)==(a.toNat:Int))=false:=h
    rw[beq_eq_false_iff_ne]at h
    refine z5 ⟨q7 [] [0,1,6] rfl,fun e=>?_⟩
    have hc:UInt8.ofNat c=q:=UInt8.toNat_inj.mp (by omega)
    exact h (by rw[hcq.mpr hc])
  ·refine q9 hT ?_
   exact⟨n - 1,by omega,_,q7 [] [0,1,6] rfl,c+1,IntKind.i64.wrap (jc+1),by omega,by rw[y8 _ (by omega) (by omega)];omega,rfl⟩
 ·have h:=k0z (show decide (jc<256)=false from h)
  omega
end Go.Proofs.YtinfbclgkghgaaaGreat.AL
