/- A part of the proof. -/
import Derived.Test.YtinfbclgkghgaaaGreatSnupI
/- The layer 2 (mat): a matrix is filled (printed by genmat.py). -/
namespace Go.Proofs.YtinfbclgkghgaaaGreat.AL
open Go Go.Proofs
/-- A row of a matrix,and what of it is filled already. -/
def u0 (A:Nat→Nat→UInt8)(c i:Nat):z7:=(List.range c).map (A i)
def Z6 (A:Nat→Nat→UInt8)(c i k:Nat):z7:=(List.range k).map (A i)++List.replicate (c - k) 0
theorem Y2 (A:Nat→Nat→UInt8){c:Nat}(i:Nat){k:Nat}(h:k≤c):(Z6 A c i k).length=c:=by
 unfold Z6;rw[List.length_append,List.length_map,List.length_range,List.length_replicate];omega
theorem q6a {l:z7}{k:Nat}(h:k<l.length):∃ v,(bx l)[k]?=some [u8 v]:=⟨l[k],by rw[bx,List.getElem?_map,List.getElem?_eq_getElem h];rfl⟩
theorem q0a (A:Nat→Nat→UInt8)(c i:Nat):Z6 A c i c=u0 A c i:=by unfold Z6 u0;simp
theorem z3g (A:Nat→Nat→UInt8)(c i:Nat):List.replicate (c:Int).toNat [PV.raw (.int .u8 0)]=bx (Z6 A c i 0):=by
 unfold Z6 bx;simp
theorem q0b (A:Nat→Nat→UInt8){c:Nat}(i:Nat){k:Nat}(h:k<c):(bx (Z6 A c i k)).set k [u8 (A i k)]=bx (Z6 A c i (k+1)):=by
 have e:Z6 A c i (k+1)=(Z6 A c i k).set k (A i k):=by
  unfold Z6
  rw[List.set_append_right _ _ (by rw[List.length_map,List.length_range];exact Nat.le_refl _),List.length_map,List.length_range,Nat.sub_self,List.range_succ,List.map_append,List.append_assoc,show c - k=(c - (k+1))+1 by omega,List.replicate_succ]
  rfl
 rw[e]
 unfold bx
 rw[List.map_set]
set_option maxHeartbeats 2000000 in
set_option maxRecDepth 20000 in
theorem z1g (fn:FuncId)(c:Nat)(hc:c≤4096)(A:Nat→Nat→UInt8)(hA:∀ i k:Nat,i<1→k<c→AF Tryz.prog fn (i64 i :: i64 k :: []) [] (v9 (.p (u8 (A i k))) [])) :
 AF Tryz.prog q1e [i64 1,i64 c,.clo (.func fn) []] [] (v9 (.msl 0 1 0 1) [.cells z0 [.msl 1 1 0 c],.row z1 1 (bx (u0 A c 0))]):=by
 refine v8 hT q1f rfl rfl q1g rfl ?_
 refine q8 (q7 hT ?_)
 refine z8 ⟨⟨43,[(1,i64 c),(2,.clo (.func fn) []),(7,.msl 0 1 0 1)]⟩,[.cells z0 [.p (.raw (.slice none 0 0))]]⟩ True (q7 hT ?_) (fun _=>?_)
 ·refine⟨⟨rfl,by decide,by decide,by decide⟩,?_⟩
  exact⟨Wk.trans (J2 0 [.raw (.slice none 0 0)] rfl rfl (by decide)) (q9 [0] [1,2,7] rfl),trivial⟩
 refine z8 ⟨⟨43,[(7,.msl 0 1 0 1)]⟩,[.cells z0 [.msl 1 1 0 c],.row z1 1 (bx (u0 A c 0))]⟩ True (q8 (q7 hT ?_)) (fun _=>?_)
 ·refine z3 ?_
  refine y8 (fun n s=>(n=1∧s=⟨⟨43,[(1,i64 c),(2,.clo (.func fn) []),(7,.msl 0 1 0 1),(13,i64 1),(14,i64 0)]⟩,[.cells z0 [.p (.raw (.slice none 0 0))]]⟩)∨(n=0∧s=⟨⟨43,[(1,i64 c),(2,.clo (.func fn) []),(7,.msl 0 1 0 1),(13,i64 1),(14,i64 1)]⟩,[.cells z0 [.msl 1 1 0 c],.row z1 1 (bx (u0 A c 0))]⟩)) 1 ⟨⟨43,_⟩,_⟩ (q9 [0] [1,2,7,13,14] rfl) (.inl ⟨rfl,rfl⟩) ?_
  rintro n s (⟨rfl,rfl⟩|⟨rfl,rfl⟩)
  ·refine q8 (q7 hT ?_)
   refine q8 (z2 ?_)
   refine z5 ?_
   refine z8 ⟨⟨43,[(1,i64 c),(2,.clo (.func fn) []),(7,.msl 0 1 0 1),(13,i64 1),(8,i64 0),(14,i64 0)]⟩,[.cells z0 [.msl 1 1 0 c],.row z1 1 (bx (u0 A c 0))]⟩ True (z3 ?_) (fun _=>?_)
   ·refine q8 (q7 hT ?_)
    refine y6 (fun st=>∃ X,X=bx (Z6 A c 0 0)∧st=⟨⟨43,[(1,i64 c),(2,.clo (.func fn) []),(7,.msl 0 1 0 1),(13,i64 1),(8,i64 0),(14,i64 0)]⟩,[.cells z0 [.msl 1 1 0 c],.row z1 1 (X)]⟩) (q7 hT ?_) ?_
    ·refine⟨⟨rfl,by omega,by show (c:Int)*1≤_;omega,by omega⟩,?_⟩
     refine⟨by decide,?_⟩
     exact⟨_,q9 [0,1] [1,2,7,13,8,14] rfl,_,z3g A c 0,rfl⟩
    rintro _ ⟨X0,hX0,rfl⟩
    refine q8 (q7 hT ?_)
    refine⟨by decide,?_⟩
    refine z3 ?_
    refine y8 (fun n s=>∃ (k:Nat) (j:Int),n+k=c∧j=k∧s=⟨⟨43,[(1,i64 c),(2,.clo (.func fn) []),(7,.msl 0 1 0 1),(13,i64 1),(8,i64 0),(14,i64 0),(26,i64 c),(27,i64 j)]⟩,[.cells z0 [.msl 1 1 0 c],.row z1 1 (bx (Z6 A c 0 k))]⟩) c ⟨⟨43,_⟩,_⟩ (q9 [0,1] [1,2,7,13,8,14,26,27] rfl) ⟨0,0,by omega,rfl,by rw[hX0];rfl⟩ ?_
    rintro n2 s ⟨k,j,hnk,hj,rfl⟩
    refine q8 (q7 hT ?_)
    refine q8 (z2 (y4 (fun h=>?_) (fun h=>?_)))
    ·have h:=of_decide_eq_true (show decide (j<(c:Int))=true from h)
     refine z5 ?_
     have w:=hA 0 k (by decide) (by omega)
     rw[← hj]at w
     have w:AF Tryz.prog fn ([i64 0,i64 j]++[]) [] (v9 (.p (u8 (A 0 k))) []):=w
     have hset:=q0b A (c:=c) 0 (k:=k) (by omega)
     have hjk:0+j.toNat=k:=by omega
     have hlen:(bx (Z6 A c 0 k)).length=c:=by rw[w9,Y2 A 0 (by omega)]
     obtain⟨v,hv⟩:∃ v,(bx (Z6 A c 0 k))[0+j.toNat]?=some [u8 v]:=by rw[hjk];exact q6a (by rw[Y2 A 0 (by omega)];omega)
     refine y6 (fun st=>∃ X,X=bx (Z6 A c 0 (k+1))∧st=⟨⟨43,[(1,i64 c),(2,.clo (.func fn) []),(7,.msl 0 1 0 1),(13,i64 1),(8,i64 0),(14,i64 0),(26,i64 c),(27,i64 j)]⟩,[.cells z0 [.msl 1 1 0 c],.row z1 1 (X)]⟩) (z3 (q8 (q7 hT ?_))) ?_
     ·refine x6 [10] [] hT z6 (by rfl) ?_
      refine⟨by decide,?_⟩
      refine⟨_,w7 w _ rfl rfl,?_⟩
      refine⟨⟨by omega,by omega⟩,?_⟩
      refine v7 hv ?_
      repeat first|refine⟨rfl,?_⟩|refine⟨⟨_,w7 w _ rfl rfl,rfl⟩,?_⟩|refine⟨⟨by decide,rfl⟩,?_⟩|refine⟨⟨⟨by omega,by omega⟩,rfl⟩,?_⟩
      refine⟨_,q9 [0,1] [1,2,7,13,8,14,26,27] rfl,_,?_,rfl⟩
      show List.set (bx (Z6 A c 0 k)) (0+j.toNat) [u8 (A 0 k)]=_
      rw[hjk,hset]
     ·rintro _ ⟨X,rfl,rfl⟩
      refine q7 hT ?_
      exact⟨n2 - 1,by omega,_,q9 [0,1] [1,2,7,13,8,14,26,27] rfl,k+1,IntKind.i64.wrap (j+1),by omega,by rw[y7 _ (by omega) (by omega)];omega,rfl⟩
    ·have h:=of_decide_eq_false (show decide (j<(c:Int))=false from h)
     rw[show k=c by omega,q0a]
     refine x9 ?_
     exact⟨q9 [0,1] [1,2,7,13,8,14] rfl,trivial⟩
   ·refine q7 hT ?_
    exact⟨0,by decide,_,q9 [0,1] [1,2,7,13,14] rfl,(.inr ⟨rfl,rfl⟩)⟩
  ·refine q8 (q7 hT ?_)
   refine q8 (z2 ?_)
   refine x9 ?_
   exact⟨q9 [0,1] [7] rfl,trivial⟩
 refine q8 (q7 hT ?_)
 refine y5 ?_
 exact z9 [0,1] ⟨rfl,rfl⟩ rfl
set_option maxHeartbeats 2000000 in
set_option maxRecDepth 20000 in
theorem z1h (fn:FuncId)(c:Nat)(hc:c≤4096)(A:Nat→Nat→UInt8)(hA:∀ i k:Nat,i<2→k<c→AF Tryz.prog fn (i64 i :: i64 k :: []) [] (v9 (.p (u8 (A i k))) [])) :
 AF Tryz.prog q1e [i64 2,i64 c,.clo (.func fn) []] [] (v9 (.msl 0 1 0 2) [.cells z0 [.msl 1 1 0 c,.msl 2 1 0 c],.row z1 1 (bx (u0 A c 0)),.row z1 1 (bx (u0 A c 1))]):=by
 refine v8 hT q1f rfl rfl q1g rfl ?_
 refine q8 (q7 hT ?_)
 refine z8 ⟨⟨43,[(1,i64 c),(2,.clo (.func fn) []),(7,.msl 0 1 0 2)]⟩,[.cells z0 [.p (.raw (.slice none 0 0)),.p (.raw (.slice none 0 0))]]⟩ True (q7 hT ?_) (fun _=>?_)
 ·refine⟨⟨rfl,by decide,by decide,by decide⟩,?_⟩
  exact⟨Wk.trans (J2 0 [.raw (.slice none 0 0),.raw (.slice none 0 0)] rfl rfl (by decide)) (q9 [0] [1,2,7] rfl),trivial⟩
 refine z8 ⟨⟨43,[(7,.msl 0 1 0 2)]⟩,[.cells z0 [.msl 1 1 0 c,.msl 2 1 0 c],.row z1 1 (bx (u0 A c 0)),.row z1 1 (bx (u0 A c 1))]⟩ True (q8 (q7 hT ?_)) (fun _=>?_)
 ·refine z3 ?_
  refine y8 (fun n s=>(n=2∧s=⟨⟨43,[(1,i64 c),(2,.clo (.func fn) []),(7,.msl 0 1 0 2),(13,i64 2),(14,i64 0)]⟩,[.cells z0 [.p (.raw (.slice none 0 0)),.p (.raw (.slice none 0 0))]]⟩)∨(n=1∧s=⟨⟨43,[(1,i64 c),(2,.clo (.func fn) []),(7,.msl 0 1 0 2),(13,i64 2),(14,i64 1)]⟩,[.cells z0 [.msl 1 1 0 c,.p (.raw (.slice none 0 0))],.row z1 1 (bx (u0 A c 0))]⟩)∨(n=0∧s=⟨⟨43,[(1,i64 c),(2,.clo (.func fn) []),(7,.msl 0 1 0 2),(13,i64 2),(14,i64 2)]⟩,[.cells z0 [.msl 1 1 0 c,.msl 2 1 0 c],.row z1 1 (bx (u0 A c 0)),.row z1 1 (bx (u0 A c 1))]⟩)) 2 ⟨⟨43,_⟩,_⟩ (q9 [0] [1,2,7,13,14] rfl) (.inl ⟨rfl,rfl⟩) ?_
  rintro n s (⟨rfl,rfl⟩|⟨rfl,rfl⟩|⟨rfl,rfl⟩)
  ·refine q8 (q7 hT ?_)
   refine q8 (z2 ?_)
   refine z5 ?_
   refine z8 ⟨⟨43,[(1,i64 c),(2,.clo (.func fn) []),(7,.msl 0 1 0 2),(13,i64 2),(8,i64 0),(14,i64 0)]⟩,[.cells z0 [.msl 1 1 0 c,.p (.raw (.slice none 0 0))],.row z1 1 (bx (u0 A c 0))]⟩ True (z3 ?_) (fun _=>?_)
   ·refine q8 (q7 hT ?_)
    refine y6 (fun st=>∃ X,X=bx (Z6 A c 0 0)∧st=⟨⟨43,[(1,i64 c),(2,.clo (.func fn) []),(7,.msl 0 1 0 2),(13,i64 2),(8,i64 0),(14,i64 0)]⟩,[.cells z0 [.msl 1 1 0 c,.p (.raw (.slice none 0 0))],.row z1 1 (X)]⟩) (q7 hT ?_) ?_
    ·refine⟨⟨rfl,by omega,by show (c:Int)*1≤_;omega,by omega⟩,?_⟩
     refine⟨by decide,?_⟩
     exact⟨_,q9 [0,1] [1,2,7,13,8,14] rfl,_,z3g A c 0,rfl⟩
    rintro _ ⟨X0,hX0,rfl⟩
    refine q8 (q7 hT ?_)
    refine⟨by decide,?_⟩
    refine z3 ?_
    refine y8 (fun n s=>∃ (k:Nat) (j:Int),n+k=c∧j=k∧s=⟨⟨43,[(1,i64 c),(2,.clo (.func fn) []),(7,.msl 0 1 0 2),(13,i64 2),(8,i64 0),(14,i64 0),(26,i64 c),(27,i64 j)]⟩,[.cells z0 [.msl 1 1 0 c,.p (.raw (.slice none 0 0))],.row z1 1 (bx (Z6 A c 0 k))]⟩) c ⟨⟨43,_⟩,_⟩ (q9 [0,1] [1,2,7,13,8,14,26,27] rfl) ⟨0,0,by omega,rfl,by rw[hX0];rfl⟩ ?_
    rintro n2 s ⟨k,j,hnk,hj,rfl⟩
    refine q8 (q7 hT ?_)
    refine q8 (z2 (y4 (fun h=>?_) (fun h=>?_)))
    ·have h:=of_decide_eq_true (show decide (j<(c:Int))=true from h)
     refine z5 ?_
     have w:=hA 0 k (by decide) (by omega)
     rw[← hj]at w
     have w:AF Tryz.prog fn ([i64 0,i64 j]++[]) [] (v9 (.p (u8 (A 0 k))) []):=w
     have hset:=q0b A (c:=c) 0 (k:=k) (by omega)
     have hjk:0+j.toNat=k:=by omega
     have hlen:(bx (Z6 A c 0 k)).length=c:=by rw[w9,Y2 A 0 (by omega)]
     obtain⟨v,hv⟩:∃ v,(bx (Z6 A c 0 k))[0+j.toNat]?=some [u8 v]:=by rw[hjk];exact q6a (by rw[Y2 A 0 (by omega)];omega)
     refine y6 (fun st=>∃ X,X=bx (Z6 A c 0 (k+1))∧st=⟨⟨43,[(1,i64 c),(2,.clo (.func fn) []),(7,.msl 0 1 0 2),(13,i64 2),(8,i64 0),(14,i64 0),(26,i64 c),(27,i64 j)]⟩,[.cells z0 [.msl 1 1 0 c,.p (.raw (.slice none 0 0))],.row z1 1 (X)]⟩) (z3 (q8 (q7 hT ?_))) ?_
     ·refine x6 [10] [] hT z6 (by rfl) ?_
      refine⟨by decide,?_⟩
      refine⟨_,w7 w _ rfl rfl,?_⟩
      refine⟨⟨by omega,by omega⟩,?_⟩
      refine v7 hv ?_
      repeat first|refine⟨rfl,?_⟩|refine⟨⟨_,w7 w _ rfl rfl,rfl⟩,?_⟩|refine⟨⟨by decide,rfl⟩,?_⟩|refine⟨⟨⟨by omega,by omega⟩,rfl⟩,?_⟩
      refine⟨_,q9 [0,1] [1,2,7,13,8,14,26,27] rfl,_,?_,rfl⟩
      show List.set (bx (Z6 A c 0 k)) (0+j.toNat) [u8 (A 0 k)]=_
      rw[hjk,hset]
     ·rintro _ ⟨X,rfl,rfl⟩
      refine q7 hT ?_
      exact⟨n2 - 1,by omega,_,q9 [0,1] [1,2,7,13,8,14,26,27] rfl,k+1,IntKind.i64.wrap (j+1),by omega,by rw[y7 _ (by omega) (by omega)];omega,rfl⟩
    ·have h:=of_decide_eq_false (show decide (j<(c:Int))=false from h)
     rw[show k=c by omega,q0a]
     refine x9 ?_
     exact⟨q9 [0,1] [1,2,7,13,8,14] rfl,trivial⟩
   ·refine q7 hT ?_
    exact⟨1,by decide,_,q9 [0,1] [1,2,7,13,14] rfl,(.inr (.inl ⟨rfl,rfl⟩))⟩
  ·refine q8 (q7 hT ?_)
   refine q8 (z2 ?_)
   refine z5 ?_
   refine z8 ⟨⟨43,[(1,i64 c),(2,.clo (.func fn) []),(7,.msl 0 1 0 2),(13,i64 2),(8,i64 1),(14,i64 1)]⟩,[.cells z0 [.msl 1 1 0 c,.msl 2 1 0 c],.row z1 1 (bx (u0 A c 0)),.row z1 1 (bx (u0 A c 1))]⟩ True (z3 ?_) (fun _=>?_)
   ·refine q8 (q7 hT ?_)
    refine y6 (fun st=>∃ X,X=bx (Z6 A c 1 0)∧st=⟨⟨43,[(1,i64 c),(2,.clo (.func fn) []),(7,.msl 0 1 0 2),(13,i64 2),(8,i64 1),(14,i64 1)]⟩,[.cells z0 [.msl 1 1 0 c,.msl 2 1 0 c],.row z1 1 (bx (u0 A c 0)),.row z1 1 (X)]⟩) (q7 hT ?_) ?_
    ·refine⟨⟨rfl,by omega,by show (c:Int)*1≤_;omega,by omega⟩,?_⟩
     refine⟨by decide,?_⟩
     exact⟨_,q9 [0,1,2] [1,2,7,13,8,14] rfl,_,z3g A c 1,rfl⟩
    rintro _ ⟨X0,hX0,rfl⟩
    refine q8 (q7 hT ?_)
    refine⟨by decide,?_⟩
    refine z3 ?_
    refine y8 (fun n s=>∃ (k:Nat) (j:Int),n+k=c∧j=k∧s=⟨⟨43,[(1,i64 c),(2,.clo (.func fn) []),(7,.msl 0 1 0 2),(13,i64 2),(8,i64 1),(14,i64 1),(26,i64 c),(27,i64 j)]⟩,[.cells z0 [.msl 1 1 0 c,.msl 2 1 0 c],.row z1 1 (bx (u0 A c 0)),.row z1 1 (bx (Z6 A c 1 k))]⟩) c ⟨⟨43,_⟩,_⟩ (q9 [0,1,2] [1,2,7,13,8,14,26,27] rfl) ⟨0,0,by omega,rfl,by rw[hX0];rfl⟩ ?_
    rintro n2 s ⟨k,j,hnk,hj,rfl⟩
    refine q8 (q7 hT ?_)
    refine q8 (z2 (y4 (fun h=>?_) (fun h=>?_)))
    ·have h:=of_decide_eq_true (show decide (j<(c:Int))=true from h)
     refine z5 ?_
     have w:=hA 1 k (by decide) (by omega)
     rw[← hj]at w
     have w:AF Tryz.prog fn ([i64 1,i64 j]++[]) [] (v9 (.p (u8 (A 1 k))) []):=w
     have hset:=q0b A (c:=c) 1 (k:=k) (by omega)
     have hjk:0+j.toNat=k:=by omega
     have hlen:(bx (Z6 A c 1 k)).length=c:=by rw[w9,Y2 A 1 (by omega)]
     obtain⟨v,hv⟩:∃ v,(bx (Z6 A c 1 k))[0+j.toNat]?=some [u8 v]:=by rw[hjk];exact q6a (by rw[Y2 A 1 (by omega)];omega)
     refine y6 (fun st=>∃ X,X=bx (Z6 A c 1 (k+1))∧st=⟨⟨43,[(1,i64 c),(2,.clo (.func fn) []),(7,.msl 0 1 0 2),(13,i64 2),(8,i64 1),(14,i64 1),(26,i64 c),(27,i64 j)]⟩,[.cells z0 [.msl 1 1 0 c,.msl 2 1 0 c],.row z1 1 (bx (u0 A c 0)),.row z1 1 (X)]⟩) (z3 (q8 (q7 hT ?_))) ?_
     ·refine x6 [10] [] hT z6 (by rfl) ?_
      refine⟨by decide,?_⟩
      refine⟨_,w7 w _ rfl rfl,?_⟩
      refine⟨⟨by omega,by omega⟩,?_⟩
      refine v7 hv ?_
      repeat first|refine⟨rfl,?_⟩|refine⟨⟨_,w7 w _ rfl rfl,rfl⟩,?_⟩|refine⟨⟨by decide,rfl⟩,?_⟩|refine⟨⟨⟨by omega,by omega⟩,rfl⟩,?_⟩
      refine⟨_,q9 [0,1,2] [1,2,7,13,8,14,26,27] rfl,_,?_,rfl⟩
      show List.set (bx (Z6 A c 1 k)) (0+j.toNat) [u8 (A 1 k)]=_
      rw[hjk,hset]
     ·rintro _ ⟨X,rfl,rfl⟩
      refine q7 hT ?_
      exact⟨n2 - 1,by omega,_,q9 [0,1,2] [1,2,7,13,8,14,26,27] rfl,k+1,IntKind.i64.wrap (j+1),by omega,by rw[y7 _ (by omega) (by omega)];omega,rfl⟩
    ·have h:=of_decide_eq_false (show decide (j<(c:Int))=false from h)
     rw[show k=c by omega,q0a]
     refine x9 ?_
     exact⟨q9 [0,1,2] [1,2,7,13,8,14] rfl,trivial⟩
   ·refine q7 hT ?_
    exact⟨0,by decide,_,q9 [0,1,2] [1,2,7,13,14] rfl,(.inr (.inr ⟨rfl,rfl⟩))⟩
  ·refine q8 (q7 hT ?_)
   refine q8 (z2 ?_)
   refine x9 ?_
   exact⟨q9 [0,1,2] [7] rfl,trivial⟩
 refine q8 (q7 hT ?_)
 refine y5 ?_
 exact z9 [0,1,2] ⟨rfl,rfl⟩ rfl
set_option maxHeartbeats 2000000 in
set_option maxRecDepth 20000 in
theorem z1i (fn:FuncId)(c:Nat)(hc:c≤4096)(A:Nat→Nat→UInt8)(hA:∀ i k:Nat,i<3→k<c→AF Tryz.prog fn (i64 i :: i64 k :: []) [] (v9 (.p (u8 (A i k))) [])) :
 AF Tryz.prog q1e [i64 3,i64 c,.clo (.func fn) []] [] (v9 (.msl 0 1 0 3) [.cells z0 [.msl 1 1 0 c,.msl 2 1 0 c,.msl 3 1 0 c],.row z1 1 (bx (u0 A c 0)),.row z1 1 (bx (u0 A c 1)),.row z1 1 (bx (u0 A c 2))]):=by
 refine v8 hT q1f rfl rfl q1g rfl ?_
 refine q8 (q7 hT ?_)
 refine z8 ⟨⟨43,[(1,i64 c),(2,.clo (.func fn) []),(7,.msl 0 1 0 3)]⟩,[.cells z0 [.p (.raw (.slice none 0 0)),.p (.raw (.slice none 0 0)),.p (.raw (.slice none 0 0))]]⟩ True (q7 hT ?_) (fun _=>?_)
 ·refine⟨⟨rfl,by decide,by decide,by decide⟩,?_⟩
  exact⟨Wk.trans (J2 0 [.raw (.slice none 0 0),.raw (.slice none 0 0),.raw (.slice none 0 0)] rfl rfl (by decide)) (q9 [0] [1,2,7] rfl),trivial⟩
 refine z8 ⟨⟨43,[(7,.msl 0 1 0 3)]⟩,[.cells z0 [.msl 1 1 0 c,.msl 2 1 0 c,.msl 3 1 0 c],.row z1 1 (bx (u0 A c 0)),.row z1 1 (bx (u0 A c 1)),.row z1 1 (bx (u0 A c 2))]⟩ True (q8 (q7 hT ?_)) (fun _=>?_)
 ·refine z3 ?_
  refine y8 (fun n s=>(n=3∧s=⟨⟨43,[(1,i64 c),(2,.clo (.func fn) []),(7,.msl 0 1 0 3),(13,i64 3),(14,i64 0)]⟩,[.cells z0 [.p (.raw (.slice none 0 0)),.p (.raw (.slice none 0 0)),.p (.raw (.slice none 0 0))]]⟩)∨(n=2∧s=⟨⟨43,[(1,i64 c),(2,.clo (.func fn) []),(7,.msl 0 1 0 3),(13,i64 3),(14,i64 1)]⟩,[.cells z0 [.msl 1 1 0 c,.p (.raw (.slice none 0 0)),.p (.raw (.slice none 0 0))],.row z1 1 (bx (u0 A c 0))]⟩)∨(n=1∧s=⟨⟨43,[(1,i64 c),(2,.clo (.func fn) []),(7,.msl 0 1 0 3),(13,i64 3),(14,i64 2)]⟩,[.cells z0 [.msl 1 1 0 c,.msl 2 1 0 c,.p (.raw (.slice none 0 0))],.row z1 1 (bx (u0 A c 0)),.row z1 1 (bx (u0 A c 1))]⟩)∨(n=0∧s=⟨⟨43,[(1,i64 c),(2,.clo (.func fn) []),(7,.msl 0 1 0 3),(13,i64 3),(14,i64 3)]⟩,[.cells z0 [.msl 1 1 0 c,.msl 2 1 0 c,.msl 3 1 0 c],.row z1 1 (bx (u0 A c 0)),.row z1 1 (bx (u0 A c 1)),.row z1 1 (bx (u0 A c 2))]⟩)) 3 ⟨⟨43,_⟩,_⟩ (q9 [0] [1,2,7,13,14] rfl) (.inl ⟨rfl,rfl⟩) ?_
  rintro n s (⟨rfl,rfl⟩|⟨rfl,rfl⟩|⟨rfl,rfl⟩|⟨rfl,rfl⟩)
  ·refine q8 (q7 hT ?_)
   refine q8 (z2 ?_)
   refine z5 ?_
   refine z8 ⟨⟨43,[(1,i64 c),(2,.clo (.func fn) []),(7,.msl 0 1 0 3),(13,i64 3),(8,i64 0),(14,i64 0)]⟩,[.cells z0 [.msl 1 1 0 c,.p (.raw (.slice none 0 0)),.p (.raw (.slice none 0 0))],.row z1 1 (bx (u0 A c 0))]⟩ True (z3 ?_) (fun _=>?_)
   ·refine q8 (q7 hT ?_)
    refine y6 (fun st=>∃ X,X=bx (Z6 A c 0 0)∧st=⟨⟨43,[(1,i64 c),(2,.clo (.func fn) []),(7,.msl 0 1 0 3),(13,i64 3),(8,i64 0),(14,i64 0)]⟩,[.cells z0 [.msl 1 1 0 c,.p (.raw (.slice none 0 0)),.p (.raw (.slice none 0 0))],.row z1 1 (X)]⟩) (q7 hT ?_) ?_
    ·refine⟨⟨rfl,by omega,by show (c:Int)*1≤_;omega,by omega⟩,?_⟩
     refine⟨by decide,?_⟩
     exact⟨_,q9 [0,1] [1,2,7,13,8,14] rfl,_,z3g A c 0,rfl⟩
    rintro _ ⟨X0,hX0,rfl⟩
    refine q8 (q7 hT ?_)
    refine⟨by decide,?_⟩
    refine z3 ?_
    refine y8 (fun n s=>∃ (k:Nat) (j:Int),n+k=c∧j=k∧s=⟨⟨43,[(1,i64 c),(2,.clo (.func fn) []),(7,.msl 0 1 0 3),(13,i64 3),(8,i64 0),(14,i64 0),(26,i64 c),(27,i64 j)]⟩,[.cells z0 [.msl 1 1 0 c,.p (.raw (.slice none 0 0)),.p (.raw (.slice none 0 0))],.row z1 1 (bx (Z6 A c 0 k))]⟩) c ⟨⟨43,_⟩,_⟩ (q9 [0,1] [1,2,7,13,8,14,26,27] rfl) ⟨0,0,by omega,rfl,by rw[hX0];rfl⟩ ?_
    rintro n2 s ⟨k,j,hnk,hj,rfl⟩
    refine q8 (q7 hT ?_)
    refine q8 (z2 (y4 (fun h=>?_) (fun h=>?_)))
    ·have h:=of_decide_eq_true (show decide (j<(c:Int))=true from h)
     refine z5 ?_
     have w:=hA 0 k (by decide) (by omega)
     rw[← hj]at w
     have w:AF Tryz.prog fn ([i64 0,i64 j]++[]) [] (v9 (.p (u8 (A 0 k))) []):=w
     have hset:=q0b A (c:=c) 0 (k:=k) (by omega)
     have hjk:0+j.toNat=k:=by omega
     have hlen:(bx (Z6 A c 0 k)).length=c:=by rw[w9,Y2 A 0 (by omega)]
     obtain⟨v,hv⟩:∃ v,(bx (Z6 A c 0 k))[0+j.toNat]?=some [u8 v]:=by rw[hjk];exact q6a (by rw[Y2 A 0 (by omega)];omega)
     refine y6 (fun st=>∃ X,X=bx (Z6 A c 0 (k+1))∧st=⟨⟨43,[(1,i64 c),(2,.clo (.func fn) []),(7,.msl 0 1 0 3),(13,i64 3),(8,i64 0),(14,i64 0),(26,i64 c),(27,i64 j)]⟩,[.cells z0 [.msl 1 1 0 c,.p (.raw (.slice none 0 0)),.p (.raw (.slice none 0 0))],.row z1 1 (X)]⟩) (z3 (q8 (q7 hT ?_))) ?_
     ·refine x6 [10] [] hT z6 (by rfl) ?_
      refine⟨by decide,?_⟩
      refine⟨_,w7 w _ rfl rfl,?_⟩
      refine⟨⟨by omega,by omega⟩,?_⟩
      refine v7 hv ?_
      repeat first|refine⟨rfl,?_⟩|refine⟨⟨_,w7 w _ rfl rfl,rfl⟩,?_⟩|refine⟨⟨by decide,rfl⟩,?_⟩|refine⟨⟨⟨by omega,by omega⟩,rfl⟩,?_⟩
      refine⟨_,q9 [0,1] [1,2,7,13,8,14,26,27] rfl,_,?_,rfl⟩
      show List.set (bx (Z6 A c 0 k)) (0+j.toNat) [u8 (A 0 k)]=_
      rw[hjk,hset]
     ·rintro _ ⟨X,rfl,rfl⟩
      refine q7 hT ?_
      exact⟨n2 - 1,by omega,_,q9 [0,1] [1,2,7,13,8,14,26,27] rfl,k+1,IntKind.i64.wrap (j+1),by omega,by rw[y7 _ (by omega) (by omega)];omega,rfl⟩
    ·have h:=of_decide_eq_false (show decide (j<(c:Int))=false from h)
     rw[show k=c by omega,q0a]
     refine x9 ?_
     exact⟨q9 [0,1] [1,2,7,13,8,14] rfl,trivial⟩
   ·refine q7 hT ?_
    exact⟨2,by decide,_,q9 [0,1] [1,2,7,13,14] rfl,(.inr (.inl ⟨rfl,rfl⟩))⟩
  ·refine q8 (q7 hT ?_)
   refine q8 (z2 ?_)
   refine z5 ?_
   refine z8 ⟨⟨43,[(1,i64 c),(2,.clo (.func fn) []),(7,.msl 0 1 0 3),(13,i64 3),(8,i64 1),(14,i64 1)]⟩,[.cells z0 [.msl 1 1 0 c,.msl 2 1 0 c,.p (.raw (.slice none 0 0))],.row z1 1 (bx (u0 A c 0)),.row z1 1 (bx (u0 A c 1))]⟩ True (z3 ?_) (fun _=>?_)
   ·refine q8 (q7 hT ?_)
    refine y6 (fun st=>∃ X,X=bx (Z6 A c 1 0)∧st=⟨⟨43,[(1,i64 c),(2,.clo (.func fn) []),(7,.msl 0 1 0 3),(13,i64 3),(8,i64 1),(14,i64 1)]⟩,[.cells z0 [.msl 1 1 0 c,.msl 2 1 0 c,.p (.raw (.slice none 0 0))],.row z1 1 (bx (u0 A c 0)),.row z1 1 (X)]⟩) (q7 hT ?_) ?_
    ·refine⟨⟨rfl,by omega,by show (c:Int)*1≤_;omega,by omega⟩,?_⟩
     refine⟨by decide,?_⟩
     exact⟨_,q9 [0,1,2] [1,2,7,13,8,14] rfl,_,z3g A c 1,rfl⟩
    rintro _ ⟨X0,hX0,rfl⟩
    refine q8 (q7 hT ?_)
    refine⟨by decide,?_⟩
    refine z3 ?_
    refine y8 (fun n s=>∃ (k:Nat) (j:Int),n+k=c∧j=k∧s=⟨⟨43,[(1,i64 c),(2,.clo (.func fn) []),(7,.msl 0 1 0 3),(13,i64 3),(8,i64 1),(14,i64 1),(26,i64 c),(27,i64 j)]⟩,[.cells z0 [.msl 1 1 0 c,.msl 2 1 0 c,.p (.raw (.slice none 0 0))],.row z1 1 (bx (u0 A c 0)),.row z1 1 (bx (Z6 A c 1 k))]⟩) c ⟨⟨43,_⟩,_⟩ (q9 [0,1,2] [1,2,7,13,8,14,26,27] rfl) ⟨0,0,by omega,rfl,by rw[hX0];rfl⟩ ?_
    rintro n2 s ⟨k,j,hnk,hj,rfl⟩
    refine q8 (q7 hT ?_)
    refine q8 (z2 (y4 (fun h=>?_) (fun h=>?_)))
    ·have h:=of_decide_eq_true (show decide (j<(c:Int))=true from h)
     refine z5 ?_
     have w:=hA 1 k (by decide) (by omega)
     rw[← hj]at w
     have w:AF Tryz.prog fn ([i64 1,i64 j]++[]) [] (v9 (.p (u8 (A 1 k))) []):=w
     have hset:=q0b A (c:=c) 1 (k:=k) (by omega)
     have hjk:0+j.toNat=k:=by omega
     have hlen:(bx (Z6 A c 1 k)).length=c:=by rw[w9,Y2 A 1 (by omega)]
     obtain⟨v,hv⟩:∃ v,(bx (Z6 A c 1 k))[0+j.toNat]?=some [u8 v]:=by rw[hjk];exact q6a (by rw[Y2 A 1 (by omega)];omega)
     refine y6 (fun st=>∃ X,X=bx (Z6 A c 1 (k+1))∧st=⟨⟨43,[(1,i64 c),(2,.clo (.func fn) []),(7,.msl 0 1 0 3),(13,i64 3),(8,i64 1),(14,i64 1),(26,i64 c),(27,i64 j)]⟩,[.cells z0 [.msl 1 1 0 c,.msl 2 1 0 c,.p (.raw (.slice none 0 0))],.row z1 1 (bx (u0 A c 0)),.row z1 1 (X)]⟩) (z3 (q8 (q7 hT ?_))) ?_
     ·refine x6 [10] [] hT z6 (by rfl) ?_
      refine⟨by decide,?_⟩
      refine⟨_,w7 w _ rfl rfl,?_⟩
      refine⟨⟨by omega,by omega⟩,?_⟩
      refine v7 hv ?_
      repeat first|refine⟨rfl,?_⟩|refine⟨⟨_,w7 w _ rfl rfl,rfl⟩,?_⟩|refine⟨⟨by decide,rfl⟩,?_⟩|refine⟨⟨⟨by omega,by omega⟩,rfl⟩,?_⟩
      refine⟨_,q9 [0,1,2] [1,2,7,13,8,14,26,27] rfl,_,?_,rfl⟩
      show List.set (bx (Z6 A c 1 k)) (0+j.toNat) [u8 (A 1 k)]=_
      rw[hjk,hset]
     ·rintro _ ⟨X,rfl,rfl⟩
      refine q7 hT ?_
      exact⟨n2 - 1,by omega,_,q9 [0,1,2] [1,2,7,13,8,14,26,27] rfl,k+1,IntKind.i64.wrap (j+1),by omega,by rw[y7 _ (by omega) (by omega)];omega,rfl⟩
    ·have h:=of_decide_eq_false (show decide (j<(c:Int))=false from h)
     rw[show k=c by omega,q0a]
     refine x9 ?_
     exact⟨q9 [0,1,2] [1,2,7,13,8,14] rfl,trivial⟩
   ·refine q7 hT ?_
    exact⟨1,by decide,_,q9 [0,1,2] [1,2,7,13,14] rfl,(.inr (.inr (.inl ⟨rfl,rfl⟩)))⟩
  ·refine q8 (q7 hT ?_)
   refine q8 (z2 ?_)
   refine z5 ?_
   refine z8 ⟨⟨43,[(1,i64 c),(2,.clo (.func fn) []),(7,.msl 0 1 0 3),(13,i64 3),(8,i64 2),(14,i64 2)]⟩,[.cells z0 [.msl 1 1 0 c,.msl 2 1 0 c,.msl 3 1 0 c],.row z1 1 (bx (u0 A c 0)),.row z1 1 (bx (u0 A c 1)),.row z1 1 (bx (u0 A c 2))]⟩ True (z3 ?_) (fun _=>?_)
   ·refine q8 (q7 hT ?_)
    refine y6 (fun st=>∃ X,X=bx (Z6 A c 2 0)∧st=⟨⟨43,[(1,i64 c),(2,.clo (.func fn) []),(7,.msl 0 1 0 3),(13,i64 3),(8,i64 2),(14,i64 2)]⟩,[.cells z0 [.msl 1 1 0 c,.msl 2 1 0 c,.msl 3 1 0 c],.row z1 1 (bx (u0 A c 0)),.row z1 1 (bx (u0 A c 1)),.row z1 1 (X)]⟩) (q7 hT ?_) ?_
    ·refine⟨⟨rfl,by omega,by show (c:Int)*1≤_;omega,by omega⟩,?_⟩
     refine⟨by decide,?_⟩
     exact⟨_,q9 [0,1,2,3] [1,2,7,13,8,14] rfl,_,z3g A c 2,rfl⟩
    rintro _ ⟨X0,hX0,rfl⟩
    refine q8 (q7 hT ?_)
    refine⟨by decide,?_⟩
    refine z3 ?_
    refine y8 (fun n s=>∃ (k:Nat) (j:Int),n+k=c∧j=k∧s=⟨⟨43,[(1,i64 c),(2,.clo (.func fn) []),(7,.msl 0 1 0 3),(13,i64 3),(8,i64 2),(14,i64 2),(26,i64 c),(27,i64 j)]⟩,[.cells z0 [.msl 1 1 0 c,.msl 2 1 0 c,.msl 3 1 0 c],.row z1 1 (bx (u0 A c 0)),.row z1 1 (bx (u0 A c 1)),.row z1 1 (bx (Z6 A c 2 k))]⟩) c ⟨⟨43,_⟩,_⟩ (q9 [0,1,2,3] [1,2,7,13,8,14,26,27] rfl) ⟨0,0,by omega,rfl,by rw[hX0];rfl⟩ ?_
    rintro n2 s ⟨k,j,hnk,hj,rfl⟩
    refine q8 (q7 hT ?_)
    refine q8 (z2 (y4 (fun h=>?_) (fun h=>?_)))
    ·have h:=of_decide_eq_true (show decide (j<(c:Int))=true from h)
     refine z5 ?_
     have w:=hA 2 k (by decide) (by omega)
     rw[← hj]at w
     have w:AF Tryz.prog fn ([i64 2,i64 j]++[]) [] (v9 (.p (u8 (A 2 k))) []):=w
     have hset:=q0b A (c:=c) 2 (k:=k) (by omega)
     have hjk:0+j.toNat=k:=by omega
     have hlen:(bx (Z6 A c 2 k)).length=c:=by rw[w9,Y2 A 2 (by omega)]
     obtain⟨v,hv⟩:∃ v,(bx (Z6 A c 2 k))[0+j.toNat]?=some [u8 v]:=by rw[hjk];exact q6a (by rw[Y2 A 2 (by omega)];omega)
     refine y6 (fun st=>∃ X,X=bx (Z6 A c 2 (k+1))∧st=⟨⟨43,[(1,i64 c),(2,.clo (.func fn) []),(7,.msl 0 1 0 3),(13,i64 3),(8,i64 2),(14,i64 2),(26,i64 c),(27,i64 j)]⟩,[.cells z0 [.msl 1 1 0 c,.msl 2 1 0 c,.msl 3 1 0 c],.row z1 1 (bx (u0 A c 0)),.row z1 1 (bx (u0 A c 1)),.row z1 1 (X)]⟩) (z3 (q8 (q7 hT ?_))) ?_
     ·refine x6 [10] [] hT z6 (by rfl) ?_
      refine⟨by decide,?_⟩
      refine⟨_,w7 w _ rfl rfl,?_⟩
      refine⟨⟨by omega,by omega⟩,?_⟩
      refine v7 hv ?_
      repeat first|refine⟨rfl,?_⟩|refine⟨⟨_,w7 w _ rfl rfl,rfl⟩,?_⟩|refine⟨⟨by decide,rfl⟩,?_⟩|refine⟨⟨⟨by omega,by omega⟩,rfl⟩,?_⟩
      refine⟨_,q9 [0,1,2,3] [1,2,7,13,8,14,26,27] rfl,_,?_,rfl⟩
      show List.set (bx (Z6 A c 2 k)) (0+j.toNat) [u8 (A 2 k)]=_
      rw[hjk,hset]
     ·rintro _ ⟨X,rfl,rfl⟩
      refine q7 hT ?_
      exact⟨n2 - 1,by omega,_,q9 [0,1,2,3] [1,2,7,13,8,14,26,27] rfl,k+1,IntKind.i64.wrap (j+1),by omega,by rw[y7 _ (by omega) (by omega)];omega,rfl⟩
    ·have h:=of_decide_eq_false (show decide (j<(c:Int))=false from h)
     rw[show k=c by omega,q0a]
     refine x9 ?_
     exact⟨q9 [0,1,2,3] [1,2,7,13,8,14] rfl,trivial⟩
   ·refine q7 hT ?_
    exact⟨0,by decide,_,q9 [0,1,2,3] [1,2,7,13,14] rfl,(.inr (.inr (.inr ⟨rfl,rfl⟩)))⟩
  ·refine q8 (q7 hT ?_)
   refine q8 (z2 ?_)
   refine x9 ?_
   exact⟨q9 [0,1,2,3] [7] rfl,trivial⟩
 refine q8 (q7 hT ?_)
 refine y5 ?_
 exact z9 [0,1,2,3] ⟨rfl,rfl⟩ rfl
set_option maxHeartbeats 2000000 in
set_option maxRecDepth 20000 in
theorem z1j (fn:FuncId)(c:Nat)(hc:c≤4096)(A:Nat→Nat→UInt8)(hA:∀ i k:Nat,i<4→k<c→AF Tryz.prog fn (i64 i :: i64 k :: []) [] (v9 (.p (u8 (A i k))) [])) :
 AF Tryz.prog q1e [i64 4,i64 c,.clo (.func fn) []] [] (v9 (.msl 0 1 0 4) [.cells z0 [.msl 1 1 0 c,.msl 2 1 0 c,.msl 3 1 0 c,.msl 4 1 0 c],.row z1 1 (bx (u0 A c 0)),.row z1 1 (bx (u0 A c 1)),.row z1 1 (bx (u0 A c 2)),.row z1 1 (bx (u0 A c 3))]):=by
 refine v8 hT q1f rfl rfl q1g rfl ?_
 refine q8 (q7 hT ?_)
 refine z8 ⟨⟨43,[(1,i64 c),(2,.clo (.func fn) []),(7,.msl 0 1 0 4)]⟩,[.cells z0 [.p (.raw (.slice none 0 0)),.p (.raw (.slice none 0 0)),.p (.raw (.slice none 0 0)),.p (.raw (.slice none 0 0))]]⟩ True (q7 hT ?_) (fun _=>?_)
 ·refine⟨⟨rfl,by decide,by decide,by decide⟩,?_⟩
  exact⟨Wk.trans (J2 0 [.raw (.slice none 0 0),.raw (.slice none 0 0),.raw (.slice none 0 0),.raw (.slice none 0 0)] rfl rfl (by decide)) (q9 [0] [1,2,7] rfl),trivial⟩
 refine z8 ⟨⟨43,[(7,.msl 0 1 0 4)]⟩,[.cells z0 [.msl 1 1 0 c,.msl 2 1 0 c,.msl 3 1 0 c,.msl 4 1 0 c],.row z1 1 (bx (u0 A c 0)),.row z1 1 (bx (u0 A c 1)),.row z1 1 (bx (u0 A c 2)),.row z1 1 (bx (u0 A c 3))]⟩ True (q8 (q7 hT ?_)) (fun _=>?_)
 ·refine z3 ?_
  refine y8 (fun n s=>(n=4∧s=⟨⟨43,[(1,i64 c),(2,.clo (.func fn) []),(7,.msl 0 1 0 4),(13,i64 4),(14,i64 0)]⟩,[.cells z0 [.p (.raw (.slice none 0 0)),.p (.raw (.slice none 0 0)),.p (.raw (.slice none 0 0)),.p (.raw (.slice none 0 0))]]⟩)∨(n=3∧s=⟨⟨43,[(1,i64 c),(2,.clo (.func fn) []),(7,.msl 0 1 0 4),(13,i64 4),(14,i64 1)]⟩,[.cells z0 [.msl 1 1 0 c,.p (.raw (.slice none 0 0)),.p (.raw (.slice none 0 0)),.p (.raw (.slice none 0 0))],.row z1 1 (bx (u0 A c 0))]⟩)∨(n=2∧s=⟨⟨43,[(1,i64 c),(2,.clo (.func fn) []),(7,.msl 0 1 0 4),(13,i64 4),(14,i64 2)]⟩,[.cells z0 [.msl 1 1 0 c,.msl 2 1 0 c,.p (.raw (.slice none 0 0)),.p (.raw (.slice none 0 0))],.row z1 1 (bx (u0 A c 0)),.row z1 1 (bx (u0 A c 1))]⟩)∨(n=1∧s=⟨⟨43,[(1,i64 c),(2,.clo (.func fn) []),(7,.msl 0 1 0 4),(13,i64 4),(14,i64 3)]⟩,[.cells z0 [.msl 1 1 0 c,.msl 2 1 0 c,.msl 3 1 0 c,.p (.raw (.slice none 0 0))],.row z1 1 (bx (u0 A c 0)),.row z1 1 (bx (u0 A c 1)),.row z1 1 (bx (u0 A c 2))]⟩)∨(n=0∧s=⟨⟨43,[(1,i64 c),(2,.clo (.func fn) []),(7,.msl 0 1 0 4),(13,i64 4),(14,i64 4)]⟩,[.cells z0 [.msl 1 1 0 c,.msl 2 1 0 c,.msl 3 1 0 c,.msl 4 1 0 c],.row z1 1 (bx (u0 A c 0)),.row z1 1 (bx (u0 A c 1)),.row z1 1 (bx (u0 A c 2)),.row z1 1 (bx (u0 A c 3))]⟩)) 4 ⟨⟨43,_⟩,_⟩ (q9 [0] [1,2,7,13,14] rfl) (.inl ⟨rfl,rfl⟩) ?_
  rintro n s (⟨rfl,rfl⟩|⟨rfl,rfl⟩|⟨rfl,rfl⟩|⟨rfl,rfl⟩|⟨rfl,rfl⟩)
  ·refine q8 (q7 hT ?_)
   refine q8 (z2 ?_)
   refine z5 ?_
   refine z8 ⟨⟨43,[(1,i64 c),(2,.clo (.func fn) []),(7,.msl 0 1 0 4),(13,i64 4),(8,i64 0),(14,i64 0)]⟩,[.cells z0 [.msl 1 1 0 c,.p (.raw (.slice none 0 0)),.p (.raw (.slice none 0 0)),.p (.raw (.slice none 0 0))],.row z1 1 (bx (u0 A c 0))]⟩ True (z3 ?_) (fun _=>?_)
   ·refine q8 (q7 hT ?_)
    refine y6 (fun st=>∃ X,X=bx (Z6 A c 0 0)∧st=⟨⟨43,[(1,i64 c),(2,.clo (.func fn) []),(7,.msl 0 1 0 4),(13,i64 4),(8,i64 0),(14,i64 0)]⟩,[.cells z0 [.msl 1 1 0 c,.p (.raw (.slice none 0 0)),.p (.raw (.slice none 0 0)),.p (.raw (.slice none 0 0))],.row z1 1 (X)]⟩) (q7 hT ?_) ?_
    ·refine⟨⟨rfl,by omega,by show (c:Int)*1≤_;omega,by omega⟩,?_⟩
     refine⟨by decide,?_⟩
     exact⟨_,q9 [0,1] [1,2,7,13,8,14] rfl,_,z3g A c 0,rfl⟩
    rintro _ ⟨X0,hX0,rfl⟩
    refine q8 (q7 hT ?_)
    refine⟨by decide,?_⟩
    refine z3 ?_
    refine y8 (fun n s=>∃ (k:Nat) (j:Int),n+k=c∧j=k∧s=⟨⟨43,[(1,i64 c),(2,.clo (.func fn) []),(7,.msl 0 1 0 4),(13,i64 4),(8,i64 0),(14,i64 0),(26,i64 c),(27,i64 j)]⟩,[.cells z0 [.msl 1 1 0 c,.p (.raw (.slice none 0 0)),.p (.raw (.slice none 0 0)),.p (.raw (.slice none 0 0))],.row z1 1 (bx (Z6 A c 0 k))]⟩) c ⟨⟨43,_⟩,_⟩ (q9 [0,1] [1,2,7,13,8,14,26,27] rfl) ⟨0,0,by omega,rfl,by rw[hX0];rfl⟩ ?_
    rintro n2 s ⟨k,j,hnk,hj,rfl⟩
    refine q8 (q7 hT ?_)
    refine q8 (z2 (y4 (fun h=>?_) (fun h=>?_)))
    ·have h:=of_decide_eq_true (show decide (j<(c:Int))=true from h)
     refine z5 ?_
     have w:=hA 0 k (by decide) (by omega)
     rw[← hj]at w
     have w:AF Tryz.prog fn ([i64 0,i64 j]++[]) [] (v9 (.p (u8 (A 0 k))) []):=w
     have hset:=q0b A (c:=c) 0 (k:=k) (by omega)
     have hjk:0+j.toNat=k:=by omega
     have hlen:(bx (Z6 A c 0 k)).length=c:=by rw[w9,Y2 A 0 (by omega)]
     obtain⟨v,hv⟩:∃ v,(bx (Z6 A c 0 k))[0+j.toNat]?=some [u8 v]:=by rw[hjk];exact q6a (by rw[Y2 A 0 (by omega)];omega)
     refine y6 (fun st=>∃ X,X=bx (Z6 A c 0 (k+1))∧st=⟨⟨43,[(1,i64 c),(2,.clo (.func fn) []),(7,.msl 0 1 0 4),(13,i64 4),(8,i64 0),(14,i64 0),(26,i64 c),(27,i64 j)]⟩,[.cells z0 [.msl 1 1 0 c,.p (.raw (.slice none 0 0)),.p (.raw (.slice none 0 0)),.p (.raw (.slice none 0 0))],.row z1 1 (X)]⟩) (z3 (q8 (q7 hT ?_))) ?_
     ·refine x6 [10] [] hT z6 (by rfl) ?_
      refine⟨by decide,?_⟩
      refine⟨_,w7 w _ rfl rfl,?_⟩
      refine⟨⟨by omega,by omega⟩,?_⟩
      refine v7 hv ?_
      repeat first|refine⟨rfl,?_⟩|refine⟨⟨_,w7 w _ rfl rfl,rfl⟩,?_⟩|refine⟨⟨by decide,rfl⟩,?_⟩|refine⟨⟨⟨by omega,by omega⟩,rfl⟩,?_⟩
      refine⟨_,q9 [0,1] [1,2,7,13,8,14,26,27] rfl,_,?_,rfl⟩
      show List.set (bx (Z6 A c 0 k)) (0+j.toNat) [u8 (A 0 k)]=_
      rw[hjk,hset]
     ·rintro _ ⟨X,rfl,rfl⟩
      refine q7 hT ?_
      exact⟨n2 - 1,by omega,_,q9 [0,1] [1,2,7,13,8,14,26,27] rfl,k+1,IntKind.i64.wrap (j+1),by omega,by rw[y7 _ (by omega) (by omega)];omega,rfl⟩
    ·have h:=of_decide_eq_false (show decide (j<(c:Int))=false from h)
     rw[show k=c by omega,q0a]
     refine x9 ?_
     exact⟨q9 [0,1] [1,2,7,13,8,14] rfl,trivial⟩
   ·refine q7 hT ?_
    exact⟨3,by decide,_,q9 [0,1] [1,2,7,13,14] rfl,(.inr (.inl ⟨rfl,rfl⟩))⟩
  ·refine q8 (q7 hT ?_)
   refine q8 (z2 ?_)
   refine z5 ?_
   refine z8 ⟨⟨43,[(1,i64 c),(2,.clo (.func fn) []),(7,.msl 0 1 0 4),(13,i64 4),(8,i64 1),(14,i64 1)]⟩,[.cells z0 [.msl 1 1 0 c,.msl 2 1 0 c,.p (.raw (.slice none 0 0)),.p (.raw (.slice none 0 0))],.row z1 1 (bx (u0 A c 0)),.row z1 1 (bx (u0 A c 1))]⟩ True (z3 ?_) (fun _=>?_)
   ·refine q8 (q7 hT ?_)
    refine y6 (fun st=>∃ X,X=bx (Z6 A c 1 0)∧st=⟨⟨43,[(1,i64 c),(2,.clo (.func fn) []),(7,.msl 0 1 0 4),(13,i64 4),(8,i64 1),(14,i64 1)]⟩,[.cells z0 [.msl 1 1 0 c,.msl 2 1 0 c,.p (.raw (.slice none 0 0)),.p (.raw (.slice none 0 0))],.row z1 1 (bx (u0 A c 0)),.row z1 1 (X)]⟩) (q7 hT ?_) ?_
    ·refine⟨⟨rfl,by omega,by show (c:Int)*1≤_;omega,by omega⟩,?_⟩
     refine⟨by decide,?_⟩
     exact⟨_,q9 [0,1,2] [1,2,7,13,8,14] rfl,_,z3g A c 1,rfl⟩
    rintro _ ⟨X0,hX0,rfl⟩
    refine q8 (q7 hT ?_)
    refine⟨by decide,?_⟩
    refine z3 ?_
    refine y8 (fun n s=>∃ (k:Nat) (j:Int),n+k=c∧j=k∧s=⟨⟨43,[(1,i64 c),(2,.clo (.func fn) []),(7,.msl 0 1 0 4),(13,i64 4),(8,i64 1),(14,i64 1),(26,i64 c),(27,i64 j)]⟩,[.cells z0 [.msl 1 1 0 c,.msl 2 1 0 c,.p (.raw (.slice none 0 0)),.p (.raw (.slice none 0 0))],.row z1 1 (bx (u0 A c 0)),.row z1 1 (bx (Z6 A c 1 k))]⟩) c ⟨⟨43,_⟩,_⟩ (q9 [0,1,2] [1,2,7,13,8,14,26,27] rfl) ⟨0,0,by omega,rfl,by rw[hX0];rfl⟩ ?_
    rintro n2 s ⟨k,j,hnk,hj,rfl⟩
    refine q8 (q7 hT ?_)
    refine q8 (z2 (y4 (fun h=>?_) (fun h=>?_)))
    ·have h:=of_decide_eq_true (show decide (j<(c:Int))=true from h)
     refine z5 ?_
     have w:=hA 1 k (by decide) (by omega)
     rw[← hj]at w
     have w:AF Tryz.prog fn ([i64 1,i64 j]++[]) [] (v9 (.p (u8 (A 1 k))) []):=w
     have hset:=q0b A (c:=c) 1 (k:=k) (by omega)
     have hjk:0+j.toNat=k:=by omega
     have hlen:(bx (Z6 A c 1 k)).length=c:=by rw[w9,Y2 A 1 (by omega)]
     obtain⟨v,hv⟩:∃ v,(bx (Z6 A c 1 k))[0+j.toNat]?=some [u8 v]:=by rw[hjk];exact q6a (by rw[Y2 A 1 (by omega)];omega)
     refine y6 (fun st=>∃ X,X=bx (Z6 A c 1 (k+1))∧st=⟨⟨43,[(1,i64 c),(2,.clo (.func fn) []),(7,.msl 0 1 0 4),(13,i64 4),(8,i64 1),(14,i64 1),(26,i64 c),(27,i64 j)]⟩,[.cells z0 [.msl 1 1 0 c,.msl 2 1 0 c,.p (.raw (.slice none 0 0)),.p (.raw (.slice none 0 0))],.row z1 1 (bx (u0 A c 0)),.row z1 1 (X)]⟩) (z3 (q8 (q7 hT ?_))) ?_
     ·refine x6 [10] [] hT z6 (by rfl) ?_
      refine⟨by decide,?_⟩
      refine⟨_,w7 w _ rfl rfl,?_⟩
      refine⟨⟨by omega,by omega⟩,?_⟩
      refine v7 hv ?_
      repeat first|refine⟨rfl,?_⟩|refine⟨⟨_,w7 w _ rfl rfl,rfl⟩,?_⟩|refine⟨⟨by decide,rfl⟩,?_⟩|refine⟨⟨⟨by omega,by omega⟩,rfl⟩,?_⟩
      refine⟨_,q9 [0,1,2] [1,2,7,13,8,14,26,27] rfl,_,?_,rfl⟩
      show List.set (bx (Z6 A c 1 k)) (0+j.toNat) [u8 (A 1 k)]=_
      rw[hjk,hset]
     ·rintro _ ⟨X,rfl,rfl⟩
      refine q7 hT ?_
      exact⟨n2 - 1,by omega,_,q9 [0,1,2] [1,2,7,13,8,14,26,27] rfl,k+1,IntKind.i64.wrap (j+1),by omega,by rw[y7 _ (by omega) (by omega)];omega,rfl⟩
    ·have h:=of_decide_eq_false (show decide (j<(c:Int))=false from h)
     rw[show k=c by omega,q0a]
     refine x9 ?_
     exact⟨q9 [0,1,2] [1,2,7,13,8,14] rfl,trivial⟩
   ·refine q7 hT ?_
    exact⟨2,by decide,_,q9 [0,1,2] [1,2,7,13,14] rfl,(.inr (.inr (.inl ⟨rfl,rfl⟩)))⟩
  ·refine q8 (q7 hT ?_)
   refine q8 (z2 ?_)
   refine z5 ?_
   refine z8 ⟨⟨43,[(1,i64 c),(2,.clo (.func fn) []),(7,.msl 0 1 0 4),(13,i64 4),(8,i64 2),(14,i64 2)]⟩,[.cells z0 [.msl 1 1 0 c,.msl 2 1 0 c,.msl 3 1 0 c,.p (.raw (.slice none 0 0))],.row z1 1 (bx (u0 A c 0)),.row z1 1 (bx (u0 A c 1)),.row z1 1 (bx (u0 A c 2))]⟩ True (z3 ?_) (fun _=>?_)
   ·refine q8 (q7 hT ?_)
    refine y6 (fun st=>∃ X,X=bx (Z6 A c 2 0)∧st=⟨⟨43,[(1,i64 c),(2,.clo (.func fn) []),(7,.msl 0 1 0 4),(13,i64 4),(8,i64 2),(14,i64 2)]⟩,[.cells z0 [.msl 1 1 0 c,.msl 2 1 0 c,.msl 3 1 0 c,.p (.raw (.slice none 0 0))],.row z1 1 (bx (u0 A c 0)),.row z1 1 (bx (u0 A c 1)),.row z1 1 (X)]⟩) (q7 hT ?_) ?_
    ·refine⟨⟨rfl,by omega,by show (c:Int)*1≤_;omega,by omega⟩,?_⟩
     refine⟨by decide,?_⟩
     exact⟨_,q9 [0,1,2,3] [1,2,7,13,8,14] rfl,_,z3g A c 2,rfl⟩
    rintro _ ⟨X0,hX0,rfl⟩
    refine q8 (q7 hT ?_)
    refine⟨by decide,?_⟩
    refine z3 ?_
    refine y8 (fun n s=>∃ (k:Nat) (j:Int),n+k=c∧j=k∧s=⟨⟨43,[(1,i64 c),(2,.clo (.func fn) []),(7,.msl 0 1 0 4),(13,i64 4),(8,i64 2),(14,i64 2),(26,i64 c),(27,i64 j)]⟩,[.cells z0 [.msl 1 1 0 c,.msl 2 1 0 c,.msl 3 1 0 c,.p (.raw (.slice none 0 0))],.row z1 1 (bx (u0 A c 0)),.row z1 1 (bx (u0 A c 1)),.row z1 1 (bx (Z6 A c 2 k))]⟩) c ⟨⟨43,_⟩,_⟩ (q9 [0,1,2,3] [1,2,7,13,8,14,26,27] rfl) ⟨0,0,by omega,rfl,by rw[hX0];rfl⟩ ?_
    rintro n2 s ⟨k,j,hnk,hj,rfl⟩
    refine q8 (q7 hT ?_)
    refine q8 (z2 (y4 (fun h=>?_) (fun h=>?_)))
    ·have h:=of_decide_eq_true (show decide (j<(c:Int))=true from h)
     refine z5 ?_
     have w:=hA 2 k (by decide) (by omega)
     rw[← hj]at w
     have w:AF Tryz.prog fn ([i64 2,i64 j]++[]) [] (v9 (.p (u8 (A 2 k))) []):=w
     have hset:=q0b A (c:=c) 2 (k:=k) (by omega)
     have hjk:0+j.toNat=k:=by omega
     have hlen:(bx (Z6 A c 2 k)).length=c:=by rw[w9,Y2 A 2 (by omega)]
     obtain⟨v,hv⟩:∃ v,(bx (Z6 A c 2 k))[0+j.toNat]?=some [u8 v]:=by rw[hjk];exact q6a (by rw[Y2 A 2 (by omega)];omega)
     refine y6 (fun st=>∃ X,X=bx (Z6 A c 2 (k+1))∧st=⟨⟨43,[(1,i64 c),(2,.clo (.func fn) []),(7,.msl 0 1 0 4),(13,i64 4),(8,i64 2),(14,i64 2),(26,i64 c),(27,i64 j)]⟩,[.cells z0 [.msl 1 1 0 c,.msl 2 1 0 c,.msl 3 1 0 c,.p (.raw (.slice none 0 0))],.row z1 1 (bx (u0 A c 0)),.row z1 1 (bx (u0 A c 1)),.row z1 1 (X)]⟩) (z3 (q8 (q7 hT ?_))) ?_
     ·refine x6 [10] [] hT z6 (by rfl) ?_
      refine⟨by decide,?_⟩
      refine⟨_,w7 w _ rfl rfl,?_⟩
      refine⟨⟨by omega,by omega⟩,?_⟩
      refine v7 hv ?_
      repeat first|refine⟨rfl,?_⟩|refine⟨⟨_,w7 w _ rfl rfl,rfl⟩,?_⟩|refine⟨⟨by decide,rfl⟩,?_⟩|refine⟨⟨⟨by omega,by omega⟩,rfl⟩,?_⟩
      refine⟨_,q9 [0,1,2,3] [1,2,7,13,8,14,26,27] rfl,_,?_,rfl⟩
      show List.set (bx (Z6 A c 2 k)) (0+j.toNat) [u8 (A 2 k)]=_
      rw[hjk,hset]
     ·rintro _ ⟨X,rfl,rfl⟩
      refine q7 hT ?_
      exact⟨n2 - 1,by omega,_,q9 [0,1,2,3] [1,2,7,13,8,14,26,27] rfl,k+1,IntKind.i64.wrap (j+1),by omega,by rw[y7 _ (by omega) (by omega)];omega,rfl⟩
    ·have h:=of_decide_eq_false (show decide (j<(c:Int))=false from h)
     rw[show k=c by omega,q0a]
     refine x9 ?_
     exact⟨q9 [0,1,2,3] [1,2,7,13,8,14] rfl,trivial⟩
   ·refine q7 hT ?_
    exact⟨1,by decide,_,q9 [0,1,2,3] [1,2,7,13,14] rfl,(.inr (.inr (.inr (.inl ⟨rfl,rfl⟩))))⟩
  ·refine q8 (q7 hT ?_)
   refine q8 (z2 ?_)
   refine z5 ?_
   refine z8 ⟨⟨43,[(1,i64 c),(2,.clo (.func fn) []),(7,.msl 0 1 0 4),(13,i64 4),(8,i64 3),(14,i64 3)]⟩,[.cells z0 [.msl 1 1 0 c,.msl 2 1 0 c,.msl 3 1 0 c,.msl 4 1 0 c],.row z1 1 (bx (u0 A c 0)),.row z1 1 (bx (u0 A c 1)),.row z1 1 (bx (u0 A c 2)),.row z1 1 (bx (u0 A c 3))]⟩ True (z3 ?_) (fun _=>?_)
   ·refine q8 (q7 hT ?_)
    refine y6 (fun st=>∃ X,X=bx (Z6 A c 3 0)∧st=⟨⟨43,[(1,i64 c),(2,.clo (.func fn) []),(7,.msl 0 1 0 4),(13,i64 4),(8,i64 3),(14,i64 3)]⟩,[.cells z0 [.msl 1 1 0 c,.msl 2 1 0 c,.msl 3 1 0 c,.msl 4 1 0 c],.row z1 1 (bx (u0 A c 0)),.row z1 1 (bx (u0 A c 1)),.row z1 1 (bx (u0 A c 2)),.row z1 1 (X)]⟩) (q7 hT ?_) ?_
    ·refine⟨⟨rfl,by omega,by show (c:Int)*1≤_;omega,by omega⟩,?_⟩
     refine⟨by decide,?_⟩
     exact⟨_,q9 [0,1,2,3,4] [1,2,7,13,8,14] rfl,_,z3g A c 3,rfl⟩
    rintro _ ⟨X0,hX0,rfl⟩
    refine q8 (q7 hT ?_)
    refine⟨by decide,?_⟩
    refine z3 ?_
    refine y8 (fun n s=>∃ (k:Nat) (j:Int),n+k=c∧j=k∧s=⟨⟨43,[(1,i64 c),(2,.clo (.func fn) []),(7,.msl 0 1 0 4),(13,i64 4),(8,i64 3),(14,i64 3),(26,i64 c),(27,i64 j)]⟩,[.cells z0 [.msl 1 1 0 c,.msl 2 1 0 c,.msl 3 1 0 c,.msl 4 1 0 c],.row z1 1 (bx (u0 A c 0)),.row z1 1 (bx (u0 A c 1)),.row z1 1 (bx (u0 A c 2)),.row z1 1 (bx (Z6 A c 3 k))]⟩) c ⟨⟨43,_⟩,_⟩ (q9 [0,1,2,3,4] [1,2,7,13,8,14,26,27] rfl) ⟨0,0,by omega,rfl,by rw[hX0];rfl⟩ ?_
    rintro n2 s ⟨k,j,hnk,hj,rfl⟩
    refine q8 (q7 hT ?_)
    refine q8 (z2 (y4 (fun h=>?_) (fun h=>?_)))
    ·have h:=of_decide_eq_true (show decide (j<(c:Int))=true from h)
     refine z5 ?_
     have w:=hA 3 k (by decide) (by omega)
     rw[← hj]at w
     have w:AF Tryz.prog fn ([i64 3,i64 j]++[]) [] (v9 (.p (u8 (A 3 k))) []):=w
     have hset:=q0b A (c:=c) 3 (k:=k) (by omega)
     have hjk:0+j.toNat=k:=by omega
     have hlen:(bx (Z6 A c 3 k)).length=c:=by rw[w9,Y2 A 3 (by omega)]
     obtain⟨v,hv⟩:∃ v,(bx (Z6 A c 3 k))[0+j.toNat]?=some [u8 v]:=by rw[hjk];exact q6a (by rw[Y2 A 3 (by omega)];omega)
     refine y6 (fun st=>∃ X,X=bx (Z6 A c 3 (k+1))∧st=⟨⟨43,[(1,i64 c),(2,.clo (.func fn) []),(7,.msl 0 1 0 4),(13,i64 4),(8,i64 3),(14,i64 3),(26,i64 c),(27,i64 j)]⟩,[.cells z0 [.msl 1 1 0 c,.msl 2 1 0 c,.msl 3 1 0 c,.msl 4 1 0 c],.row z1 1 (bx (u0 A c 0)),.row z1 1 (bx (u0 A c 1)),.row z1 1 (bx (u0 A c 2)),.row z1 1 (X)]⟩) (z3 (q8 (q7 hT ?_))) ?_
     ·refine x6 [10] [] hT z6 (by rfl) ?_
      refine⟨by decide,?_⟩
      refine⟨_,w7 w _ rfl rfl,?_⟩
      refine⟨⟨by omega,by omega⟩,?_⟩
      refine v7 hv ?_
      repeat first|refine⟨rfl,?_⟩|refine⟨⟨_,w7 w _ rfl rfl,rfl⟩,?_⟩|refine⟨⟨by decide,rfl⟩,?_⟩|refine⟨⟨⟨by omega,by omega⟩,rfl⟩,?_⟩
      refine⟨_,q9 [0,1,2,3,4] [1,2,7,13,8,14,26,27] rfl,_,?_,rfl⟩
      show List.set (bx (Z6 A c 3 k)) (0+j.toNat) [u8 (A 3 k)]=_
      rw[hjk,hset]
     ·rintro _ ⟨X,rfl,rfl⟩
      refine q7 hT ?_
      exact⟨n2 - 1,by omega,_,q9 [0,1,2,3,4] [1,2,7,13,8,14,26,27] rfl,k+1,IntKind.i64.wrap (j+1),by omega,by rw[y7 _ (by omega) (by omega)];omega,rfl⟩
    ·have h:=of_decide_eq_false (show decide (j<(c:Int))=false from h)
     rw[show k=c by omega,q0a]
     refine x9 ?_
     exact⟨q9 [0,1,2,3,4] [1,2,7,13,8,14] rfl,trivial⟩
   ·refine q7 hT ?_
    exact⟨0,by decide,_,q9 [0,1,2,3,4] [1,2,7,13,14] rfl,(.inr (.inr (.inr (.inr ⟨rfl,rfl⟩))))⟩
  ·refine q8 (q7 hT ?_)
   refine q8 (z2 ?_)
   refine x9 ?_
   exact⟨q9 [0,1,2,3,4] [7] rfl,trivial⟩
 refine q8 (q7 hT ?_)
 refine y5 ?_
 exact z9 [0,1,2,3,4] ⟨rfl,rfl⟩ rfl
set_option maxHeartbeats 2000000 in
set_option maxRecDepth 20000 in
theorem x4e (fn:FuncId)(x y:PV)(c:Nat)(hc:c≤4096)(A:Nat→Nat→UInt8)(hA:∀ i k:Nat,i<1→k<c→AF Tryz.prog fn (i64 i :: i64 k :: [.p x,.p y]) [] (v9 (.p (u8 (A i k))) [])) :
 AF Tryz.prog q1e [i64 1,i64 c,.clo (.func fn) [.p x,.p y]] [] (v9 (.msl 0 1 0 1) [.cells z0 [.msl 1 1 0 c],.row z1 1 (bx (u0 A c 0))]):=by
 refine v8 hT q1f rfl rfl q1g rfl ?_
 refine q8 (q7 hT ?_)
 refine z8 ⟨⟨43,[(1,i64 c),(2,.clo (.func fn) [.p x,.p y]),(7,.msl 0 1 0 1)]⟩,[.cells z0 [.p (.raw (.slice none 0 0))]]⟩ True (q7 hT ?_) (fun _=>?_)
 ·refine⟨⟨rfl,by decide,by decide,by decide⟩,?_⟩
  exact⟨Wk.trans (J2 0 [.raw (.slice none 0 0)] rfl rfl (by decide)) (q9 [0] [1,2,7] rfl),trivial⟩
 refine z8 ⟨⟨43,[(7,.msl 0 1 0 1)]⟩,[.cells z0 [.msl 1 1 0 c],.row z1 1 (bx (u0 A c 0))]⟩ True (q8 (q7 hT ?_)) (fun _=>?_)
 ·refine z3 ?_
  refine y8 (fun n s=>(n=1∧s=⟨⟨43,[(1,i64 c),(2,.clo (.func fn) [.p x,.p y]),(7,.msl 0 1 0 1),(13,i64 1),(14,i64 0)]⟩,[.cells z0 [.p (.raw (.slice none 0 0))]]⟩)∨(n=0∧s=⟨⟨43,[(1,i64 c),(2,.clo (.func fn) [.p x,.p y]),(7,.msl 0 1 0 1),(13,i64 1),(14,i64 1)]⟩,[.cells z0 [.msl 1 1 0 c],.row z1 1 (bx (u0 A c 0))]⟩)) 1 ⟨⟨43,_⟩,_⟩ (q9 [0] [1,2,7,13,14] rfl) (.inl ⟨rfl,rfl⟩) ?_
  rintro n s (⟨rfl,rfl⟩|⟨rfl,rfl⟩)
  ·refine q8 (q7 hT ?_)
   refine q8 (z2 ?_)
   refine z5 ?_
   refine z8 ⟨⟨43,[(1,i64 c),(2,.clo (.func fn) [.p x,.p y]),(7,.msl 0 1 0 1),(13,i64 1),(8,i64 0),(14,i64 0)]⟩,[.cells z0 [.msl 1 1 0 c],.row z1 1 (bx (u0 A c 0))]⟩ True (z3 ?_) (fun _=>?_)
   ·refine q8 (q7 hT ?_)
    refine y6 (fun st=>∃ X,X=bx (Z6 A c 0 0)∧st=⟨⟨43,[(1,i64 c),(2,.clo (.func fn) [.p x,.p y]),(7,.msl 0 1 0 1),(13,i64 1),(8,i64 0),(14,i64 0)]⟩,[.cells z0 [.msl 1 1 0 c],.row z1 1 (X)]⟩) (q7 hT ?_) ?_
    ·refine⟨⟨rfl,by omega,by show (c:Int)*1≤_;omega,by omega⟩,?_⟩
     refine⟨by decide,?_⟩
     exact⟨_,q9 [0,1] [1,2,7,13,8,14] rfl,_,z3g A c 0,rfl⟩
    rintro _ ⟨X0,hX0,rfl⟩
    refine q8 (q7 hT ?_)
    refine⟨by decide,?_⟩
    refine z3 ?_
    refine y8 (fun n s=>∃ (k:Nat) (j:Int),n+k=c∧j=k∧s=⟨⟨43,[(1,i64 c),(2,.clo (.func fn) [.p x,.p y]),(7,.msl 0 1 0 1),(13,i64 1),(8,i64 0),(14,i64 0),(26,i64 c),(27,i64 j)]⟩,[.cells z0 [.msl 1 1 0 c],.row z1 1 (bx (Z6 A c 0 k))]⟩) c ⟨⟨43,_⟩,_⟩ (q9 [0,1] [1,2,7,13,8,14,26,27] rfl) ⟨0,0,by omega,rfl,by rw[hX0];rfl⟩ ?_
    rintro n2 s ⟨k,j,hnk,hj,rfl⟩
    refine q8 (q7 hT ?_)
    refine q8 (z2 (y4 (fun h=>?_) (fun h=>?_)))
    ·have h:=of_decide_eq_true (show decide (j<(c:Int))=true from h)
     refine z5 ?_
     have w:=hA 0 k (by decide) (by omega)
     rw[← hj]at w
     have w:AF Tryz.prog fn ([i64 0,i64 j]++[.p x,.p y]) [] (v9 (.p (u8 (A 0 k))) []):=w
     have hset:=q0b A (c:=c) 0 (k:=k) (by omega)
     have hjk:0+j.toNat=k:=by omega
     have hlen:(bx (Z6 A c 0 k)).length=c:=by rw[w9,Y2 A 0 (by omega)]
     obtain⟨v,hv⟩:∃ v,(bx (Z6 A c 0 k))[0+j.toNat]?=some [u8 v]:=by rw[hjk];exact q6a (by rw[Y2 A 0 (by omega)];omega)
     refine y6 (fun st=>∃ X,X=bx (Z6 A c 0 (k+1))∧st=⟨⟨43,[(1,i64 c),(2,.clo (.func fn) [.p x,.p y]),(7,.msl 0 1 0 1),(13,i64 1),(8,i64 0),(14,i64 0),(26,i64 c),(27,i64 j)]⟩,[.cells z0 [.msl 1 1 0 c],.row z1 1 (X)]⟩) (z3 (q8 (q7 hT ?_))) ?_
     ·refine x6 [10] [] hT z6 (by rfl) ?_
      refine⟨by decide,?_⟩
      refine⟨_,w7 w _ rfl rfl,?_⟩
      refine⟨⟨by omega,by omega⟩,?_⟩
      refine v7 hv ?_
      repeat first|refine⟨rfl,?_⟩|refine⟨⟨_,w7 w _ rfl rfl,rfl⟩,?_⟩|refine⟨⟨by decide,rfl⟩,?_⟩|refine⟨⟨⟨by omega,by omega⟩,rfl⟩,?_⟩
      refine⟨_,q9 [0,1] [1,2,7,13,8,14,26,27] rfl,_,?_,rfl⟩
      show List.set (bx (Z6 A c 0 k)) (0+j.toNat) [u8 (A 0 k)]=_
      rw[hjk,hset]
     ·rintro _ ⟨X,rfl,rfl⟩
      refine q7 hT ?_
      exact⟨n2 - 1,by omega,_,q9 [0,1] [1,2,7,13,8,14,26,27] rfl,k+1,IntKind.i64.wrap (j+1),by omega,by rw[y7 _ (by omega) (by omega)];omega,rfl⟩
    ·have h:=of_decide_eq_false (show decide (j<(c:Int))=false from h)
     rw[show k=c by omega,q0a]
     refine x9 ?_
     exact⟨q9 [0,1] [1,2,7,13,8,14] rfl,trivial⟩
   ·refine q7 hT ?_
    exact⟨0,by decide,_,q9 [0,1] [1,2,7,13,14] rfl,(.inr ⟨rfl,rfl⟩)⟩
  ·refine q8 (q7 hT ?_)
   refine q8 (z2 ?_)
   refine x9 ?_
   exact⟨q9 [0,1] [7] rfl,trivial⟩
 refine q8 (q7 hT ?_)
 refine y5 ?_
 exact z9 [0,1] ⟨rfl,rfl⟩ rfl
set_option maxHeartbeats 2000000 in
set_option maxRecDepth 20000 in
theorem x4f (fn:FuncId)(x y:PV)(c:Nat)(hc:c≤4096)(A:Nat→Nat→UInt8)(hA:∀ i k:Nat,i<2→k<c→AF Tryz.prog fn (i64 i :: i64 k :: [.p x,.p y]) [] (v9 (.p (u8 (A i k))) [])) :
 AF Tryz.prog q1e [i64 2,i64 c,.clo (.func fn) [.p x,.p y]] [] (v9 (.msl 0 1 0 2) [.cells z0 [.msl 1 1 0 c,.msl 2 1 0 c],.row z1 1 (bx (u0 A c 0)),.row z1 1 (bx (u0 A c 1))]):=by
 refine v8 hT q1f rfl rfl q1g rfl ?_
 refine q8 (q7 hT ?_)
 refine z8 ⟨⟨43,[(1,i64 c),(2,.clo (.func fn) [.p x,.p y]),(7,.msl 0 1 0 2)]⟩,[.cells z0 [.p (.raw (.slice none 0 0)),.p (.raw (.slice none 0 0))]]⟩ True (q7 hT ?_) (fun _=>?_)
 ·refine⟨⟨rfl,by decide,by decide,by decide⟩,?_⟩
  exact⟨Wk.trans (J2 0 [.raw (.slice none 0 0),.raw (.slice none 0 0)] rfl rfl (by decide)) (q9 [0] [1,2,7] rfl),trivial⟩
 refine z8 ⟨⟨43,[(7,.msl 0 1 0 2)]⟩,[.cells z0 [.msl 1 1 0 c,.msl 2 1 0 c],.row z1 1 (bx (u0 A c 0)),.row z1 1 (bx (u0 A c 1))]⟩ True (q8 (q7 hT ?_)) (fun _=>?_)
 ·refine z3 ?_
  refine y8 (fun n s=>(n=2∧s=⟨⟨43,[(1,i64 c),(2,.clo (.func fn) [.p x,.p y]),(7,.msl 0 1 0 2),(13,i64 2),(14,i64 0)]⟩,[.cells z0 [.p (.raw (.slice none 0 0)),.p (.raw (.slice none 0 0))]]⟩)∨(n=1∧s=⟨⟨43,[(1,i64 c),(2,.clo (.func fn) [.p x,.p y]),(7,.msl 0 1 0 2),(13,i64 2),(14,i64 1)]⟩,[.cells z0 [.msl 1 1 0 c,.p (.raw (.slice none 0 0))],.row z1 1 (bx (u0 A c 0))]⟩)∨(n=0∧s=⟨⟨43,[(1,i64 c),(2,.clo (.func fn) [.p x,.p y]),(7,.msl 0 1 0 2),(13,i64 2),(14,i64 2)]⟩,[.cells z0 [.msl 1 1 0 c,.msl 2 1 0 c],.row z1 1 (bx (u0 A c 0)),.row z1 1 (bx (u0 A c 1))]⟩)) 2 ⟨⟨43,_⟩,_⟩ (q9 [0] [1,2,7,13,14] rfl) (.inl ⟨rfl,rfl⟩) ?_
  rintro n s (⟨rfl,rfl⟩|⟨rfl,rfl⟩|⟨rfl,rfl⟩)
  ·refine q8 (q7 hT ?_)
   refine q8 (z2 ?_)
   refine z5 ?_
   refine z8 ⟨⟨43,[(1,i64 c),(2,.clo (.func fn) [.p x,.p y]),(7,.msl 0 1 0 2),(13,i64 2),(8,i64 0),(14,i64 0)]⟩,[.cells z0 [.msl 1 1 0 c,.p (.raw (.slice none 0 0))],.row z1 1 (bx (u0 A c 0))]⟩ True (z3 ?_) (fun _=>?_)
   ·refine q8 (q7 hT ?_)
    refine y6 (fun st=>∃ X,X=bx (Z6 A c 0 0)∧st=⟨⟨43,[(1,i64 c),(2,.clo (.func fn) [.p x,.p y]),(7,.msl 0 1 0 2),(13,i64 2),(8,i64 0),(14,i64 0)]⟩,[.cells z0 [.msl 1 1 0 c,.p (.raw (.slice none 0 0))],.row z1 1 (X)]⟩) (q7 hT ?_) ?_
    ·refine⟨⟨rfl,by omega,by show (c:Int)*1≤_;omega,by omega⟩,?_⟩
     refine⟨by decide,?_⟩
     exact⟨_,q9 [0,1] [1,2,7,13,8,14] rfl,_,z3g A c 0,rfl⟩
    rintro _ ⟨X0,hX0,rfl⟩
    refine q8 (q7 hT ?_)
    refine⟨by decide,?_⟩
    refine z3 ?_
    refine y8 (fun n s=>∃ (k:Nat) (j:Int),n+k=c∧j=k∧s=⟨⟨43,[(1,i64 c),(2,.clo (.func fn) [.p x,.p y]),(7,.msl 0 1 0 2),(13,i64 2),(8,i64 0),(14,i64 0),(26,i64 c),(27,i64 j)]⟩,[.cells z0 [.msl 1 1 0 c,.p (.raw (.slice none 0 0))],.row z1 1 (bx (Z6 A c 0 k))]⟩) c ⟨⟨43,_⟩,_⟩ (q9 [0,1] [1,2,7,13,8,14,26,27] rfl) ⟨0,0,by omega,rfl,by rw[hX0];rfl⟩ ?_
    rintro n2 s ⟨k,j,hnk,hj,rfl⟩
    refine q8 (q7 hT ?_)
    refine q8 (z2 (y4 (fun h=>?_) (fun h=>?_)))
    ·have h:=of_decide_eq_true (show decide (j<(c:Int))=true from h)
     refine z5 ?_
     have w:=hA 0 k (by decide) (by omega)
     rw[← hj]at w
     have w:AF Tryz.prog fn ([i64 0,i64 j]++[.p x,.p y]) [] (v9 (.p (u8 (A 0 k))) []):=w
     have hset:=q0b A (c:=c) 0 (k:=k) (by omega)
     have hjk:0+j.toNat=k:=by omega
     have hlen:(bx (Z6 A c 0 k)).length=c:=by rw[w9,Y2 A 0 (by omega)]
     obtain⟨v,hv⟩:∃ v,(bx (Z6 A c 0 k))[0+j.toNat]?=some [u8 v]:=by rw[hjk];exact q6a (by rw[Y2 A 0 (by omega)];omega)
     refine y6 (fun st=>∃ X,X=bx (Z6 A c 0 (k+1))∧st=⟨⟨43,[(1,i64 c),(2,.clo (.func fn) [.p x,.p y]),(7,.msl 0 1 0 2),(13,i64 2),(8,i64 0),(14,i64 0),(26,i64 c),(27,i64 j)]⟩,[.cells z0 [.msl 1 1 0 c,.p (.raw (.slice none 0 0))],.row z1 1 (X)]⟩) (z3 (q8 (q7 hT ?_))) ?_
     ·refine x6 [10] [] hT z6 (by rfl) ?_
      refine⟨by decide,?_⟩
      refine⟨_,w7 w _ rfl rfl,?_⟩
      refine⟨⟨by omega,by omega⟩,?_⟩
      refine v7 hv ?_
      repeat first|refine⟨rfl,?_⟩|refine⟨⟨_,w7 w _ rfl rfl,rfl⟩,?_⟩|refine⟨⟨by decide,rfl⟩,?_⟩|refine⟨⟨⟨by omega,by omega⟩,rfl⟩,?_⟩
      refine⟨_,q9 [0,1] [1,2,7,13,8,14,26,27] rfl,_,?_,rfl⟩
      show List.set (bx (Z6 A c 0 k)) (0+j.toNat) [u8 (A 0 k)]=_
      rw[hjk,hset]
     ·rintro _ ⟨X,rfl,rfl⟩
      refine q7 hT ?_
      exact⟨n2 - 1,by omega,_,q9 [0,1] [1,2,7,13,8,14,26,27] rfl,k+1,IntKind.i64.wrap (j+1),by omega,by rw[y7 _ (by omega) (by omega)];omega,rfl⟩
    ·have h:=of_decide_eq_false (show decide (j<(c:Int))=false from h)
     rw[show k=c by omega,q0a]
     refine x9 ?_
     exact⟨q9 [0,1] [1,2,7,13,8,14] rfl,trivial⟩
   ·refine q7 hT ?_
    exact⟨1,by decide,_,q9 [0,1] [1,2,7,13,14] rfl,(.inr (.inl ⟨rfl,rfl⟩))⟩
  ·refine q8 (q7 hT ?_)
   refine q8 (z2 ?_)
   refine z5 ?_
   refine z8 ⟨⟨43,[(1,i64 c),(2,.clo (.func fn) [.p x,.p y]),(7,.msl 0 1 0 2),(13,i64 2),(8,i64 1),(14,i64 1)]⟩,[.cells z0 [.msl 1 1 0 c,.msl 2 1 0 c],.row z1 1 (bx (u0 A c 0)),.row z1 1 (bx (u0 A c 1))]⟩ True (z3 ?_) (fun _=>?_)
   ·refine q8 (q7 hT ?_)
    refine y6 (fun st=>∃ X,X=bx (Z6 A c 1 0)∧st=⟨⟨43,[(1,i64 c),(2,.clo (.func fn) [.p x,.p y]),(7,.msl 0 1 0 2),(13,i64 2),(8,i64 1),(14,i64 1)]⟩,[.cells z0 [.msl 1 1 0 c,.msl 2 1 0 c],.row z1 1 (bx (u0 A c 0)),.row z1 1 (X)]⟩) (q7 hT ?_) ?_
    ·refine⟨⟨rfl,by omega,by show (c:Int)*1≤_;omega,by omega⟩,?_⟩
     refine⟨by decide,?_⟩
     exact⟨_,q9 [0,1,2] [1,2,7,13,8,14] rfl,_,z3g A c 1,rfl⟩
    rintro _ ⟨X0,hX0,rfl⟩
    refine q8 (q7 hT ?_)
    refine⟨by decide,?_⟩
    refine z3 ?_
    refine y8 (fun n s=>∃ (k:Nat) (j:Int),n+k=c∧j=k∧s=⟨⟨43,[(1,i64 c),(2,.clo (.func fn) [.p x,.p y]),(7,.msl 0 1 0 2),(13,i64 2),(8,i64 1),(14,i64 1),(26,i64 c),(27,i64 j)]⟩,[.cells z0 [.msl 1 1 0 c,.msl 2 1 0 c],.row z1 1 (bx (u0 A c 0)),.row z1 1 (bx (Z6 A c 1 k))]⟩) c ⟨⟨43,_⟩,_⟩ (q9 [0,1,2] [1,2,7,13,8,14,26,27] rfl) ⟨0,0,by omega,rfl,by rw[hX0];rfl⟩ ?_
    rintro n2 s ⟨k,j,hnk,hj,rfl⟩
    refine q8 (q7 hT ?_)
    refine q8 (z2 (y4 (fun h=>?_) (fun h=>?_)))
    ·have h:=of_decide_eq_true (show decide (j<(c:Int))=true from h)
     refine z5 ?_
     have w:=hA 1 k (by decide) (by omega)
     rw[← hj]at w
     have w:AF Tryz.prog fn ([i64 1,i64 j]++[.p x,.p y]) [] (v9 (.p (u8 (A 1 k))) []):=w
     have hset:=q0b A (c:=c) 1 (k:=k) (by omega)
     have hjk:0+j.toNat=k:=by omega
     have hlen:(bx (Z6 A c 1 k)).length=c:=by rw[w9,Y2 A 1 (by omega)]
     obtain⟨v,hv⟩:∃ v,(bx (Z6 A c 1 k))[0+j.toNat]?=some [u8 v]:=by rw[hjk];exact q6a (by rw[Y2 A 1 (by omega)];omega)
     refine y6 (fun st=>∃ X,X=bx (Z6 A c 1 (k+1))∧st=⟨⟨43,[(1,i64 c),(2,.clo (.func fn) [.p x,.p y]),(7,.msl 0 1 0 2),(13,i64 2),(8,i64 1),(14,i64 1),(26,i64 c),(27,i64 j)]⟩,[.cells z0 [.msl 1 1 0 c,.msl 2 1 0 c],.row z1 1 (bx (u0 A c 0)),.row z1 1 (X)]⟩) (z3 (q8 (q7 hT ?_))) ?_
     ·refine x6 [10] [] hT z6 (by rfl) ?_
      refine⟨by decide,?_⟩
      refine⟨_,w7 w _ rfl rfl,?_⟩
      refine⟨⟨by omega,by omega⟩,?_⟩
      refine v7 hv ?_
      repeat first|refine⟨rfl,?_⟩|refine⟨⟨_,w7 w _ rfl rfl,rfl⟩,?_⟩|refine⟨⟨by decide,rfl⟩,?_⟩|refine⟨⟨⟨by omega,by omega⟩,rfl⟩,?_⟩
      refine⟨_,q9 [0,1,2] [1,2,7,13,8,14,26,27] rfl,_,?_,rfl⟩
      show List.set (bx (Z6 A c 1 k)) (0+j.toNat) [u8 (A 1 k)]=_
      rw[hjk,hset]
     ·rintro _ ⟨X,rfl,rfl⟩
      refine q7 hT ?_
      exact⟨n2 - 1,by omega,_,q9 [0,1,2] [1,2,7,13,8,14,26,27] rfl,k+1,IntKind.i64.wrap (j+1),by omega,by rw[y7 _ (by omega) (by omega)];omega,rfl⟩
    ·have h:=of_decide_eq_false (show decide (j<(c:Int))=false from h)
     rw[show k=c by omega,q0a]
     refine x9 ?_
     exact⟨q9 [0,1,2] [1,2,7,13,8,14] rfl,trivial⟩
   ·refine q7 hT ?_
    exact⟨0,by decide,_,q9 [0,1,2] [1,2,7,13,14] rfl,(.inr (.inr ⟨rfl,rfl⟩))⟩
  ·refine q8 (q7 hT ?_)
   refine q8 (z2 ?_)
   refine x9 ?_
   exact⟨q9 [0,1,2] [7] rfl,trivial⟩
 refine q8 (q7 hT ?_)
 refine y5 ?_
 exact z9 [0,1,2] ⟨rfl,rfl⟩ rfl
set_option maxHeartbeats 2000000 in
set_option maxRecDepth 20000 in
theorem x4g (fn:FuncId)(x y:PV)(c:Nat)(hc:c≤4096)(A:Nat→Nat→UInt8)(hA:∀ i k:Nat,i<3→k<c→AF Tryz.prog fn (i64 i :: i64 k :: [.p x,.p y]) [] (v9 (.p (u8 (A i k))) [])) :
 AF Tryz.prog q1e [i64 3,i64 c,.clo (.func fn) [.p x,.p y]] [] (v9 (.msl 0 1 0 3) [.cells z0 [.msl 1 1 0 c,.msl 2 1 0 c,.msl 3 1 0 c],.row z1 1 (bx (u0 A c 0)),.row z1 1 (bx (u0 A c 1)),.row z1 1 (bx (u0 A c 2))]):=by
 refine v8 hT q1f rfl rfl q1g rfl ?_
 refine q8 (q7 hT ?_)
 refine z8 ⟨⟨43,[(1,i64 c),(2,.clo (.func fn) [.p x,.p y]),(7,.msl 0 1 0 3)]⟩,[.cells z0 [.p (.raw (.slice none 0 0)),.p (.raw (.slice none 0 0)),.p (.raw (.slice none 0 0))]]⟩ True (q7 hT ?_) (fun _=>?_)
 ·refine⟨⟨rfl,by decide,by decide,by decide⟩,?_⟩
  exact⟨Wk.trans (J2 0 [.raw (.slice none 0 0),.raw (.slice none 0 0),.raw (.slice none 0 0)] rfl rfl (by decide)) (q9 [0] [1,2,7] rfl),trivial⟩
 refine z8 ⟨⟨43,[(7,.msl 0 1 0 3)]⟩,[.cells z0 [.msl 1 1 0 c,.msl 2 1 0 c,.msl 3 1 0 c],.row z1 1 (bx (u0 A c 0)),.row z1 1 (bx (u0 A c 1)),.row z1 1 (bx (u0 A c 2))]⟩ True (q8 (q7 hT ?_)) (fun _=>?_)
 ·refine z3 ?_
  refine y8 (fun n s=>(n=3∧s=⟨⟨43,[(1,i64 c),(2,.clo (.func fn) [.p x,.p y]),(7,.msl 0 1 0 3),(13,i64 3),(14,i64 0)]⟩,[.cells z0 [.p (.raw (.slice none 0 0)),.p (.raw (.slice none 0 0)),.p (.raw (.slice none 0 0))]]⟩)∨(n=2∧s=⟨⟨43,[(1,i64 c),(2,.clo (.func fn) [.p x,.p y]),(7,.msl 0 1 0 3),(13,i64 3),(14,i64 1)]⟩,[.cells z0 [.msl 1 1 0 c,.p (.raw (.slice none 0 0)),.p (.raw (.slice none 0 0))],.row z1 1 (bx (u0 A c 0))]⟩)∨(n=1∧s=⟨⟨43,[(1,i64 c),(2,.clo (.func fn) [.p x,.p y]),(7,.msl 0 1 0 3),(13,i64 3),(14,i64 2)]⟩,[.cells z0 [.msl 1 1 0 c,.msl 2 1 0 c,.p (.raw (.slice none 0 0))],.row z1 1 (bx (u0 A c 0)),.row z1 1 (bx (u0 A c 1))]⟩)∨(n=0∧s=⟨⟨43,[(1,i64 c),(2,.clo (.func fn) [.p x,.p y]),(7,.msl 0 1 0 3),(13,i64 3),(14,i64 3)]⟩,[.cells z0 [.msl 1 1 0 c,.msl 2 1 0 c,.msl 3 1 0 c],.row z1 1 (bx (u0 A c 0)),.row z1 1 (bx (u0 A c 1)),.row z1 1 (bx (u0 A c 2))]⟩)) 3 ⟨⟨43,_⟩,_⟩ (q9 [0] [1,2,7,13,14] rfl) (.inl ⟨rfl,rfl⟩) ?_
  rintro n s (⟨rfl,rfl⟩|⟨rfl,rfl⟩|⟨rfl,rfl⟩|⟨rfl,rfl⟩)
  ·refine q8 (q7 hT ?_)
   refine q8 (z2 ?_)
   refine z5 ?_
   refine z8 ⟨⟨43,[(1,i64 c),(2,.clo (.func fn) [.p x,.p y]),(7,.msl 0 1 0 3),(13,i64 3),(8,i64 0),(14,i64 0)]⟩,[.cells z0 [.msl 1 1 0 c,.p (.raw (.slice none 0 0)),.p (.raw (.slice none 0 0))],.row z1 1 (bx (u0 A c 0))]⟩ True (z3 ?_) (fun _=>?_)
   ·refine q8 (q7 hT ?_)
    refine y6 (fun st=>∃ X,X=bx (Z6 A c 0 0)∧st=⟨⟨43,[(1,i64 c),(2,.clo (.func fn) [.p x,.p y]),(7,.msl 0 1 0 3),(13,i64 3),(8,i64 0),(14,i64 0)]⟩,[.cells z0 [.msl 1 1 0 c,.p (.raw (.slice none 0 0)),.p (.raw (.slice none 0 0))],.row z1 1 (X)]⟩) (q7 hT ?_) ?_
    ·refine⟨⟨rfl,by omega,by show (c:Int)*1≤_;omega,by omega⟩,?_⟩
     refine⟨by decide,?_⟩
     exact⟨_,q9 [0,1] [1,2,7,13,8,14] rfl,_,z3g A c 0,rfl⟩
    rintro _ ⟨X0,hX0,rfl⟩
    refine q8 (q7 hT ?_)
    refine⟨by decide,?_⟩
    refine z3 ?_
    refine y8 (fun n s=>∃ (k:Nat) (j:Int),n+k=c∧j=k∧s=⟨⟨43,[(1,i64 c),(2,.clo (.func fn) [.p x,.p y]),(7,.msl 0 1 0 3),(13,i64 3),(8,i64 0),(14,i64 0),(26,i64 c),(27,i64 j)]⟩,[.cells z0 [.msl 1 1 0 c,.p (.raw (.slice none 0 0)),.p (.raw (.slice none 0 0))],.row z1 1 (bx (Z6 A c 0 k))]⟩) c ⟨⟨43,_⟩,_⟩ (q9 [0,1] [1,2,7,13,8,14,26,27] rfl) ⟨0,0,by omega,rfl,by rw[hX0];rfl⟩ ?_
    rintro n2 s ⟨k,j,hnk,hj,rfl⟩
    refine q8 (q7 hT ?_)
    refine q8 (z2 (y4 (fun h=>?_) (fun h=>?_)))
    ·have h:=of_decide_eq_true (show decide (j<(c:Int))=true from h)
     refine z5 ?_
     have w:=hA 0 k (by decide) (by omega)
     rw[← hj]at w
     have w:AF Tryz.prog fn ([i64 0,i64 j]++[.p x,.p y]) [] (v9 (.p (u8 (A 0 k))) []):=w
     have hset:=q0b A (c:=c) 0 (k:=k) (by omega)
     have hjk:0+j.toNat=k:=by omega
     have hlen:(bx (Z6 A c 0 k)).length=c:=by rw[w9,Y2 A 0 (by omega)]
     obtain⟨v,hv⟩:∃ v,(bx (Z6 A c 0 k))[0+j.toNat]?=some [u8 v]:=by rw[hjk];exact q6a (by rw[Y2 A 0 (by omega)];omega)
     refine y6 (fun st=>∃ X,X=bx (Z6 A c 0 (k+1))∧st=⟨⟨43,[(1,i64 c),(2,.clo (.func fn) [.p x,.p y]),(7,.msl 0 1 0 3),(13,i64 3),(8,i64 0),(14,i64 0),(26,i64 c),(27,i64 j)]⟩,[.cells z0 [.msl 1 1 0 c,.p (.raw (.slice none 0 0)),.p (.raw (.slice none 0 0))],.row z1 1 (X)]⟩) (z3 (q8 (q7 hT ?_))) ?_
     ·refine x6 [10] [] hT z6 (by rfl) ?_
      refine⟨by decide,?_⟩
      refine⟨_,w7 w _ rfl rfl,?_⟩
      refine⟨⟨by omega,by omega⟩,?_⟩
      refine v7 hv ?_
      repeat first|refine⟨rfl,?_⟩|refine⟨⟨_,w7 w _ rfl rfl,rfl⟩,?_⟩|refine⟨⟨by decide,rfl⟩,?_⟩|refine⟨⟨⟨by omega,by omega⟩,rfl⟩,?_⟩
      refine⟨_,q9 [0,1] [1,2,7,13,8,14,26,27] rfl,_,?_,rfl⟩
      show List.set (bx (Z6 A c 0 k)) (0+j.toNat) [u8 (A 0 k)]=_
      rw[hjk,hset]
     ·rintro _ ⟨X,rfl,rfl⟩
      refine q7 hT ?_
      exact⟨n2 - 1,by omega,_,q9 [0,1] [1,2,7,13,8,14,26,27] rfl,k+1,IntKind.i64.wrap (j+1),by omega,by rw[y7 _ (by omega) (by omega)];omega,rfl⟩
    ·have h:=of_decide_eq_false (show decide (j<(c:Int))=false from h)
     rw[show k=c by omega,q0a]
     refine x9 ?_
     exact⟨q9 [0,1] [1,2,7,13,8,14] rfl,trivial⟩
   ·refine q7 hT ?_
    exact⟨2,by decide,_,q9 [0,1] [1,2,7,13,14] rfl,(.inr (.inl ⟨rfl,rfl⟩))⟩
  ·refine q8 (q7 hT ?_)
   refine q8 (z2 ?_)
   refine z5 ?_
   refine z8 ⟨⟨43,[(1,i64 c),(2,.clo (.func fn) [.p x,.p y]),(7,.msl 0 1 0 3),(13,i64 3),(8,i64 1),(14,i64 1)]⟩,[.cells z0 [.msl 1 1 0 c,.msl 2 1 0 c,.p (.raw (.slice none 0 0))],.row z1 1 (bx (u0 A c 0)),.row z1 1 (bx (u0 A c 1))]⟩ True (z3 ?_) (fun _=>?_)
   ·refine q8 (q7 hT ?_)
    refine y6 (fun st=>∃ X,X=bx (Z6 A c 1 0)∧st=⟨⟨43,[(1,i64 c),(2,.clo (.func fn) [.p x,.p y]),(7,.msl 0 1 0 3),(13,i64 3),(8,i64 1),(14,i64 1)]⟩,[.cells z0 [.msl 1 1 0 c,.msl 2 1 0 c,.p (.raw (.slice none 0 0))],.row z1 1 (bx (u0 A c 0)),.row z1 1 (X)]⟩) (q7 hT ?_) ?_
    ·refine⟨⟨rfl,by omega,by show (c:Int)*1≤_;omega,by omega⟩,?_⟩
     refine⟨by decide,?_⟩
     exact⟨_,q9 [0,1,2] [1,2,7,13,8,14] rfl,_,z3g A c 1,rfl⟩
    rintro _ ⟨X0,hX0,rfl⟩
    refine q8 (q7 hT ?_)
    refine⟨by decide,?_⟩
    refine z3 ?_
    refine y8 (fun n s=>∃ (k:Nat) (j:Int),n+k=c∧j=k∧s=⟨⟨43,[(1,i64 c),(2,.clo (.func fn) [.p x,.p y]),(7,.msl 0 1 0 3),(13,i64 3),(8,i64 1),(14,i64 1),(26,i64 c),(27,i64 j)]⟩,[.cells z0 [.msl 1 1 0 c,.msl 2 1 0 c,.p (.raw (.slice none 0 0))],.row z1 1 (bx (u0 A c 0)),.row z1 1 (bx (Z6 A c 1 k))]⟩) c ⟨⟨43,_⟩,_⟩ (q9 [0,1,2] [1,2,7,13,8,14,26,27] rfl) ⟨0,0,by omega,rfl,by rw[hX0];rfl⟩ ?_
    rintro n2 s ⟨k,j,hnk,hj,rfl⟩
    refine q8 (q7 hT ?_)
    refine q8 (z2 (y4 (fun h=>?_) (fun h=>?_)))
    ·have h:=of_decide_eq_true (show decide (j<(c:Int))=true from h)
     refine z5 ?_
     have w:=hA 1 k (by decide) (by omega)
     rw[← hj]at w
     have w:AF Tryz.prog fn ([i64 1,i64 j]++[.p x,.p y]) [] (v9 (.p (u8 (A 1 k))) []):=w
     have hset:=q0b A (c:=c) 1 (k:=k) (by omega)
     have hjk:0+j.toNat=k:=by omega
     have hlen:(bx (Z6 A c 1 k)).length=c:=by rw[w9,Y2 A 1 (by omega)]
     obtain⟨v,hv⟩:∃ v,(bx (Z6 A c 1 k))[0+j.toNat]?=some [u8 v]:=by rw[hjk];exact q6a (by rw[Y2 A 1 (by omega)];omega)
     refine y6 (fun st=>∃ X,X=bx (Z6 A c 1 (k+1))∧st=⟨⟨43,[(1,i64 c),(2,.clo (.func fn) [.p x,.p y]),(7,.msl 0 1 0 3),(13,i64 3),(8,i64 1),(14,i64 1),(26,i64 c),(27,i64 j)]⟩,[.cells z0 [.msl 1 1 0 c,.msl 2 1 0 c,.p (.raw (.slice none 0 0))],.row z1 1 (bx (u0 A c 0)),.row z1 1 (X)]⟩) (z3 (q8 (q7 hT ?_))) ?_
     ·refine x6 [10] [] hT z6 (by rfl) ?_
      refine⟨by decide,?_⟩
      refine⟨_,w7 w _ rfl rfl,?_⟩
      refine⟨⟨by omega,by omega⟩,?_⟩
      refine v7 hv ?_
      repeat first|refine⟨rfl,?_⟩|refine⟨⟨_,w7 w _ rfl rfl,rfl⟩,?_⟩|refine⟨⟨by decide,rfl⟩,?_⟩|refine⟨⟨⟨by omega,by omega⟩,rfl⟩,?_⟩
      refine⟨_,q9 [0,1,2] [1,2,7,13,8,14,26,27] rfl,_,?_,rfl⟩
      show List.set (bx (Z6 A c 1 k)) (0+j.toNat) [u8 (A 1 k)]=_
      rw[hjk,hset]
     ·rintro _ ⟨X,rfl,rfl⟩
      refine q7 hT ?_
      exact⟨n2 - 1,by omega,_,q9 [0,1,2] [1,2,7,13,8,14,26,27] rfl,k+1,IntKind.i64.wrap (j+1),by omega,by rw[y7 _ (by omega) (by omega)];omega,rfl⟩
    ·have h:=of_decide_eq_false (show decide (j<(c:Int))=false from h)
     rw[show k=c by omega,q0a]
     refine x9 ?_
     exact⟨q9 [0,1,2] [1,2,7,13,8,14] rfl,trivial⟩
   ·refine q7 hT ?_
    exact⟨1,by decide,_,q9 [0,1,2] [1,2,7,13,14] rfl,(.inr (.inr (.inl ⟨rfl,rfl⟩)))⟩
  ·refine q8 (q7 hT ?_)
   refine q8 (z2 ?_)
   refine z5 ?_
   refine z8 ⟨⟨43,[(1,i64 c),(2,.clo (.func fn) [.p x,.p y]),(7,.msl 0 1 0 3),(13,i64 3),(8,i64 2),(14,i64 2)]⟩,[.cells z0 [.msl 1 1 0 c,.msl 2 1 0 c,.msl 3 1 0 c],.row z1 1 (bx (u0 A c 0)),.row z1 1 (bx (u0 A c 1)),.row z1 1 (bx (u0 A c 2))]⟩ True (z3 ?_) (fun _=>?_)
   ·refine q8 (q7 hT ?_)
    refine y6 (fun st=>∃ X,X=bx (Z6 A c 2 0)∧st=⟨⟨43,[(1,i64 c),(2,.clo (.func fn) [.p x,.p y]),(7,.msl 0 1 0 3),(13,i64 3),(8,i64 2),(14,i64 2)]⟩,[.cells z0 [.msl 1 1 0 c,.msl 2 1 0 c,.msl 3 1 0 c],.row z1 1 (bx (u0 A c 0)),.row z1 1 (bx (u0 A c 1)),.row z1 1 (X)]⟩) (q7 hT ?_) ?_
    ·refine⟨⟨rfl,by omega,by show (c:Int)*1≤_;omega,by omega⟩,?_⟩
     refine⟨by decide,?_⟩
     exact⟨_,q9 [0,1,2,3] [1,2,7,13,8,14] rfl,_,z3g A c 2,rfl⟩
    rintro _ ⟨X0,hX0,rfl⟩
    refine q8 (q7 hT ?_)
    refine⟨by decide,?_⟩
    refine z3 ?_
    refine y8 (fun n s=>∃ (k:Nat) (j:Int),n+k=c∧j=k∧s=⟨⟨43,[(1,i64 c),(2,.clo (.func fn) [.p x,.p y]),(7,.msl 0 1 0 3),(13,i64 3),(8,i64 2),(14,i64 2),(26,i64 c),(27,i64 j)]⟩,[.cells z0 [.msl 1 1 0 c,.msl 2 1 0 c,.msl 3 1 0 c],.row z1 1 (bx (u0 A c 0)),.row z1 1 (bx (u0 A c 1)),.row z1 1 (bx (Z6 A c 2 k))]⟩) c ⟨⟨43,_⟩,_⟩ (q9 [0,1,2,3] [1,2,7,13,8,14,26,27] rfl) ⟨0,0,by omega,rfl,by rw[hX0];rfl⟩ ?_
    rintro n2 s ⟨k,j,hnk,hj,rfl⟩
    refine q8 (q7 hT ?_)
    refine q8 (z2 (y4 (fun h=>?_) (fun h=>?_)))
    ·have h:=of_decide_eq_true (show decide (j<(c:Int))=true from h)
     refine z5 ?_
     have w:=hA 2 k (by decide) (by omega)
     rw[← hj]at w
     have w:AF Tryz.prog fn ([i64 2,i64 j]++[.p x,.p y]) [] (v9 (.p (u8 (A 2 k))) []):=w
     have hset:=q0b A (c:=c) 2 (k:=k) (by omega)
     have hjk:0+j.toNat=k:=by omega
     have hlen:(bx (Z6 A c 2 k)).length=c:=by rw[w9,Y2 A 2 (by omega)]
     obtain⟨v,hv⟩:∃ v,(bx (Z6 A c 2 k))[0+j.toNat]?=some [u8 v]:=by rw[hjk];exact q6a (by rw[Y2 A 2 (by omega)];omega)
     refine y6 (fun st=>∃ X,X=bx (Z6 A c 2 (k+1))∧st=⟨⟨43,[(1,i64 c),(2,.clo (.func fn) [.p x,.p y]),(7,.msl 0 1 0 3),(13,i64 3),(8,i64 2),(14,i64 2),(26,i64 c),(27,i64 j)]⟩,[.cells z0 [.msl 1 1 0 c,.msl 2 1 0 c,.msl 3 1 0 c],.row z1 1 (bx (u0 A c 0)),.row z1 1 (bx (u0 A c 1)),.row z1 1 (X)]⟩) (z3 (q8 (q7 hT ?_))) ?_
     ·refine x6 [10] [] hT z6 (by rfl) ?_
      refine⟨by decide,?_⟩
      refine⟨_,w7 w _ rfl rfl,?_⟩
      refine⟨⟨by omega,by omega⟩,?_⟩
      refine v7 hv ?_
      repeat first|refine⟨rfl,?_⟩|refine⟨⟨_,w7 w _ rfl rfl,rfl⟩,?_⟩|refine⟨⟨by decide,rfl⟩,?_⟩|refine⟨⟨⟨by omega,by omega⟩,rfl⟩,?_⟩
      refine⟨_,q9 [0,1,2,3] [1,2,7,13,8,14,26,27] rfl,_,?_,rfl⟩
      show List.set (bx (Z6 A c 2 k)) (0+j.toNat) [u8 (A 2 k)]=_
      rw[hjk,hset]
     ·rintro _ ⟨X,rfl,rfl⟩
      refine q7 hT ?_
      exact⟨n2 - 1,by omega,_,q9 [0,1,2,3] [1,2,7,13,8,14,26,27] rfl,k+1,IntKind.i64.wrap (j+1),by omega,by rw[y7 _ (by omega) (by omega)];omega,rfl⟩
    ·have h:=of_decide_eq_false (show decide (j<(c:Int))=false from h)
     rw[show k=c by omega,q0a]
     refine x9 ?_
     exact⟨q9 [0,1,2,3] [1,2,7,13,8,14] rfl,trivial⟩
   ·refine q7 hT ?_
    exact⟨0,by decide,_,q9 [0,1,2,3] [1,2,7,13,14] rfl,(.inr (.inr (.inr ⟨rfl,rfl⟩)))⟩
  ·refine q8 (q7 hT ?_)
   refine q8 (z2 ?_)
   refine x9 ?_
   exact⟨q9 [0,1,2,3] [7] rfl,trivial⟩
 refine q8 (q7 hT ?_)
 refine y5 ?_
 exact z9 [0,1,2,3] ⟨rfl,rfl⟩ rfl
end Go.Proofs.YtinfbclgkghgaaaGreat.AL
namespace Go.Proofs.YtinfbclgkghgaaaGreat.AL
open Go Go.Proofs
def q3m (a t:z7)(k:Nat):z7:=a.take k++t.drop k
theorem v5i {a t:z7}(h:a.length=t.length){k:Nat}(hk:k≤t.length):(q3m a t k).length=t.length:=by
 unfold q3m;rw[List.length_append,List.length_take,List.length_drop];omega
theorem z6t {a t:z7}(h:a.length=t.length):q3m a t t.length=a:=by unfold q3m;rw[← h,List.take_length,h,List.drop_length,List.append_nil]
theorem z6u {a t:z7}(h:a.length=t.length){k:Nat}(hk:k<t.length):(q3m a t k)[k]?=some t[k]:=by
 unfold q3m
 rw[List.getElem?_append_right (by rw[List.length_take];omega),List.length_take,List.getElem?_drop,show k+(k - min k a.length)=k by omega,List.getElem?_eq_getElem hk]
theorem z6v {a t:z7}(h:a.length=t.length){k:Nat}(hk:k<t.length){v:UInt8}(hv:a[k]?=some v):(bx (q3m a t k)).set k [u8 v]=bx (q3m a t (k+1)):=by
 have e:q3m a t (k+1)=(q3m a t k).set k v:=by
  unfold q3m
  rw[List.set_append_right _ _ (by rw[List.length_take];omega),List.length_take,show k - min k a.length=0 by omega,List.take_add_one,hv,List.append_assoc,List.drop_eq_getElem_cons hk]
  rfl
 rw[e]
 unfold bx
 rw[List.map_set]
theorem u9 {l:z7}{k:Nat}{v:UInt8}(h:l[k]?=some v):(bx l)[k]?=some [u8 v]:=by rw[bx,List.getElem?_map,h];rfl
def V0 (x:UInt8)(t:z7):z7:=t.map fun v=>Gf.mul v x
def Y3 (to row:z7)(x:UInt8):z7:=List.zipWith (fun a b=>a ^^^ Gf.mul x b) to row
theorem q6y {to row:z7}(x:UInt8)(h:to.length=row.length):(Y3 to row x).length=to.length:=by unfold Y3;rw[List.length_zipWith];omega
set_option maxHeartbeats 1000000 in
set_option maxRecDepth 20000 in
theorem z2u (t:z7)(x:UInt8)(ht:t.length≤4096):AFm Tryz.prog 1 x8f [q2j,.msl 0 1 0 t.length,.p (u8 x)] [.row z1 1 (bx t)] (v9 (.tup []) [.row z1 1 (bx (V0 x t))]):=by
 have hl:(V0 x t).length=t.length:=List.length_map _
 have wmul:=fun v=>w4b v x
 unfold q2j at wmul ⊢
 generalize fP=F at wmul ⊢
 obtain⟨n,hn⟩:∃ n,n=t.length:=⟨_,rfl⟩
 rw[← hn]
 refine Q5 1 hT x8g rfl rfl x8h rfl rfl ?_
 refine q8 (q7 hT ?_)
 refine z3 ?_
 refine y8 (fun m s=>∃ (k:Nat) (j:Int),m+k=n∧j=k∧s=⟨⟨23,[(0,.p (.box F)),(1,.msl 0 1 0 n),(2,.p (u8 x)),(8,.msl 0 1 0 n),(9,i64 n),(10,i64 j)]⟩,[.row z1 1 (bx (q3m (V0 x t) t k))]⟩) n ⟨⟨23,_⟩,_⟩ (q9 [0] [0,1,2,8,9,10] rfl) ⟨0,0,by omega,rfl,rfl⟩ ?_
 rintro m s ⟨k,j,hmk,hj,rfl⟩
 refine q8 (q7 hT ?_)
 refine q8 (z2 (y4 (fun h=>?_) (fun h=>?_)))
 ·have h:=of_decide_eq_true (show decide (j<(n:Int))=true from h)
  have hk:k<t.length:=by omega
  refine z5 ?_
  have hg:=z6u hl hk
  have hv:(V0 x t)[k]?=some (Gf.mul t[k] x):=by unfold V0;rw[List.getElem?_map,List.getElem?_eq_getElem hk];rfl
  have hset:=z6v hl hk hv
  have w:=wmul t[k]
  generalize t[k]=v at hg hset w hv
  generalize Gf.mul v x=u at hset w hv
  have hjk:0+j.toNat=k:=by omega
  have hgx:(bx (q3m (V0 x t) t k))[0+j.toNat]?=some [u8 v]:=by rw[hjk];exact u9 hg
  refine y6 (fun st=>∃ X,X=bx (q3m (V0 x t) t (k+1))∧st=⟨⟨23,[(0,.p (.box F)),(1,.msl 0 1 0 n),(2,.p (u8 x)),(8,.msl 0 1 0 n),(9,i64 n),(10,i64 j)]⟩,[.row z1 1 X]⟩) (z3 ?_) ?_
  ·refine q8 (q7 hT ?_)
   refine⟨⟨by omega,by omega⟩,?_⟩
   refine v7 hgx ?_
   refine q7 hT ?_
   refine y9 (w7 w _ rfl rfl) ?_
   refine⟨⟨by omega,by omega⟩,?_⟩
   refine v7 hgx ?_
   refine⟨_,q9 [0] [0,1,2,8,9,10] rfl,_,?_,rfl⟩
   show List.set (bx (q3m (V0 x t) t k)) (0+j.toNat) [u8 u]=_
   rw[hjk,hset]
  ·rintro _ ⟨X,rfl,rfl⟩
   refine q7 hT ?_
   exact⟨m - 1,by omega,_,q9 [0] [0,1,2,8,9,10] rfl,k+1,IntKind.i64.wrap (j+1),by omega,by rw[y7 _ (by omega) (by omega)];omega,rfl⟩
 ·have h:=of_decide_eq_false (show decide (j<(n:Int))=false from h)
  rw[show k=t.length by omega,z6t hl]
  refine x9 ?_
  exact z9 [0] ⟨rfl,rfl⟩ rfl
set_option maxHeartbeats 1000000 in
set_option maxRecDepth 20000 in
theorem z6w (to row:z7)(x:UInt8)(ht:to.length≤4096)(hr:to.length=row.length):AFm Tryz.prog 2 y9f [q2j,.msl 0 1 0 to.length,.msl 1 1 0 to.length,.p (u8 x)] [.row z1 1 (bx to),.row z1 1 (bx row)] (v9 (.tup []) [.row z1 1 (bx (Y3 to row x)),.row z1 1 (bx row)]):=by
 have hl:=q6y x hr
 have hbl:=w9 row
 have wmul:=fun v=>w4b x v
 have wadd:=fun u v=>w4a q2j u v
 unfold q2j at wmul wadd ⊢
 generalize fP=F at wmul wadd ⊢
 obtain⟨n,hn⟩:∃ n,n=to.length:=⟨_,rfl⟩
 rw[← hn]
 refine Q5 2 hT y9g rfl rfl y9h rfl rfl ?_
 refine q8 (q7 hT ?_)
 refine z3 ?_
 refine y8 (fun m s=>∃ (k:Nat) (j:Int),m+k=n∧j=k∧s=⟨⟨31,[(0,.p (.box F)),(1,.msl 0 1 0 n),(3,.p (u8 x)),(10,.msl 1 1 0 n),(11,i64 n),(12,i64 j)]⟩,[.row z1 1 (bx (q3m (Y3 to row x) to k)),.row z1 1 (bx row)]⟩) n ⟨⟨31,_⟩,_⟩ (q9 [0,1] [0,1,3,10,11,12] rfl) ⟨0,0,by omega,rfl,rfl⟩ ?_
 rintro m s ⟨k,j,hmk,hj,rfl⟩
 refine q8 (q7 hT ?_)
 refine q8 (z2 (y4 (fun h=>?_) (fun h=>?_)))
 ·have h:=of_decide_eq_true (show decide (j<(n:Int))=true from h)
  have hk:k<to.length:=by omega
  have hk2:k<row.length:=by omega
  refine z5 ?_
  have hg:=z6u hl hk
  have hrg:=List.getElem?_eq_getElem hk2
  have hv:(Y3 to row x)[k]?=some (to[k] ^^^ Gf.mul x row[k]):=by unfold Y3;rw[List.getElem?_zipWith,List.getElem?_eq_getElem hk,List.getElem?_eq_getElem hk2]
  have hset:=z6v hl hk hv
  have w:=wmul row[k]
  have w2:=wadd to[k] (Gf.mul x row[k])
  generalize to[k]=u at hg hset w2 hv
  generalize row[k]=v at hrg hset w w2 hv
  generalize Gf.mul x v=p at hset w w2 hv
  generalize u ^^^ p=q at hset w2 hv
  have hjk:0+j.toNat=k:=by omega
  have hgx:(bx (q3m (Y3 to row x) to k))[0+j.toNat]?=some [u8 u]:=by rw[hjk];exact u9 hg
  have hrx:(bx row)[0+j.toNat]?=some [u8 v]:=by rw[show 0+j.toNat=k by omega];exact u9 hrg
  refine y6 (fun st=>∃ X,X=bx (q3m (Y3 to row x) to (k+1))∧st=⟨⟨31,[(0,.p (.box F)),(1,.msl 0 1 0 n),(3,.p (u8 x)),(10,.msl 1 1 0 n),(11,i64 n),(12,i64 j)]⟩,[.row z1 1 (X),.row z1 1 (bx row)]⟩) (z3 ?_) ?_
  ·refine q8 (q7 hT ?_)
   refine⟨⟨by omega,by omega⟩,?_⟩
   refine v7 hrx ?_
   refine x6 [13] [] hT z6 (by rfl) ?_
   refine⟨⟨by omega,by omega⟩,?_⟩
   refine v7 hgx ?_
   refine⟨_,w7 w _ rfl rfl,?_⟩
   refine⟨_,w7 w2 _ rfl rfl,?_⟩
   refine⟨⟨by omega,by omega⟩,?_⟩
   refine v7 hgx ?_
   repeat first|refine⟨rfl,?_⟩|refine⟨⟨_,w7 w _ rfl rfl,rfl⟩,?_⟩|refine⟨⟨_,w7 w2 _ rfl rfl,rfl⟩,?_⟩|refine⟨⟨⟨by omega,by omega⟩,rfl⟩,?_⟩|refine⟨v7 hgx rfl,?_⟩
   refine⟨_,q9 [0,1] [0,1,3,10,11,12] rfl,_,?_,rfl⟩
   show List.set (bx (q3m (Y3 to row x) to k)) (0+j.toNat) [u8 q]=_
   rw[hjk,hset]
  ·rintro _ ⟨X,rfl,rfl⟩
   refine q7 hT ?_
   exact⟨m - 1,by omega,_,q9 [0,1] [0,1,3,10,11,12] rfl,k+1,IntKind.i64.wrap (j+1),by omega,by rw[y7 _ (by omega) (by omega)];omega,rfl⟩
 ·have h:=of_decide_eq_false (show decide (j<(n:Int))=false from h)
  rw[show k=to.length by omega,z6t hl]
  refine x9 ?_
  exact z9 [0,1] ⟨rfl,rfl⟩ rfl
set_option maxHeartbeats 1000000 in
set_option maxRecDepth 20000 in
theorem q5e (to row:z7)(x:UInt8)(ht:to.length≤4096)(hr:to.length=row.length):AFm Tryz.prog 1 y9f [q2j,.msl 0 1 0 to.length,bA row,.p (u8 x)] [.row z1 1 (bx to)] (v9 (.tup []) [.row z1 1 (bx (Y3 to row x))]):=by
 have hl:=q6y x hr
 have hbl:=w9 row
 have wmul:=fun v=>w4b x v
 have wadd:=fun u v=>w4a q2j u v
 unfold q2j at wmul wadd ⊢
 generalize fP=F at wmul wadd ⊢
 obtain⟨n,hn⟩:∃ n,n=to.length:=⟨_,rfl⟩
 rw[← hn]
 refine Q5 1 hT y9g rfl rfl y9h rfl rfl ?_
 refine q8 (q7 hT ?_)
 refine z3 ?_
 refine y8 (fun m s=>∃ (k:Nat) (j:Int),m+k=n∧j=k∧s=⟨⟨31,[(0,.p (.box F)),(1,.msl 0 1 0 n),(3,.p (u8 x)),(10,bA row),(11,i64 n),(12,i64 j)]⟩,[.row z1 1 (bx (q3m (Y3 to row x) to k))]⟩) n ⟨⟨31,_⟩,_⟩ (q9 [0] [0,1,3,10,11,12] rfl) ⟨0,0,by omega,rfl,by rw[hn,hr,← hbl];rfl⟩ ?_
 rintro m s ⟨k,j,hmk,hj,rfl⟩
 refine q8 (q7 hT ?_)
 refine q8 (z2 (y4 (fun h=>?_) (fun h=>?_)))
 ·have h:=of_decide_eq_true (show decide (j<(n:Int))=true from h)
  have hk:k<to.length:=by omega
  have hk2:k<row.length:=by omega
  refine z5 ?_
  have hg:=z6u hl hk
  have hrg:=List.getElem?_eq_getElem hk2
  have hv:(Y3 to row x)[k]?=some (to[k] ^^^ Gf.mul x row[k]):=by unfold Y3;rw[List.getElem?_zipWith,List.getElem?_eq_getElem hk,List.getElem?_eq_getElem hk2]
  have hset:=z6v hl hk hv
  have w:=wmul row[k]
  have w2:=wadd to[k] (Gf.mul x row[k])
  generalize to[k]=u at hg hset w2 hv
  generalize row[k]=v at hrg hset w w2 hv
  generalize Gf.mul x v=p at hset w w2 hv
  generalize u ^^^ p=q at hset w2 hv
  have hjk:0+j.toNat=k:=by omega
  have hgx:(bx (q3m (Y3 to row x) to k))[0+j.toNat]?=some [u8 u]:=by rw[hjk];exact u9 hg
  have hrx:(bx row)[j.toNat]?=some [u8 v]:=by rw[show j.toNat=k by omega];exact u9 hrg
  refine y6 (fun st=>∃ X,X=bx (q3m (Y3 to row x) to (k+1))∧st=⟨⟨31,[(0,.p (.box F)),(1,.msl 0 1 0 n),(3,.p (u8 x)),(10,bA row),(11,i64 n),(12,i64 j)]⟩,[.row z1 1 (X)]⟩) (z3 ?_) ?_
  ·refine q8 (q7 hT ?_)
   refine⟨by omega,v7 hrx ?_⟩
   refine x6 [13] [] hT z6 (by rfl) ?_
   refine⟨⟨by omega,by omega⟩,?_⟩
   refine v7 hgx ?_
   refine⟨_,w7 w _ rfl rfl,?_⟩
   refine⟨_,w7 w2 _ rfl rfl,?_⟩
   refine⟨⟨by omega,by omega⟩,?_⟩
   refine v7 hgx ?_
   repeat first|refine⟨rfl,?_⟩|refine⟨⟨_,w7 w _ rfl rfl,rfl⟩,?_⟩|refine⟨⟨_,w7 w2 _ rfl rfl,rfl⟩,?_⟩|refine⟨⟨⟨by omega,by omega⟩,rfl⟩,?_⟩|refine⟨v7 hgx rfl,?_⟩
   refine⟨_,q9 [0] [0,1,3,10,11,12] rfl,_,?_,rfl⟩
   show List.set (bx (q3m (Y3 to row x) to k)) (0+j.toNat) [u8 q]=_
   rw[hjk,hset]
  ·rintro _ ⟨X,rfl,rfl⟩
   refine q7 hT ?_
   exact⟨m - 1,by omega,_,q9 [0] [0,1,3,10,11,12] rfl,k+1,IntKind.i64.wrap (j+1),by omega,by rw[y7 _ (by omega) (by omega)];omega,rfl⟩
 ·have h:=of_decide_eq_false (show decide (j<(n:Int))=false from h)
  rw[show k=to.length by omega,z6t hl]
  refine x9 ?_
  exact z9 [0] ⟨rfl,rfl⟩ rfl
end Go.Proofs.YtinfbclgkghgaaaGreat.AL
namespace Go.Proofs.YtinfbclgkghgaaaGreat.AL
open Go Go.Proofs
set_option maxRecDepth 20000 in
theorem q1t (n:Int)(h1:1≤n)(h2:n≤64):AF Tryz.prog w2y [i64 n] [] (v9 (bl true) []):=by
 refine AF.mono (R:=fun r H'=>∃ z,z=true∧r=bl z∧H'=[]) ?_ (by rintro r H' ⟨z,rfl,rfl,rfl⟩;exact⟨rfl,rfl⟩)
 refine v8 hT w2z rfl rfl w3a rfl ?_
 refine q8 (q7 hT ?_)
 refine q8 (q7 hT ?_)
 refine y4 (fun h=>?_) (fun h=>?_)
 ·refine y5 ?_
  exact z9 [] ⟨_,decide_eq_true h2,rfl,rfl⟩ rfl
 ·have h:=of_decide_eq_false (show decide (n≥1)=false from h)
  exact absurd h1 h
set_option maxHeartbeats 1000000 in
set_option maxRecDepth 20000 in
theorem J0 (L:List z7)(c:Nat)(h1:1≤L.length)(h2:L.length≤64)(c1:1≤c)(c2:c≤4096)(hc:∀ s∈L,s.length=c):AF Tryz.prog w8d [.p (.sl 1 (z4 L))] [] (v9 (bl true) []):=by
 refine AF.mono (R:=fun r H'=>∃ z,z=true∧r=bl z∧H'=[]) ?_ (by rintro r H' ⟨z,rfl,rfl,rfl⟩;exact⟨rfl,rfl⟩)
 have hcl:=Q2 L
 have ws:=q1t ((z4 L).length:Nat) (by omega) (by omega)
 have h0:=List.getElem?_eq_getElem (show 0<L.length by omega)
 have hc0:=hc _ (List.getElem_mem (show 0<L.length by omega))
 generalize L[0]=s0 at h0 hc0
 have hx0:(z4 L)[(0:Int).toNat]?=some [bP s0]:=Q4 h0
 have hb0:=w9 s0
 refine v8 hT w8e rfl rfl w8f rfl ?_
 refine q8 (q7 hT ?_)
 refine z8 ⟨⟨37,[(0,.p (.sl 1 (z4 L)))]⟩,[]⟩ True (q8 (q7 hT ?_)) (fun _=>?_)
 ·refine y9 (w7 ws _ rfl rfl) ?_
  refine⟨by decide,v7 hx0 ?_⟩
  refine y4 (fun h=>?_) (fun h=>?_)
  ·have h:=of_decide_eq_true (show decide ((((bx s0).length:Nat):Int)<1)=true from h)
   omega
  refine⟨by decide,v7 hx0 ?_⟩
  refine z2 (y4 (fun h=>?_) (fun h=>?_))
  ·have h:=of_decide_eq_true (show decide ((((bx s0).length:Nat):Int) > 4096)=true from h)
   omega
  exact z5 ⟨q9 [] [0] rfl,trivial⟩
 refine z8 ⟨⟨37,[]⟩,[]⟩ True (q8 (q7 hT ?_)) (fun _=>?_)
 ·refine z3 ?_
  refine y8 (fun n s=>∃ (k:Nat) (j:Int),n+k=L.length∧j=k∧s=⟨⟨37,[(0,.p (.sl 1 (z4 L))),(23,.p (.sl 1 (z4 L))),(24,i64 (z4 L).length),(25,i64 j)]⟩,[]⟩) L.length ⟨⟨37,_⟩,_⟩ (q9 [] [0,23,24,25] rfl) ⟨0,0,rfl,rfl,rfl⟩ ?_
  rintro n s ⟨k,j,hnk,hj,rfl⟩
  refine q8 (q7 hT ?_)
  refine q8 (z2 (y4 (fun h=>?_) (fun h=>?_)))
  ·have h:=of_decide_eq_true (show decide (j<(((z4 L).length:Nat):Int))=true from h)
   have hk:k<L.length:=by omega
   refine z5 ?_
   have hx:=List.getElem?_eq_getElem hk
   have hcx:=hc _ (List.getElem_mem hk)
   generalize L[k]=s at hx hcx
   have hxp:(z4 L)[j.toNat]?=some [bP s]:=by rw[hj,Int.toNat_natCast];exact Q4 hx
   have hbs:=w9 s
   refine z8 ⟨⟨37,[(0,.p (.sl 1 (z4 L))),(23,.p (.sl 1 (z4 L))),(24,i64 (z4 L).length),(25,i64 j)]⟩,[]⟩ True (z3 (q8 (q7 hT ?_))) (fun _=>?_)
   ·refine⟨by omega,v7 hxp ?_⟩
    refine q8 (q7 hT ?_)
    refine⟨by decide,v7 hx0 ?_⟩
    refine z2 (y4 (fun h=>?_) (fun h=>?_))
    ·have h:((((bx s).length:Nat):Int) != (((bx s0).length:Nat):Int))=true:=h
     rw[bne_iff_ne]at h
     omega
    exact z5 ⟨q9 [] [0,23,24,25] rfl,trivial⟩
   ·refine q7 hT ?_
    exact⟨n - 1,by omega,_,q9 [] [0,23,24,25] rfl,k+1,IntKind.i64.wrap (j+1),by omega,by rw[y7 _ (by omega) (by omega)];omega,rfl⟩
  ·refine x9 ?_
   exact⟨q9 [] [] rfl,trivial⟩
 refine q8 (q7 hT ?_)
 refine y5 ?_
 exact z9 [] ⟨true,rfl,rfl,rfl⟩ rfl
def idA (i k:Nat):UInt8:=match (i:Int)==(k:Int) with|true=>1|false=>0
set_option maxRecDepth 20000 in
theorem z2v (i k:Nat):AF Tryz.prog q4z [i64 i,i64 k] [] (v9 (.p (u8 (idA i k))) []):=by
 refine AF.mono (R:=fun r H'=>∃ z,z=idA i k∧r=.p (u8 z)∧H'=[]) ?_ (by rintro r H' ⟨z,rfl,rfl,rfl⟩;exact⟨rfl,rfl⟩)
 refine v8 hT x8m rfl rfl x8n rfl ?_
 refine q8 (q7 hT ?_)
 refine q8 (q8 (q7 hT ?_))
 refine z2 (y4 (fun h=>?_) (fun h=>?_))
 ·have h:((i:Int)==(k:Int))=true:=h
  refine q8 (q7 hT ?_)
  refine y5 ?_
  exact z9 [] ⟨1,by unfold idA;rw[h],rfl,rfl⟩ rfl
 ·have h:((i:Int)==(k:Int))=false:=h
  refine z5 ?_
  refine q8 (q7 hT ?_)
  refine y5 ?_
  exact z9 [] ⟨0,by unfold idA;rw[h],rfl,rfl⟩ rfl
set_option maxRecDepth 20000 in
theorem q3h (i k:Nat):AF Tryz.prog q0k [i64 i,i64 k] [] (v9 (.p (u8 0)) []):=by
 refine v8 hT x7w rfl rfl x7x rfl ?_
 refine q8 (q7 hT ?_)
 refine q8 (q7 hT ?_)
 refine y5 ?_
 exact z9 [] ⟨rfl,rfl⟩ rfl
def q3n (cols i k:Nat):UInt8:=Gf.inv (UInt8.ofNat (cols+i) ^^^ UInt8.ofNat k)
set_option maxHeartbeats 1000000 in
set_option maxRecDepth 20000 in
theorem q9n (cols i k:Nat)(hk:k<cols)(hc:cols+i<256):AF Tryz.prog q3y [i64 i,i64 k,.p (.box [.box fP]),.p (.box [.raw (.int .i64 cols)])] [] (v9 (.p (u8 (q3n cols i k))) []):=by
 have hne:UInt8.ofNat (cols+i) ^^^ UInt8.ofNat k≠0:=by
  intro h
  have h2:UInt8.ofNat (cols+i)=UInt8.ofNat k:=by
   have:=congrArg (· ^^^ UInt8.ofNat k) h
   simp only[UInt8.xor_assoc,UInt8.xor_self,UInt8.xor_zero,UInt8.zero_xor]at this
   exact this
  have h3:=congrArg UInt8.toNat h2
  rw[UInt8.toNat_ofNat',UInt8.toNat_ofNat']at h3
  omega
 have wa:=w4a q2j (UInt8.ofNat (cols+i)) (UInt8.ofNat k)
 have wi:=y5m _ hne
 have ha:(.p (.raw (.int .u8 (IntKind.u8.wrap (IntKind.i64.wrap ((cols:Int)+(i:Int)))))):AV)=.p (u8 (UInt8.ofNat (cols+i))):=by
  rw[y7 _ (by omega) (by omega),show (cols:Int)+(i:Int)=((cols+i:Nat):Int) by omega,q0p]
 have hb:(.p (.raw (.int .u8 (IntKind.u8.wrap (k:Int)))):AV)=.p (u8 (UInt8.ofNat k)):=by rw[q0p]
 rw[← ha,← hb]at wa
 have hm:Gf.inv (UInt8.ofNat (cols+i) ^^^ UInt8.ofNat k)=q3n cols i k:=rfl
 rw[hm]at wi
 generalize q3n cols i k=m at wi ⊢
 generalize UInt8.ofNat (cols+i) ^^^ UInt8.ofNat k=v at wa wi
 unfold q2j at wa wi
 generalize fP=F at wa wi ⊢
 refine v8 hT y4c rfl rfl y4d rfl ?_
 refine q8 (q7 hT ?_)
 refine z8 ⟨⟨23,[(7,.p (u8 m))]⟩,[]⟩ True ?_ (fun _=>?_)
 ·refine x6 [] [] hT z6 (by rfl) ?_
  refine⟨_,w7 wa _ rfl rfl,?_⟩
  refine⟨_,w7 wi _ rfl rfl,?_⟩
  exact⟨q9 [] [7] rfl,trivial⟩
 refine q8 (q7 hT ?_)
 refine y5 ?_
 exact z9 [] ⟨rfl,rfl⟩ rfl
end Go.Proofs.YtinfbclgkghgaaaGreat.AL
