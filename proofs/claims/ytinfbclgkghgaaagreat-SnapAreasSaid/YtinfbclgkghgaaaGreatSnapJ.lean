/- A part of the proof. -/
import Derived.Test.YtinfbclgkghgaaaGreatSnapI
/- The layer 2 (mat): a matrix is filled (printed by genmat.py). -/
namespace Go.Proofs.YtinfbclgkghgaaaGreat.AL
open Go Go.Proofs
/-- A row of a matrix,and what of it is filled already. -/
def Q3 (A:Nat→Nat→UInt8)(c i:Nat):y7:=(List.range c).map (A i)
def Y2 (A:Nat→Nat→UInt8)(c i k:Nat):y7:=(List.range k).map (A i)++List.replicate (c - k) 0
theorem Y6 (A:Nat→Nat→UInt8){c:Nat}(i:Nat){k:Nat}(h:k≤c):(Y2 A c i k).length=c:=by
 unfold Y2;rw[List.length_append,List.length_map,List.length_range,List.length_replicate];omega
theorem q6h {l:y7}{k:Nat}(h:k<l.length):∃ v,(bx l)[k]?=some [u8 v]:=⟨l[k],by rw[bx,List.getElem?_map,List.getElem?_eq_getElem h];rfl⟩
theorem q0a (A:Nat→Nat→UInt8)(c i:Nat):Y2 A c i c=Q3 A c i:=by unfold Y2 Q3;simp
theorem z4a (A:Nat→Nat→UInt8)(c i:Nat):List.replicate (c:Int).toNat [PV.raw (.int .u8 0)]=bx (Y2 A c i 0):=by
 unfold Y2 bx;simp
theorem q0b (A:Nat→Nat→UInt8){c:Nat}(i:Nat){k:Nat}(h:k<c):(bx (Y2 A c i k)).set k [u8 (A i k)]=bx (Y2 A c i (k+1)):=by
 have e:Y2 A c i (k+1)=(Y2 A c i k).set k (A i k):=by
  unfold Y2
  rw[List.set_append_right _ _ (by rw[List.length_map,List.length_range];exact Nat.le_refl _),List.length_map,List.length_range,Nat.sub_self,List.range_succ,List.map_append,List.append_assoc,show c - k=(c - (k+1))+1 by omega,List.replicate_succ]
  rfl
 rw[e]
 unfold bx
 rw[List.map_set]
set_option maxHeartbeats 2000000 in
set_option maxRecDepth 20000 in
theorem z2a (fn:FuncId)(c:Nat)(hc:c≤4096)(A:Nat→Nat→UInt8)(hA:∀ i k:Nat,i<1→k<c→AF Tryz.prog fn (i64 i :: i64 k :: []) [] (Q0 (.p (u8 (A i k))) [])) :
 AF Tryz.prog q1h [i64 1,i64 c,.clo (.func fn) []] [] (Q0 (.msl 0 1 0 1) [.cells z5 [.msl 1 1 0 c],.row z4 1 (bx (Q3 A c 0))]):=by
 refine u9 hT q1i rfl rfl q1j rfl ?_
 refine q8 (q7 hT ?_)
 refine y8 ⟨⟨43,[(1,i64 c),(2,.clo (.func fn) []),(7,.msl 0 1 0 1)]⟩,[.cells z5 [.p (.raw (.slice none 0 0))]]⟩ True (q7 hT ?_) (fun _=>?_)
 ·refine⟨⟨rfl,by decide,by decide,by decide⟩,?_⟩
  exact⟨Wk.trans (J3 0 [.raw (.slice none 0 0)] rfl rfl (by decide)) (q9 [0] [1,2,7] rfl),trivial⟩
 refine y8 ⟨⟨43,[(7,.msl 0 1 0 1)]⟩,[.cells z5 [.msl 1 1 0 c],.row z4 1 (bx (Q3 A c 0))]⟩ True (q8 (q7 hT ?_)) (fun _=>?_)
 ·refine z7 ?_
  refine w7 (fun n s=>(n=1∧s=⟨⟨43,[(1,i64 c),(2,.clo (.func fn) []),(7,.msl 0 1 0 1),(13,i64 1),(14,i64 0)]⟩,[.cells z5 [.p (.raw (.slice none 0 0))]]⟩)∨(n=0∧s=⟨⟨43,[(1,i64 c),(2,.clo (.func fn) []),(7,.msl 0 1 0 1),(13,i64 1),(14,i64 1)]⟩,[.cells z5 [.msl 1 1 0 c],.row z4 1 (bx (Q3 A c 0))]⟩)) 1 ⟨⟨43,_⟩,_⟩ (q9 [0] [1,2,7,13,14] rfl) (.inl ⟨rfl,rfl⟩) ?_
  rintro n s (⟨rfl,rfl⟩|⟨rfl,rfl⟩)
  ·refine q8 (q7 hT ?_)
   refine q8 (z6 ?_)
   refine z9 ?_
   refine y8 ⟨⟨43,[(1,i64 c),(2,.clo (.func fn) []),(7,.msl 0 1 0 1),(13,i64 1),(8,i64 0),(14,i64 0)]⟩,[.cells z5 [.msl 1 1 0 c],.row z4 1 (bx (Q3 A c 0))]⟩ True (z7 ?_) (fun _=>?_)
   ·refine q8 (q7 hT ?_)
    refine w6 (fun st=>∃ X,X=bx (Y2 A c 0 0)∧st=⟨⟨43,[(1,i64 c),(2,.clo (.func fn) []),(7,.msl 0 1 0 1),(13,i64 1),(8,i64 0),(14,i64 0)]⟩,[.cells z5 [.msl 1 1 0 c],.row z4 1 (X)]⟩) (q7 hT ?_) ?_
    ·refine⟨⟨rfl,by omega,by show (c:Int)*1≤_;omega,by omega⟩,?_⟩
     refine⟨by decide,?_⟩
     exact⟨_,q9 [0,1] [1,2,7,13,8,14] rfl,_,z4a A c 0,rfl⟩
    rintro _ ⟨X0,hX0,rfl⟩
    refine q8 (q7 hT ?_)
    refine⟨by decide,?_⟩
    refine z7 ?_
    refine w7 (fun n s=>∃ (k:Nat) (j:Int),n+k=c∧j=k∧s=⟨⟨43,[(1,i64 c),(2,.clo (.func fn) []),(7,.msl 0 1 0 1),(13,i64 1),(8,i64 0),(14,i64 0),(26,i64 c),(27,i64 j)]⟩,[.cells z5 [.msl 1 1 0 c],.row z4 1 (bx (Y2 A c 0 k))]⟩) c ⟨⟨43,_⟩,_⟩ (q9 [0,1] [1,2,7,13,8,14,26,27] rfl) ⟨0,0,by omega,rfl,by rw[hX0];rfl⟩ ?_
    rintro n2 s ⟨k,j,hnk,hj,rfl⟩
    refine q8 (q7 hT ?_)
    refine q8 (z6 (x7 (fun h=>?_) (fun h=>?_)))
    ·have h:=of_decide_eq_true (show decide (j<(c:Int))=true from h)
     refine z9 ?_
     have w:=hA 0 k (by decide) (by omega)
     rw[← hj]at w
     have w:AF Tryz.prog fn ([i64 0,i64 j]++[]) [] (Q0 (.p (u8 (A 0 k))) []):=w
     have hset:=q0b A (c:=c) 0 (k:=k) (by omega)
     have hjk:0+j.toNat=k:=by omega
     have hlen:(bx (Y2 A c 0 k)).length=c:=by rw[u6,Y6 A 0 (by omega)]
     obtain⟨v,hv⟩:∃ v,(bx (Y2 A c 0 k))[0+j.toNat]?=some [u8 v]:=by rw[hjk];exact q6h (by rw[Y6 A 0 (by omega)];omega)
     refine w6 (fun st=>∃ X,X=bx (Y2 A c 0 (k+1))∧st=⟨⟨43,[(1,i64 c),(2,.clo (.func fn) []),(7,.msl 0 1 0 1),(13,i64 1),(8,i64 0),(14,i64 0),(26,i64 c),(27,i64 j)]⟩,[.cells z5 [.msl 1 1 0 c],.row z4 1 (X)]⟩) (z7 (q8 (q7 hT ?_))) ?_
     ·refine w9 [10] [] hT z8 (by rfl) ?_
      refine⟨by decide,?_⟩
      refine⟨_,u5 w _ rfl rfl,?_⟩
      refine⟨⟨by omega,by omega⟩,?_⟩
      refine u7 hv ?_
      repeat first|refine⟨rfl,?_⟩|refine⟨⟨_,u5 w _ rfl rfl,rfl⟩,?_⟩|refine⟨⟨by decide,rfl⟩,?_⟩|refine⟨⟨⟨by omega,by omega⟩,rfl⟩,?_⟩
      refine⟨_,q9 [0,1] [1,2,7,13,8,14,26,27] rfl,_,?_,rfl⟩
      show List.set (bx (Y2 A c 0 k)) (0+j.toNat) [u8 (A 0 k)]=_
      rw[hjk,hset]
     ·rintro _ ⟨X,rfl,rfl⟩
      refine q7 hT ?_
      exact⟨n2 - 1,by omega,_,q9 [0,1] [1,2,7,13,8,14,26,27] rfl,k+1,IntKind.i64.wrap (j+1),by omega,by rw[x9 _ (by omega) (by omega)];omega,rfl⟩
    ·have h:=of_decide_eq_false (show decide (j<(c:Int))=false from h)
     rw[show k=c by omega,q0a]
     refine u0 ?_
     exact⟨q9 [0,1] [1,2,7,13,8,14] rfl,trivial⟩
   ·refine q7 hT ?_
    exact⟨0,by decide,_,q9 [0,1] [1,2,7,13,14] rfl,(.inr ⟨rfl,rfl⟩)⟩
  ·refine q8 (q7 hT ?_)
   refine q8 (z6 ?_)
   refine u0 ?_
   exact⟨q9 [0,1] [7] rfl,trivial⟩
 refine q8 (q7 hT ?_)
 refine x6 ?_
 exact y9 [0,1] ⟨rfl,rfl⟩ rfl
set_option maxHeartbeats 2000000 in
set_option maxRecDepth 20000 in
theorem z2b (fn:FuncId)(c:Nat)(hc:c≤4096)(A:Nat→Nat→UInt8)(hA:∀ i k:Nat,i<2→k<c→AF Tryz.prog fn (i64 i :: i64 k :: []) [] (Q0 (.p (u8 (A i k))) [])) :
 AF Tryz.prog q1h [i64 2,i64 c,.clo (.func fn) []] [] (Q0 (.msl 0 1 0 2) [.cells z5 [.msl 1 1 0 c,.msl 2 1 0 c],.row z4 1 (bx (Q3 A c 0)),.row z4 1 (bx (Q3 A c 1))]):=by
 refine u9 hT q1i rfl rfl q1j rfl ?_
 refine q8 (q7 hT ?_)
 refine y8 ⟨⟨43,[(1,i64 c),(2,.clo (.func fn) []),(7,.msl 0 1 0 2)]⟩,[.cells z5 [.p (.raw (.slice none 0 0)),.p (.raw (.slice none 0 0))]]⟩ True (q7 hT ?_) (fun _=>?_)
 ·refine⟨⟨rfl,by decide,by decide,by decide⟩,?_⟩
  exact⟨Wk.trans (J3 0 [.raw (.slice none 0 0),.raw (.slice none 0 0)] rfl rfl (by decide)) (q9 [0] [1,2,7] rfl),trivial⟩
 refine y8 ⟨⟨43,[(7,.msl 0 1 0 2)]⟩,[.cells z5 [.msl 1 1 0 c,.msl 2 1 0 c],.row z4 1 (bx (Q3 A c 0)),.row z4 1 (bx (Q3 A c 1))]⟩ True (q8 (q7 hT ?_)) (fun _=>?_)
 ·refine z7 ?_
  refine w7 (fun n s=>(n=2∧s=⟨⟨43,[(1,i64 c),(2,.clo (.func fn) []),(7,.msl 0 1 0 2),(13,i64 2),(14,i64 0)]⟩,[.cells z5 [.p (.raw (.slice none 0 0)),.p (.raw (.slice none 0 0))]]⟩)∨(n=1∧s=⟨⟨43,[(1,i64 c),(2,.clo (.func fn) []),(7,.msl 0 1 0 2),(13,i64 2),(14,i64 1)]⟩,[.cells z5 [.msl 1 1 0 c,.p (.raw (.slice none 0 0))],.row z4 1 (bx (Q3 A c 0))]⟩)∨(n=0∧s=⟨⟨43,[(1,i64 c),(2,.clo (.func fn) []),(7,.msl 0 1 0 2),(13,i64 2),(14,i64 2)]⟩,[.cells z5 [.msl 1 1 0 c,.msl 2 1 0 c],.row z4 1 (bx (Q3 A c 0)),.row z4 1 (bx (Q3 A c 1))]⟩)) 2 ⟨⟨43,_⟩,_⟩ (q9 [0] [1,2,7,13,14] rfl) (.inl ⟨rfl,rfl⟩) ?_
  rintro n s (⟨rfl,rfl⟩|⟨rfl,rfl⟩|⟨rfl,rfl⟩)
  ·refine q8 (q7 hT ?_)
   refine q8 (z6 ?_)
   refine z9 ?_
   refine y8 ⟨⟨43,[(1,i64 c),(2,.clo (.func fn) []),(7,.msl 0 1 0 2),(13,i64 2),(8,i64 0),(14,i64 0)]⟩,[.cells z5 [.msl 1 1 0 c,.p (.raw (.slice none 0 0))],.row z4 1 (bx (Q3 A c 0))]⟩ True (z7 ?_) (fun _=>?_)
   ·refine q8 (q7 hT ?_)
    refine w6 (fun st=>∃ X,X=bx (Y2 A c 0 0)∧st=⟨⟨43,[(1,i64 c),(2,.clo (.func fn) []),(7,.msl 0 1 0 2),(13,i64 2),(8,i64 0),(14,i64 0)]⟩,[.cells z5 [.msl 1 1 0 c,.p (.raw (.slice none 0 0))],.row z4 1 (X)]⟩) (q7 hT ?_) ?_
    ·refine⟨⟨rfl,by omega,by show (c:Int)*1≤_;omega,by omega⟩,?_⟩
     refine⟨by decide,?_⟩
     exact⟨_,q9 [0,1] [1,2,7,13,8,14] rfl,_,z4a A c 0,rfl⟩
    rintro _ ⟨X0,hX0,rfl⟩
    refine q8 (q7 hT ?_)
    refine⟨by decide,?_⟩
    refine z7 ?_
    refine w7 (fun n s=>∃ (k:Nat) (j:Int),n+k=c∧j=k∧s=⟨⟨43,[(1,i64 c),(2,.clo (.func fn) []),(7,.msl 0 1 0 2),(13,i64 2),(8,i64 0),(14,i64 0),(26,i64 c),(27,i64 j)]⟩,[.cells z5 [.msl 1 1 0 c,.p (.raw (.slice none 0 0))],.row z4 1 (bx (Y2 A c 0 k))]⟩) c ⟨⟨43,_⟩,_⟩ (q9 [0,1] [1,2,7,13,8,14,26,27] rfl) ⟨0,0,by omega,rfl,by rw[hX0];rfl⟩ ?_
    rintro n2 s ⟨k,j,hnk,hj,rfl⟩
    refine q8 (q7 hT ?_)
    refine q8 (z6 (x7 (fun h=>?_) (fun h=>?_)))
    ·have h:=of_decide_eq_true (show decide (j<(c:Int))=true from h)
     refine z9 ?_
     have w:=hA 0 k (by decide) (by omega)
     rw[← hj]at w
     have w:AF Tryz.prog fn ([i64 0,i64 j]++[]) [] (Q0 (.p (u8 (A 0 k))) []):=w
     have hset:=q0b A (c:=c) 0 (k:=k) (by omega)
     have hjk:0+j.toNat=k:=by omega
     have hlen:(bx (Y2 A c 0 k)).length=c:=by rw[u6,Y6 A 0 (by omega)]
     obtain⟨v,hv⟩:∃ v,(bx (Y2 A c 0 k))[0+j.toNat]?=some [u8 v]:=by rw[hjk];exact q6h (by rw[Y6 A 0 (by omega)];omega)
     refine w6 (fun st=>∃ X,X=bx (Y2 A c 0 (k+1))∧st=⟨⟨43,[(1,i64 c),(2,.clo (.func fn) []),(7,.msl 0 1 0 2),(13,i64 2),(8,i64 0),(14,i64 0),(26,i64 c),(27,i64 j)]⟩,[.cells z5 [.msl 1 1 0 c,.p (.raw (.slice none 0 0))],.row z4 1 (X)]⟩) (z7 (q8 (q7 hT ?_))) ?_
     ·refine w9 [10] [] hT z8 (by rfl) ?_
      refine⟨by decide,?_⟩
      refine⟨_,u5 w _ rfl rfl,?_⟩
      refine⟨⟨by omega,by omega⟩,?_⟩
      refine u7 hv ?_
      repeat first|refine⟨rfl,?_⟩|refine⟨⟨_,u5 w _ rfl rfl,rfl⟩,?_⟩|refine⟨⟨by decide,rfl⟩,?_⟩|refine⟨⟨⟨by omega,by omega⟩,rfl⟩,?_⟩
      refine⟨_,q9 [0,1] [1,2,7,13,8,14,26,27] rfl,_,?_,rfl⟩
      show List.set (bx (Y2 A c 0 k)) (0+j.toNat) [u8 (A 0 k)]=_
      rw[hjk,hset]
     ·rintro _ ⟨X,rfl,rfl⟩
      refine q7 hT ?_
      exact⟨n2 - 1,by omega,_,q9 [0,1] [1,2,7,13,8,14,26,27] rfl,k+1,IntKind.i64.wrap (j+1),by omega,by rw[x9 _ (by omega) (by omega)];omega,rfl⟩
    ·have h:=of_decide_eq_false (show decide (j<(c:Int))=false from h)
     rw[show k=c by omega,q0a]
     refine u0 ?_
     exact⟨q9 [0,1] [1,2,7,13,8,14] rfl,trivial⟩
   ·refine q7 hT ?_
    exact⟨1,by decide,_,q9 [0,1] [1,2,7,13,14] rfl,(.inr (.inl ⟨rfl,rfl⟩))⟩
  ·refine q8 (q7 hT ?_)
   refine q8 (z6 ?_)
   refine z9 ?_
   refine y8 ⟨⟨43,[(1,i64 c),(2,.clo (.func fn) []),(7,.msl 0 1 0 2),(13,i64 2),(8,i64 1),(14,i64 1)]⟩,[.cells z5 [.msl 1 1 0 c,.msl 2 1 0 c],.row z4 1 (bx (Q3 A c 0)),.row z4 1 (bx (Q3 A c 1))]⟩ True (z7 ?_) (fun _=>?_)
   ·refine q8 (q7 hT ?_)
    refine w6 (fun st=>∃ X,X=bx (Y2 A c 1 0)∧st=⟨⟨43,[(1,i64 c),(2,.clo (.func fn) []),(7,.msl 0 1 0 2),(13,i64 2),(8,i64 1),(14,i64 1)]⟩,[.cells z5 [.msl 1 1 0 c,.msl 2 1 0 c],.row z4 1 (bx (Q3 A c 0)),.row z4 1 (X)]⟩) (q7 hT ?_) ?_
    ·refine⟨⟨rfl,by omega,by show (c:Int)*1≤_;omega,by omega⟩,?_⟩
     refine⟨by decide,?_⟩
     exact⟨_,q9 [0,1,2] [1,2,7,13,8,14] rfl,_,z4a A c 1,rfl⟩
    rintro _ ⟨X0,hX0,rfl⟩
    refine q8 (q7 hT ?_)
    refine⟨by decide,?_⟩
    refine z7 ?_
    refine w7 (fun n s=>∃ (k:Nat) (j:Int),n+k=c∧j=k∧s=⟨⟨43,[(1,i64 c),(2,.clo (.func fn) []),(7,.msl 0 1 0 2),(13,i64 2),(8,i64 1),(14,i64 1),(26,i64 c),(27,i64 j)]⟩,[.cells z5 [.msl 1 1 0 c,.msl 2 1 0 c],.row z4 1 (bx (Q3 A c 0)),.row z4 1 (bx (Y2 A c 1 k))]⟩) c ⟨⟨43,_⟩,_⟩ (q9 [0,1,2] [1,2,7,13,8,14,26,27] rfl) ⟨0,0,by omega,rfl,by rw[hX0];rfl⟩ ?_
    rintro n2 s ⟨k,j,hnk,hj,rfl⟩
    refine q8 (q7 hT ?_)
    refine q8 (z6 (x7 (fun h=>?_) (fun h=>?_)))
    ·have h:=of_decide_eq_true (show decide (j<(c:Int))=true from h)
     refine z9 ?_
     have w:=hA 1 k (by decide) (by omega)
     rw[← hj]at w
     have w:AF Tryz.prog fn ([i64 1,i64 j]++[]) [] (Q0 (.p (u8 (A 1 k))) []):=w
     have hset:=q0b A (c:=c) 1 (k:=k) (by omega)
     have hjk:0+j.toNat=k:=by omega
     have hlen:(bx (Y2 A c 1 k)).length=c:=by rw[u6,Y6 A 1 (by omega)]
     obtain⟨v,hv⟩:∃ v,(bx (Y2 A c 1 k))[0+j.toNat]?=some [u8 v]:=by rw[hjk];exact q6h (by rw[Y6 A 1 (by omega)];omega)
     refine w6 (fun st=>∃ X,X=bx (Y2 A c 1 (k+1))∧st=⟨⟨43,[(1,i64 c),(2,.clo (.func fn) []),(7,.msl 0 1 0 2),(13,i64 2),(8,i64 1),(14,i64 1),(26,i64 c),(27,i64 j)]⟩,[.cells z5 [.msl 1 1 0 c,.msl 2 1 0 c],.row z4 1 (bx (Q3 A c 0)),.row z4 1 (X)]⟩) (z7 (q8 (q7 hT ?_))) ?_
     ·refine w9 [10] [] hT z8 (by rfl) ?_
      refine⟨by decide,?_⟩
      refine⟨_,u5 w _ rfl rfl,?_⟩
      refine⟨⟨by omega,by omega⟩,?_⟩
      refine u7 hv ?_
      repeat first|refine⟨rfl,?_⟩|refine⟨⟨_,u5 w _ rfl rfl,rfl⟩,?_⟩|refine⟨⟨by decide,rfl⟩,?_⟩|refine⟨⟨⟨by omega,by omega⟩,rfl⟩,?_⟩
      refine⟨_,q9 [0,1,2] [1,2,7,13,8,14,26,27] rfl,_,?_,rfl⟩
      show List.set (bx (Y2 A c 1 k)) (0+j.toNat) [u8 (A 1 k)]=_
      rw[hjk,hset]
     ·rintro _ ⟨X,rfl,rfl⟩
      refine q7 hT ?_
      exact⟨n2 - 1,by omega,_,q9 [0,1,2] [1,2,7,13,8,14,26,27] rfl,k+1,IntKind.i64.wrap (j+1),by omega,by rw[x9 _ (by omega) (by omega)];omega,rfl⟩
    ·have h:=of_decide_eq_false (show decide (j<(c:Int))=false from h)
     rw[show k=c by omega,q0a]
     refine u0 ?_
     exact⟨q9 [0,1,2] [1,2,7,13,8,14] rfl,trivial⟩
   ·refine q7 hT ?_
    exact⟨0,by decide,_,q9 [0,1,2] [1,2,7,13,14] rfl,(.inr (.inr ⟨rfl,rfl⟩))⟩
  ·refine q8 (q7 hT ?_)
   refine q8 (z6 ?_)
   refine u0 ?_
   exact⟨q9 [0,1,2] [7] rfl,trivial⟩
 refine q8 (q7 hT ?_)
 refine x6 ?_
 exact y9 [0,1,2] ⟨rfl,rfl⟩ rfl
set_option maxHeartbeats 2000000 in
set_option maxRecDepth 20000 in
theorem z2c (fn:FuncId)(c:Nat)(hc:c≤4096)(A:Nat→Nat→UInt8)(hA:∀ i k:Nat,i<3→k<c→AF Tryz.prog fn (i64 i :: i64 k :: []) [] (Q0 (.p (u8 (A i k))) [])) :
 AF Tryz.prog q1h [i64 3,i64 c,.clo (.func fn) []] [] (Q0 (.msl 0 1 0 3) [.cells z5 [.msl 1 1 0 c,.msl 2 1 0 c,.msl 3 1 0 c],.row z4 1 (bx (Q3 A c 0)),.row z4 1 (bx (Q3 A c 1)),.row z4 1 (bx (Q3 A c 2))]):=by
 refine u9 hT q1i rfl rfl q1j rfl ?_
 refine q8 (q7 hT ?_)
 refine y8 ⟨⟨43,[(1,i64 c),(2,.clo (.func fn) []),(7,.msl 0 1 0 3)]⟩,[.cells z5 [.p (.raw (.slice none 0 0)),.p (.raw (.slice none 0 0)),.p (.raw (.slice none 0 0))]]⟩ True (q7 hT ?_) (fun _=>?_)
 ·refine⟨⟨rfl,by decide,by decide,by decide⟩,?_⟩
  exact⟨Wk.trans (J3 0 [.raw (.slice none 0 0),.raw (.slice none 0 0),.raw (.slice none 0 0)] rfl rfl (by decide)) (q9 [0] [1,2,7] rfl),trivial⟩
 refine y8 ⟨⟨43,[(7,.msl 0 1 0 3)]⟩,[.cells z5 [.msl 1 1 0 c,.msl 2 1 0 c,.msl 3 1 0 c],.row z4 1 (bx (Q3 A c 0)),.row z4 1 (bx (Q3 A c 1)),.row z4 1 (bx (Q3 A c 2))]⟩ True (q8 (q7 hT ?_)) (fun _=>?_)
 ·refine z7 ?_
  refine w7 (fun n s=>(n=3∧s=⟨⟨43,[(1,i64 c),(2,.clo (.func fn) []),(7,.msl 0 1 0 3),(13,i64 3),(14,i64 0)]⟩,[.cells z5 [.p (.raw (.slice none 0 0)),.p (.raw (.slice none 0 0)),.p (.raw (.slice none 0 0))]]⟩)∨(n=2∧s=⟨⟨43,[(1,i64 c),(2,.clo (.func fn) []),(7,.msl 0 1 0 3),(13,i64 3),(14,i64 1)]⟩,[.cells z5 [.msl 1 1 0 c,.p (.raw (.slice none 0 0)),.p (.raw (.slice none 0 0))],.row z4 1 (bx (Q3 A c 0))]⟩)∨(n=1∧s=⟨⟨43,[(1,i64 c),(2,.clo (.func fn) []),(7,.msl 0 1 0 3),(13,i64 3),(14,i64 2)]⟩,[.cells z5 [.msl 1 1 0 c,.msl 2 1 0 c,.p (.raw (.slice none 0 0))],.row z4 1 (bx (Q3 A c 0)),.row z4 1 (bx (Q3 A c 1))]⟩)∨(n=0∧s=⟨⟨43,[(1,i64 c),(2,.clo (.func fn) []),(7,.msl 0 1 0 3),(13,i64 3),(14,i64 3)]⟩,[.cells z5 [.msl 1 1 0 c,.msl 2 1 0 c,.msl 3 1 0 c],.row z4 1 (bx (Q3 A c 0)),.row z4 1 (bx (Q3 A c 1)),.row z4 1 (bx (Q3 A c 2))]⟩)) 3 ⟨⟨43,_⟩,_⟩ (q9 [0] [1,2,7,13,14] rfl) (.inl ⟨rfl,rfl⟩) ?_
  rintro n s (⟨rfl,rfl⟩|⟨rfl,rfl⟩|⟨rfl,rfl⟩|⟨rfl,rfl⟩)
  ·refine q8 (q7 hT ?_)
   refine q8 (z6 ?_)
   refine z9 ?_
   refine y8 ⟨⟨43,[(1,i64 c),(2,.clo (.func fn) []),(7,.msl 0 1 0 3),(13,i64 3),(8,i64 0),(14,i64 0)]⟩,[.cells z5 [.msl 1 1 0 c,.p (.raw (.slice none 0 0)),.p (.raw (.slice none 0 0))],.row z4 1 (bx (Q3 A c 0))]⟩ True (z7 ?_) (fun _=>?_)
   ·refine q8 (q7 hT ?_)
    refine w6 (fun st=>∃ X,X=bx (Y2 A c 0 0)∧st=⟨⟨43,[(1,i64 c),(2,.clo (.func fn) []),(7,.msl 0 1 0 3),(13,i64 3),(8,i64 0),(14,i64 0)]⟩,[.cells z5 [.msl 1 1 0 c,.p (.raw (.slice none 0 0)),.p (.raw (.slice none 0 0))],.row z4 1 (X)]⟩) (q7 hT ?_) ?_
    ·refine⟨⟨rfl,by omega,by show (c:Int)*1≤_;omega,by omega⟩,?_⟩
     refine⟨by decide,?_⟩
     exact⟨_,q9 [0,1] [1,2,7,13,8,14] rfl,_,z4a A c 0,rfl⟩
    rintro _ ⟨X0,hX0,rfl⟩
    refine q8 (q7 hT ?_)
    refine⟨by decide,?_⟩
    refine z7 ?_
    refine w7 (fun n s=>∃ (k:Nat) (j:Int),n+k=c∧j=k∧s=⟨⟨43,[(1,i64 c),(2,.clo (.func fn) []),(7,.msl 0 1 0 3),(13,i64 3),(8,i64 0),(14,i64 0),(26,i64 c),(27,i64 j)]⟩,[.cells z5 [.msl 1 1 0 c,.p (.raw (.slice none 0 0)),.p (.raw (.slice none 0 0))],.row z4 1 (bx (Y2 A c 0 k))]⟩) c ⟨⟨43,_⟩,_⟩ (q9 [0,1] [1,2,7,13,8,14,26,27] rfl) ⟨0,0,by omega,rfl,by rw[hX0];rfl⟩ ?_
    rintro n2 s ⟨k,j,hnk,hj,rfl⟩
    refine q8 (q7 hT ?_)
    refine q8 (z6 (x7 (fun h=>?_) (fun h=>?_)))
    ·have h:=of_decide_eq_true (show decide (j<(c:Int))=true from h)
     refine z9 ?_
     have w:=hA 0 k (by decide) (by omega)
     rw[← hj]at w
     have w:AF Tryz.prog fn ([i64 0,i64 j]++[]) [] (Q0 (.p (u8 (A 0 k))) []):=w
     have hset:=q0b A (c:=c) 0 (k:=k) (by omega)
     have hjk:0+j.toNat=k:=by omega
     have hlen:(bx (Y2 A c 0 k)).length=c:=by rw[u6,Y6 A 0 (by omega)]
     obtain⟨v,hv⟩:∃ v,(bx (Y2 A c 0 k))[0+j.toNat]?=some [u8 v]:=by rw[hjk];exact q6h (by rw[Y6 A 0 (by omega)];omega)
     refine w6 (fun st=>∃ X,X=bx (Y2 A c 0 (k+1))∧st=⟨⟨43,[(1,i64 c),(2,.clo (.func fn) []),(7,.msl 0 1 0 3),(13,i64 3),(8,i64 0),(14,i64 0),(26,i64 c),(27,i64 j)]⟩,[.cells z5 [.msl 1 1 0 c,.p (.raw (.slice none 0 0)),.p (.raw (.slice none 0 0))],.row z4 1 (X)]⟩) (z7 (q8 (q7 hT ?_))) ?_
     ·refine w9 [10] [] hT z8 (by rfl) ?_
      refine⟨by decide,?_⟩
      refine⟨_,u5 w _ rfl rfl,?_⟩
      refine⟨⟨by omega,by omega⟩,?_⟩
      refine u7 hv ?_
      repeat first|refine⟨rfl,?_⟩|refine⟨⟨_,u5 w _ rfl rfl,rfl⟩,?_⟩|refine⟨⟨by decide,rfl⟩,?_⟩|refine⟨⟨⟨by omega,by omega⟩,rfl⟩,?_⟩
      refine⟨_,q9 [0,1] [1,2,7,13,8,14,26,27] rfl,_,?_,rfl⟩
      show List.set (bx (Y2 A c 0 k)) (0+j.toNat) [u8 (A 0 k)]=_
      rw[hjk,hset]
     ·rintro _ ⟨X,rfl,rfl⟩
      refine q7 hT ?_
      exact⟨n2 - 1,by omega,_,q9 [0,1] [1,2,7,13,8,14,26,27] rfl,k+1,IntKind.i64.wrap (j+1),by omega,by rw[x9 _ (by omega) (by omega)];omega,rfl⟩
    ·have h:=of_decide_eq_false (show decide (j<(c:Int))=false from h)
     rw[show k=c by omega,q0a]
     refine u0 ?_
     exact⟨q9 [0,1] [1,2,7,13,8,14] rfl,trivial⟩
   ·refine q7 hT ?_
    exact⟨2,by decide,_,q9 [0,1] [1,2,7,13,14] rfl,(.inr (.inl ⟨rfl,rfl⟩))⟩
  ·refine q8 (q7 hT ?_)
   refine q8 (z6 ?_)
   refine z9 ?_
   refine y8 ⟨⟨43,[(1,i64 c),(2,.clo (.func fn) []),(7,.msl 0 1 0 3),(13,i64 3),(8,i64 1),(14,i64 1)]⟩,[.cells z5 [.msl 1 1 0 c,.msl 2 1 0 c,.p (.raw (.slice none 0 0))],.row z4 1 (bx (Q3 A c 0)),.row z4 1 (bx (Q3 A c 1))]⟩ True (z7 ?_) (fun _=>?_)
   ·refine q8 (q7 hT ?_)
    refine w6 (fun st=>∃ X,X=bx (Y2 A c 1 0)∧st=⟨⟨43,[(1,i64 c),(2,.clo (.func fn) []),(7,.msl 0 1 0 3),(13,i64 3),(8,i64 1),(14,i64 1)]⟩,[.cells z5 [.msl 1 1 0 c,.msl 2 1 0 c,.p (.raw (.slice none 0 0))],.row z4 1 (bx (Q3 A c 0)),.row z4 1 (X)]⟩) (q7 hT ?_) ?_
    ·refine⟨⟨rfl,by omega,by show (c:Int)*1≤_;omega,by omega⟩,?_⟩
     refine⟨by decide,?_⟩
     exact⟨_,q9 [0,1,2] [1,2,7,13,8,14] rfl,_,z4a A c 1,rfl⟩
    rintro _ ⟨X0,hX0,rfl⟩
    refine q8 (q7 hT ?_)
    refine⟨by decide,?_⟩
    refine z7 ?_
    refine w7 (fun n s=>∃ (k:Nat) (j:Int),n+k=c∧j=k∧s=⟨⟨43,[(1,i64 c),(2,.clo (.func fn) []),(7,.msl 0 1 0 3),(13,i64 3),(8,i64 1),(14,i64 1),(26,i64 c),(27,i64 j)]⟩,[.cells z5 [.msl 1 1 0 c,.msl 2 1 0 c,.p (.raw (.slice none 0 0))],.row z4 1 (bx (Q3 A c 0)),.row z4 1 (bx (Y2 A c 1 k))]⟩) c ⟨⟨43,_⟩,_⟩ (q9 [0,1,2] [1,2,7,13,8,14,26,27] rfl) ⟨0,0,by omega,rfl,by rw[hX0];rfl⟩ ?_
    rintro n2 s ⟨k,j,hnk,hj,rfl⟩
    refine q8 (q7 hT ?_)
    refine q8 (z6 (x7 (fun h=>?_) (fun h=>?_)))
    ·have h:=of_decide_eq_true (show decide (j<(c:Int))=true from h)
     refine z9 ?_
     have w:=hA 1 k (by decide) (by omega)
     rw[← hj]at w
     have w:AF Tryz.prog fn ([i64 1,i64 j]++[]) [] (Q0 (.p (u8 (A 1 k))) []):=w
     have hset:=q0b A (c:=c) 1 (k:=k) (by omega)
     have hjk:0+j.toNat=k:=by omega
     have hlen:(bx (Y2 A c 1 k)).length=c:=by rw[u6,Y6 A 1 (by omega)]
     obtain⟨v,hv⟩:∃ v,(bx (Y2 A c 1 k))[0+j.toNat]?=some [u8 v]:=by rw[hjk];exact q6h (by rw[Y6 A 1 (by omega)];omega)
     refine w6 (fun st=>∃ X,X=bx (Y2 A c 1 (k+1))∧st=⟨⟨43,[(1,i64 c),(2,.clo (.func fn) []),(7,.msl 0 1 0 3),(13,i64 3),(8,i64 1),(14,i64 1),(26,i64 c),(27,i64 j)]⟩,[.cells z5 [.msl 1 1 0 c,.msl 2 1 0 c,.p (.raw (.slice none 0 0))],.row z4 1 (bx (Q3 A c 0)),.row z4 1 (X)]⟩) (z7 (q8 (q7 hT ?_))) ?_
     ·refine w9 [10] [] hT z8 (by rfl) ?_
      refine⟨by decide,?_⟩
      refine⟨_,u5 w _ rfl rfl,?_⟩
      refine⟨⟨by omega,by omega⟩,?_⟩
      refine u7 hv ?_
      repeat first|refine⟨rfl,?_⟩|refine⟨⟨_,u5 w _ rfl rfl,rfl⟩,?_⟩|refine⟨⟨by decide,rfl⟩,?_⟩|refine⟨⟨⟨by omega,by omega⟩,rfl⟩,?_⟩
      refine⟨_,q9 [0,1,2] [1,2,7,13,8,14,26,27] rfl,_,?_,rfl⟩
      show List.set (bx (Y2 A c 1 k)) (0+j.toNat) [u8 (A 1 k)]=_
      rw[hjk,hset]
     ·rintro _ ⟨X,rfl,rfl⟩
      refine q7 hT ?_
      exact⟨n2 - 1,by omega,_,q9 [0,1,2] [1,2,7,13,8,14,26,27] rfl,k+1,IntKind.i64.wrap (j+1),by omega,by rw[x9 _ (by omega) (by omega)];omega,rfl⟩
    ·have h:=of_decide_eq_false (show decide (j<(c:Int))=false from h)
     rw[show k=c by omega,q0a]
     refine u0 ?_
     exact⟨q9 [0,1,2] [1,2,7,13,8,14] rfl,trivial⟩
   ·refine q7 hT ?_
    exact⟨1,by decide,_,q9 [0,1,2] [1,2,7,13,14] rfl,(.inr (.inr (.inl ⟨rfl,rfl⟩)))⟩
  ·refine q8 (q7 hT ?_)
   refine q8 (z6 ?_)
   refine z9 ?_
   refine y8 ⟨⟨43,[(1,i64 c),(2,.clo (.func fn) []),(7,.msl 0 1 0 3),(13,i64 3),(8,i64 2),(14,i64 2)]⟩,[.cells z5 [.msl 1 1 0 c,.msl 2 1 0 c,.msl 3 1 0 c],.row z4 1 (bx (Q3 A c 0)),.row z4 1 (bx (Q3 A c 1)),.row z4 1 (bx (Q3 A c 2))]⟩ True (z7 ?_) (fun _=>?_)
   ·refine q8 (q7 hT ?_)
    refine w6 (fun st=>∃ X,X=bx (Y2 A c 2 0)∧st=⟨⟨43,[(1,i64 c),(2,.clo (.func fn) []),(7,.msl 0 1 0 3),(13,i64 3),(8,i64 2),(14,i64 2)]⟩,[.cells z5 [.msl 1 1 0 c,.msl 2 1 0 c,.msl 3 1 0 c],.row z4 1 (bx (Q3 A c 0)),.row z4 1 (bx (Q3 A c 1)),.row z4 1 (X)]⟩) (q7 hT ?_) ?_
    ·refine⟨⟨rfl,by omega,by show (c:Int)*1≤_;omega,by omega⟩,?_⟩
     refine⟨by decide,?_⟩
     exact⟨_,q9 [0,1,2,3] [1,2,7,13,8,14] rfl,_,z4a A c 2,rfl⟩
    rintro _ ⟨X0,hX0,rfl⟩
    refine q8 (q7 hT ?_)
    refine⟨by decide,?_⟩
    refine z7 ?_
    refine w7 (fun n s=>∃ (k:Nat) (j:Int),n+k=c∧j=k∧s=⟨⟨43,[(1,i64 c),(2,.clo (.func fn) []),(7,.msl 0 1 0 3),(13,i64 3),(8,i64 2),(14,i64 2),(26,i64 c),(27,i64 j)]⟩,[.cells z5 [.msl 1 1 0 c,.msl 2 1 0 c,.msl 3 1 0 c],.row z4 1 (bx (Q3 A c 0)),.row z4 1 (bx (Q3 A c 1)),.row z4 1 (bx (Y2 A c 2 k))]⟩) c ⟨⟨43,_⟩,_⟩ (q9 [0,1,2,3] [1,2,7,13,8,14,26,27] rfl) ⟨0,0,by omega,rfl,by rw[hX0];rfl⟩ ?_
    rintro n2 s ⟨k,j,hnk,hj,rfl⟩
    refine q8 (q7 hT ?_)
    refine q8 (z6 (x7 (fun h=>?_) (fun h=>?_)))
    ·have h:=of_decide_eq_true (show decide (j<(c:Int))=true from h)
     refine z9 ?_
     have w:=hA 2 k (by decide) (by omega)
     rw[← hj]at w
     have w:AF Tryz.prog fn ([i64 2,i64 j]++[]) [] (Q0 (.p (u8 (A 2 k))) []):=w
     have hset:=q0b A (c:=c) 2 (k:=k) (by omega)
     have hjk:0+j.toNat=k:=by omega
     have hlen:(bx (Y2 A c 2 k)).length=c:=by rw[u6,Y6 A 2 (by omega)]
     obtain⟨v,hv⟩:∃ v,(bx (Y2 A c 2 k))[0+j.toNat]?=some [u8 v]:=by rw[hjk];exact q6h (by rw[Y6 A 2 (by omega)];omega)
     refine w6 (fun st=>∃ X,X=bx (Y2 A c 2 (k+1))∧st=⟨⟨43,[(1,i64 c),(2,.clo (.func fn) []),(7,.msl 0 1 0 3),(13,i64 3),(8,i64 2),(14,i64 2),(26,i64 c),(27,i64 j)]⟩,[.cells z5 [.msl 1 1 0 c,.msl 2 1 0 c,.msl 3 1 0 c],.row z4 1 (bx (Q3 A c 0)),.row z4 1 (bx (Q3 A c 1)),.row z4 1 (X)]⟩) (z7 (q8 (q7 hT ?_))) ?_
     ·refine w9 [10] [] hT z8 (by rfl) ?_
      refine⟨by decide,?_⟩
      refine⟨_,u5 w _ rfl rfl,?_⟩
      refine⟨⟨by omega,by omega⟩,?_⟩
      refine u7 hv ?_
      repeat first|refine⟨rfl,?_⟩|refine⟨⟨_,u5 w _ rfl rfl,rfl⟩,?_⟩|refine⟨⟨by decide,rfl⟩,?_⟩|refine⟨⟨⟨by omega,by omega⟩,rfl⟩,?_⟩
      refine⟨_,q9 [0,1,2,3] [1,2,7,13,8,14,26,27] rfl,_,?_,rfl⟩
      show List.set (bx (Y2 A c 2 k)) (0+j.toNat) [u8 (A 2 k)]=_
      rw[hjk,hset]
     ·rintro _ ⟨X,rfl,rfl⟩
      refine q7 hT ?_
      exact⟨n2 - 1,by omega,_,q9 [0,1,2,3] [1,2,7,13,8,14,26,27] rfl,k+1,IntKind.i64.wrap (j+1),by omega,by rw[x9 _ (by omega) (by omega)];omega,rfl⟩
    ·have h:=of_decide_eq_false (show decide (j<(c:Int))=false from h)
     rw[show k=c by omega,q0a]
     refine u0 ?_
     exact⟨q9 [0,1,2,3] [1,2,7,13,8,14] rfl,trivial⟩
   ·refine q7 hT ?_
    exact⟨0,by decide,_,q9 [0,1,2,3] [1,2,7,13,14] rfl,(.inr (.inr (.inr ⟨rfl,rfl⟩)))⟩
  ·refine q8 (q7 hT ?_)
   refine q8 (z6 ?_)
   refine u0 ?_
   exact⟨q9 [0,1,2,3] [7] rfl,trivial⟩
 refine q8 (q7 hT ?_)
 refine x6 ?_
 exact y9 [0,1,2,3] ⟨rfl,rfl⟩ rfl
set_option maxHeartbeats 2000000 in
set_option maxRecDepth 20000 in
theorem z2d (fn:FuncId)(c:Nat)(hc:c≤4096)(A:Nat→Nat→UInt8)(hA:∀ i k:Nat,i<4→k<c→AF Tryz.prog fn (i64 i :: i64 k :: []) [] (Q0 (.p (u8 (A i k))) [])) :
 AF Tryz.prog q1h [i64 4,i64 c,.clo (.func fn) []] [] (Q0 (.msl 0 1 0 4) [.cells z5 [.msl 1 1 0 c,.msl 2 1 0 c,.msl 3 1 0 c,.msl 4 1 0 c],.row z4 1 (bx (Q3 A c 0)),.row z4 1 (bx (Q3 A c 1)),.row z4 1 (bx (Q3 A c 2)),.row z4 1 (bx (Q3 A c 3))]):=by
 refine u9 hT q1i rfl rfl q1j rfl ?_
 refine q8 (q7 hT ?_)
 refine y8 ⟨⟨43,[(1,i64 c),(2,.clo (.func fn) []),(7,.msl 0 1 0 4)]⟩,[.cells z5 [.p (.raw (.slice none 0 0)),.p (.raw (.slice none 0 0)),.p (.raw (.slice none 0 0)),.p (.raw (.slice none 0 0))]]⟩ True (q7 hT ?_) (fun _=>?_)
 ·refine⟨⟨rfl,by decide,by decide,by decide⟩,?_⟩
  exact⟨Wk.trans (J3 0 [.raw (.slice none 0 0),.raw (.slice none 0 0),.raw (.slice none 0 0),.raw (.slice none 0 0)] rfl rfl (by decide)) (q9 [0] [1,2,7] rfl),trivial⟩
 refine y8 ⟨⟨43,[(7,.msl 0 1 0 4)]⟩,[.cells z5 [.msl 1 1 0 c,.msl 2 1 0 c,.msl 3 1 0 c,.msl 4 1 0 c],.row z4 1 (bx (Q3 A c 0)),.row z4 1 (bx (Q3 A c 1)),.row z4 1 (bx (Q3 A c 2)),.row z4 1 (bx (Q3 A c 3))]⟩ True (q8 (q7 hT ?_)) (fun _=>?_)
 ·refine z7 ?_
  refine w7 (fun n s=>(n=4∧s=⟨⟨43,[(1,i64 c),(2,.clo (.func fn) []),(7,.msl 0 1 0 4),(13,i64 4),(14,i64 0)]⟩,[.cells z5 [.p (.raw (.slice none 0 0)),.p (.raw (.slice none 0 0)),.p (.raw (.slice none 0 0)),.p (.raw (.slice none 0 0))]]⟩)∨(n=3∧s=⟨⟨43,[(1,i64 c),(2,.clo (.func fn) []),(7,.msl 0 1 0 4),(13,i64 4),(14,i64 1)]⟩,[.cells z5 [.msl 1 1 0 c,.p (.raw (.slice none 0 0)),.p (.raw (.slice none 0 0)),.p (.raw (.slice none 0 0))],.row z4 1 (bx (Q3 A c 0))]⟩)∨(n=2∧s=⟨⟨43,[(1,i64 c),(2,.clo (.func fn) []),(7,.msl 0 1 0 4),(13,i64 4),(14,i64 2)]⟩,[.cells z5 [.msl 1 1 0 c,.msl 2 1 0 c,.p (.raw (.slice none 0 0)),.p (.raw (.slice none 0 0))],.row z4 1 (bx (Q3 A c 0)),.row z4 1 (bx (Q3 A c 1))]⟩)∨(n=1∧s=⟨⟨43,[(1,i64 c),(2,.clo (.func fn) []),(7,.msl 0 1 0 4),(13,i64 4),(14,i64 3)]⟩,[.cells z5 [.msl 1 1 0 c,.msl 2 1 0 c,.msl 3 1 0 c,.p (.raw (.slice none 0 0))],.row z4 1 (bx (Q3 A c 0)),.row z4 1 (bx (Q3 A c 1)),.row z4 1 (bx (Q3 A c 2))]⟩)∨(n=0∧s=⟨⟨43,[(1,i64 c),(2,.clo (.func fn) []),(7,.msl 0 1 0 4),(13,i64 4),(14,i64 4)]⟩,[.cells z5 [.msl 1 1 0 c,.msl 2 1 0 c,.msl 3 1 0 c,.msl 4 1 0 c],.row z4 1 (bx (Q3 A c 0)),.row z4 1 (bx (Q3 A c 1)),.row z4 1 (bx (Q3 A c 2)),.row z4 1 (bx (Q3 A c 3))]⟩)) 4 ⟨⟨43,_⟩,_⟩ (q9 [0] [1,2,7,13,14] rfl) (.inl ⟨rfl,rfl⟩) ?_
  rintro n s (⟨rfl,rfl⟩|⟨rfl,rfl⟩|⟨rfl,rfl⟩|⟨rfl,rfl⟩|⟨rfl,rfl⟩)
  ·refine q8 (q7 hT ?_)
   refine q8 (z6 ?_)
   refine z9 ?_
   refine y8 ⟨⟨43,[(1,i64 c),(2,.clo (.func fn) []),(7,.msl 0 1 0 4),(13,i64 4),(8,i64 0),(14,i64 0)]⟩,[.cells z5 [.msl 1 1 0 c,.p (.raw (.slice none 0 0)),.p (.raw (.slice none 0 0)),.p (.raw (.slice none 0 0))],.row z4 1 (bx (Q3 A c 0))]⟩ True (z7 ?_) (fun _=>?_)
   ·refine q8 (q7 hT ?_)
    refine w6 (fun st=>∃ X,X=bx (Y2 A c 0 0)∧st=⟨⟨43,[(1,i64 c),(2,.clo (.func fn) []),(7,.msl 0 1 0 4),(13,i64 4),(8,i64 0),(14,i64 0)]⟩,[.cells z5 [.msl 1 1 0 c,.p (.raw (.slice none 0 0)),.p (.raw (.slice none 0 0)),.p (.raw (.slice none 0 0))],.row z4 1 (X)]⟩) (q7 hT ?_) ?_
    ·refine⟨⟨rfl,by omega,by show (c:Int)*1≤_;omega,by omega⟩,?_⟩
     refine⟨by decide,?_⟩
     exact⟨_,q9 [0,1] [1,2,7,13,8,14] rfl,_,z4a A c 0,rfl⟩
    rintro _ ⟨X0,hX0,rfl⟩
    refine q8 (q7 hT ?_)
    refine⟨by decide,?_⟩
    refine z7 ?_
    refine w7 (fun n s=>∃ (k:Nat) (j:Int),n+k=c∧j=k∧s=⟨⟨43,[(1,i64 c),(2,.clo (.func fn) []),(7,.msl 0 1 0 4),(13,i64 4),(8,i64 0),(14,i64 0),(26,i64 c),(27,i64 j)]⟩,[.cells z5 [.msl 1 1 0 c,.p (.raw (.slice none 0 0)),.p (.raw (.slice none 0 0)),.p (.raw (.slice none 0 0))],.row z4 1 (bx (Y2 A c 0 k))]⟩) c ⟨⟨43,_⟩,_⟩ (q9 [0,1] [1,2,7,13,8,14,26,27] rfl) ⟨0,0,by omega,rfl,by rw[hX0];rfl⟩ ?_
    rintro n2 s ⟨k,j,hnk,hj,rfl⟩
    refine q8 (q7 hT ?_)
    refine q8 (z6 (x7 (fun h=>?_) (fun h=>?_)))
    ·have h:=of_decide_eq_true (show decide (j<(c:Int))=true from h)
     refine z9 ?_
     have w:=hA 0 k (by decide) (by omega)
     rw[← hj]at w
     have w:AF Tryz.prog fn ([i64 0,i64 j]++[]) [] (Q0 (.p (u8 (A 0 k))) []):=w
     have hset:=q0b A (c:=c) 0 (k:=k) (by omega)
     have hjk:0+j.toNat=k:=by omega
     have hlen:(bx (Y2 A c 0 k)).length=c:=by rw[u6,Y6 A 0 (by omega)]
     obtain⟨v,hv⟩:∃ v,(bx (Y2 A c 0 k))[0+j.toNat]?=some [u8 v]:=by rw[hjk];exact q6h (by rw[Y6 A 0 (by omega)];omega)
     refine w6 (fun st=>∃ X,X=bx (Y2 A c 0 (k+1))∧st=⟨⟨43,[(1,i64 c),(2,.clo (.func fn) []),(7,.msl 0 1 0 4),(13,i64 4),(8,i64 0),(14,i64 0),(26,i64 c),(27,i64 j)]⟩,[.cells z5 [.msl 1 1 0 c,.p (.raw (.slice none 0 0)),.p (.raw (.slice none 0 0)),.p (.raw (.slice none 0 0))],.row z4 1 (X)]⟩) (z7 (q8 (q7 hT ?_))) ?_
     ·refine w9 [10] [] hT z8 (by rfl) ?_
      refine⟨by decide,?_⟩
      refine⟨_,u5 w _ rfl rfl,?_⟩
      refine⟨⟨by omega,by omega⟩,?_⟩
      refine u7 hv ?_
      repeat first|refine⟨rfl,?_⟩|refine⟨⟨_,u5 w _ rfl rfl,rfl⟩,?_⟩|refine⟨⟨by decide,rfl⟩,?_⟩|refine⟨⟨⟨by omega,by omega⟩,rfl⟩,?_⟩
      refine⟨_,q9 [0,1] [1,2,7,13,8,14,26,27] rfl,_,?_,rfl⟩
      show List.set (bx (Y2 A c 0 k)) (0+j.toNat) [u8 (A 0 k)]=_
      rw[hjk,hset]
     ·rintro _ ⟨X,rfl,rfl⟩
      refine q7 hT ?_
      exact⟨n2 - 1,by omega,_,q9 [0,1] [1,2,7,13,8,14,26,27] rfl,k+1,IntKind.i64.wrap (j+1),by omega,by rw[x9 _ (by omega) (by omega)];omega,rfl⟩
    ·have h:=of_decide_eq_false (show decide (j<(c:Int))=false from h)
     rw[show k=c by omega,q0a]
     refine u0 ?_
     exact⟨q9 [0,1] [1,2,7,13,8,14] rfl,trivial⟩
   ·refine q7 hT ?_
    exact⟨3,by decide,_,q9 [0,1] [1,2,7,13,14] rfl,(.inr (.inl ⟨rfl,rfl⟩))⟩
  ·refine q8 (q7 hT ?_)
   refine q8 (z6 ?_)
   refine z9 ?_
   refine y8 ⟨⟨43,[(1,i64 c),(2,.clo (.func fn) []),(7,.msl 0 1 0 4),(13,i64 4),(8,i64 1),(14,i64 1)]⟩,[.cells z5 [.msl 1 1 0 c,.msl 2 1 0 c,.p (.raw (.slice none 0 0)),.p (.raw (.slice none 0 0))],.row z4 1 (bx (Q3 A c 0)),.row z4 1 (bx (Q3 A c 1))]⟩ True (z7 ?_) (fun _=>?_)
   ·refine q8 (q7 hT ?_)
    refine w6 (fun st=>∃ X,X=bx (Y2 A c 1 0)∧st=⟨⟨43,[(1,i64 c),(2,.clo (.func fn) []),(7,.msl 0 1 0 4),(13,i64 4),(8,i64 1),(14,i64 1)]⟩,[.cells z5 [.msl 1 1 0 c,.msl 2 1 0 c,.p (.raw (.slice none 0 0)),.p (.raw (.slice none 0 0))],.row z4 1 (bx (Q3 A c 0)),.row z4 1 (X)]⟩) (q7 hT ?_) ?_
    ·refine⟨⟨rfl,by omega,by show (c:Int)*1≤_;omega,by omega⟩,?_⟩
     refine⟨by decide,?_⟩
     exact⟨_,q9 [0,1,2] [1,2,7,13,8,14] rfl,_,z4a A c 1,rfl⟩
    rintro _ ⟨X0,hX0,rfl⟩
    refine q8 (q7 hT ?_)
    refine⟨by decide,?_⟩
    refine z7 ?_
    refine w7 (fun n s=>∃ (k:Nat) (j:Int),n+k=c∧j=k∧s=⟨⟨43,[(1,i64 c),(2,.clo (.func fn) []),(7,.msl 0 1 0 4),(13,i64 4),(8,i64 1),(14,i64 1),(26,i64 c),(27,i64 j)]⟩,[.cells z5 [.msl 1 1 0 c,.msl 2 1 0 c,.p (.raw (.slice none 0 0)),.p (.raw (.slice none 0 0))],.row z4 1 (bx (Q3 A c 0)),.row z4 1 (bx (Y2 A c 1 k))]⟩) c ⟨⟨43,_⟩,_⟩ (q9 [0,1,2] [1,2,7,13,8,14,26,27] rfl) ⟨0,0,by omega,rfl,by rw[hX0];rfl⟩ ?_
    rintro n2 s ⟨k,j,hnk,hj,rfl⟩
    refine q8 (q7 hT ?_)
    refine q8 (z6 (x7 (fun h=>?_) (fun h=>?_)))
    ·have h:=of_decide_eq_true (show decide (j<(c:Int))=true from h)
     refine z9 ?_
     have w:=hA 1 k (by decide) (by omega)
     rw[← hj]at w
     have w:AF Tryz.prog fn ([i64 1,i64 j]++[]) [] (Q0 (.p (u8 (A 1 k))) []):=w
     have hset:=q0b A (c:=c) 1 (k:=k) (by omega)
     have hjk:0+j.toNat=k:=by omega
     have hlen:(bx (Y2 A c 1 k)).length=c:=by rw[u6,Y6 A 1 (by omega)]
     obtain⟨v,hv⟩:∃ v,(bx (Y2 A c 1 k))[0+j.toNat]?=some [u8 v]:=by rw[hjk];exact q6h (by rw[Y6 A 1 (by omega)];omega)
     refine w6 (fun st=>∃ X,X=bx (Y2 A c 1 (k+1))∧st=⟨⟨43,[(1,i64 c),(2,.clo (.func fn) []),(7,.msl 0 1 0 4),(13,i64 4),(8,i64 1),(14,i64 1),(26,i64 c),(27,i64 j)]⟩,[.cells z5 [.msl 1 1 0 c,.msl 2 1 0 c,.p (.raw (.slice none 0 0)),.p (.raw (.slice none 0 0))],.row z4 1 (bx (Q3 A c 0)),.row z4 1 (X)]⟩) (z7 (q8 (q7 hT ?_))) ?_
     ·refine w9 [10] [] hT z8 (by rfl) ?_
      refine⟨by decide,?_⟩
      refine⟨_,u5 w _ rfl rfl,?_⟩
      refine⟨⟨by omega,by omega⟩,?_⟩
      refine u7 hv ?_
      repeat first|refine⟨rfl,?_⟩|refine⟨⟨_,u5 w _ rfl rfl,rfl⟩,?_⟩|refine⟨⟨by decide,rfl⟩,?_⟩|refine⟨⟨⟨by omega,by omega⟩,rfl⟩,?_⟩
      refine⟨_,q9 [0,1,2] [1,2,7,13,8,14,26,27] rfl,_,?_,rfl⟩
      show List.set (bx (Y2 A c 1 k)) (0+j.toNat) [u8 (A 1 k)]=_
      rw[hjk,hset]
     ·rintro _ ⟨X,rfl,rfl⟩
      refine q7 hT ?_
      exact⟨n2 - 1,by omega,_,q9 [0,1,2] [1,2,7,13,8,14,26,27] rfl,k+1,IntKind.i64.wrap (j+1),by omega,by rw[x9 _ (by omega) (by omega)];omega,rfl⟩
    ·have h:=of_decide_eq_false (show decide (j<(c:Int))=false from h)
     rw[show k=c by omega,q0a]
     refine u0 ?_
     exact⟨q9 [0,1,2] [1,2,7,13,8,14] rfl,trivial⟩
   ·refine q7 hT ?_
    exact⟨2,by decide,_,q9 [0,1,2] [1,2,7,13,14] rfl,(.inr (.inr (.inl ⟨rfl,rfl⟩)))⟩
  ·refine q8 (q7 hT ?_)
   refine q8 (z6 ?_)
   refine z9 ?_
   refine y8 ⟨⟨43,[(1,i64 c),(2,.clo (.func fn) []),(7,.msl 0 1 0 4),(13,i64 4),(8,i64 2),(14,i64 2)]⟩,[.cells z5 [.msl 1 1 0 c,.msl 2 1 0 c,.msl 3 1 0 c,.p (.raw (.slice none 0 0))],.row z4 1 (bx (Q3 A c 0)),.row z4 1 (bx (Q3 A c 1)),.row z4 1 (bx (Q3 A c 2))]⟩ True (z7 ?_) (fun _=>?_)
   ·refine q8 (q7 hT ?_)
    refine w6 (fun st=>∃ X,X=bx (Y2 A c 2 0)∧st=⟨⟨43,[(1,i64 c),(2,.clo (.func fn) []),(7,.msl 0 1 0 4),(13,i64 4),(8,i64 2),(14,i64 2)]⟩,[.cells z5 [.msl 1 1 0 c,.msl 2 1 0 c,.msl 3 1 0 c,.p (.raw (.slice none 0 0))],.row z4 1 (bx (Q3 A c 0)),.row z4 1 (bx (Q3 A c 1)),.row z4 1 (X)]⟩) (q7 hT ?_) ?_
    ·refine⟨⟨rfl,by omega,by show (c:Int)*1≤_;omega,by omega⟩,?_⟩
     refine⟨by decide,?_⟩
     exact⟨_,q9 [0,1,2,3] [1,2,7,13,8,14] rfl,_,z4a A c 2,rfl⟩
    rintro _ ⟨X0,hX0,rfl⟩
    refine q8 (q7 hT ?_)
    refine⟨by decide,?_⟩
    refine z7 ?_
    refine w7 (fun n s=>∃ (k:Nat) (j:Int),n+k=c∧j=k∧s=⟨⟨43,[(1,i64 c),(2,.clo (.func fn) []),(7,.msl 0 1 0 4),(13,i64 4),(8,i64 2),(14,i64 2),(26,i64 c),(27,i64 j)]⟩,[.cells z5 [.msl 1 1 0 c,.msl 2 1 0 c,.msl 3 1 0 c,.p (.raw (.slice none 0 0))],.row z4 1 (bx (Q3 A c 0)),.row z4 1 (bx (Q3 A c 1)),.row z4 1 (bx (Y2 A c 2 k))]⟩) c ⟨⟨43,_⟩,_⟩ (q9 [0,1,2,3] [1,2,7,13,8,14,26,27] rfl) ⟨0,0,by omega,rfl,by rw[hX0];rfl⟩ ?_
    rintro n2 s ⟨k,j,hnk,hj,rfl⟩
    refine q8 (q7 hT ?_)
    refine q8 (z6 (x7 (fun h=>?_) (fun h=>?_)))
    ·have h:=of_decide_eq_true (show decide (j<(c:Int))=true from h)
     refine z9 ?_
     have w:=hA 2 k (by decide) (by omega)
     rw[← hj]at w
     have w:AF Tryz.prog fn ([i64 2,i64 j]++[]) [] (Q0 (.p (u8 (A 2 k))) []):=w
     have hset:=q0b A (c:=c) 2 (k:=k) (by omega)
     have hjk:0+j.toNat=k:=by omega
     have hlen:(bx (Y2 A c 2 k)).length=c:=by rw[u6,Y6 A 2 (by omega)]
     obtain⟨v,hv⟩:∃ v,(bx (Y2 A c 2 k))[0+j.toNat]?=some [u8 v]:=by rw[hjk];exact q6h (by rw[Y6 A 2 (by omega)];omega)
     refine w6 (fun st=>∃ X,X=bx (Y2 A c 2 (k+1))∧st=⟨⟨43,[(1,i64 c),(2,.clo (.func fn) []),(7,.msl 0 1 0 4),(13,i64 4),(8,i64 2),(14,i64 2),(26,i64 c),(27,i64 j)]⟩,[.cells z5 [.msl 1 1 0 c,.msl 2 1 0 c,.msl 3 1 0 c,.p (.raw (.slice none 0 0))],.row z4 1 (bx (Q3 A c 0)),.row z4 1 (bx (Q3 A c 1)),.row z4 1 (X)]⟩) (z7 (q8 (q7 hT ?_))) ?_
     ·refine w9 [10] [] hT z8 (by rfl) ?_
      refine⟨by decide,?_⟩
      refine⟨_,u5 w _ rfl rfl,?_⟩
      refine⟨⟨by omega,by omega⟩,?_⟩
      refine u7 hv ?_
      repeat first|refine⟨rfl,?_⟩|refine⟨⟨_,u5 w _ rfl rfl,rfl⟩,?_⟩|refine⟨⟨by decide,rfl⟩,?_⟩|refine⟨⟨⟨by omega,by omega⟩,rfl⟩,?_⟩
      refine⟨_,q9 [0,1,2,3] [1,2,7,13,8,14,26,27] rfl,_,?_,rfl⟩
      show List.set (bx (Y2 A c 2 k)) (0+j.toNat) [u8 (A 2 k)]=_
      rw[hjk,hset]
     ·rintro _ ⟨X,rfl,rfl⟩
      refine q7 hT ?_
      exact⟨n2 - 1,by omega,_,q9 [0,1,2,3] [1,2,7,13,8,14,26,27] rfl,k+1,IntKind.i64.wrap (j+1),by omega,by rw[x9 _ (by omega) (by omega)];omega,rfl⟩
    ·have h:=of_decide_eq_false (show decide (j<(c:Int))=false from h)
     rw[show k=c by omega,q0a]
     refine u0 ?_
     exact⟨q9 [0,1,2,3] [1,2,7,13,8,14] rfl,trivial⟩
   ·refine q7 hT ?_
    exact⟨1,by decide,_,q9 [0,1,2,3] [1,2,7,13,14] rfl,(.inr (.inr (.inr (.inl ⟨rfl,rfl⟩))))⟩
  ·refine q8 (q7 hT ?_)
   refine q8 (z6 ?_)
   refine z9 ?_
   refine y8 ⟨⟨43,[(1,i64 c),(2,.clo (.func fn) []),(7,.msl 0 1 0 4),(13,i64 4),(8,i64 3),(14,i64 3)]⟩,[.cells z5 [.msl 1 1 0 c,.msl 2 1 0 c,.msl 3 1 0 c,.msl 4 1 0 c],.row z4 1 (bx (Q3 A c 0)),.row z4 1 (bx (Q3 A c 1)),.row z4 1 (bx (Q3 A c 2)),.row z4 1 (bx (Q3 A c 3))]⟩ True (z7 ?_) (fun _=>?_)
   ·refine q8 (q7 hT ?_)
    refine w6 (fun st=>∃ X,X=bx (Y2 A c 3 0)∧st=⟨⟨43,[(1,i64 c),(2,.clo (.func fn) []),(7,.msl 0 1 0 4),(13,i64 4),(8,i64 3),(14,i64 3)]⟩,[.cells z5 [.msl 1 1 0 c,.msl 2 1 0 c,.msl 3 1 0 c,.msl 4 1 0 c],.row z4 1 (bx (Q3 A c 0)),.row z4 1 (bx (Q3 A c 1)),.row z4 1 (bx (Q3 A c 2)),.row z4 1 (X)]⟩) (q7 hT ?_) ?_
    ·refine⟨⟨rfl,by omega,by show (c:Int)*1≤_;omega,by omega⟩,?_⟩
     refine⟨by decide,?_⟩
     exact⟨_,q9 [0,1,2,3,4] [1,2,7,13,8,14] rfl,_,z4a A c 3,rfl⟩
    rintro _ ⟨X0,hX0,rfl⟩
    refine q8 (q7 hT ?_)
    refine⟨by decide,?_⟩
    refine z7 ?_
    refine w7 (fun n s=>∃ (k:Nat) (j:Int),n+k=c∧j=k∧s=⟨⟨43,[(1,i64 c),(2,.clo (.func fn) []),(7,.msl 0 1 0 4),(13,i64 4),(8,i64 3),(14,i64 3),(26,i64 c),(27,i64 j)]⟩,[.cells z5 [.msl 1 1 0 c,.msl 2 1 0 c,.msl 3 1 0 c,.msl 4 1 0 c],.row z4 1 (bx (Q3 A c 0)),.row z4 1 (bx (Q3 A c 1)),.row z4 1 (bx (Q3 A c 2)),.row z4 1 (bx (Y2 A c 3 k))]⟩) c ⟨⟨43,_⟩,_⟩ (q9 [0,1,2,3,4] [1,2,7,13,8,14,26,27] rfl) ⟨0,0,by omega,rfl,by rw[hX0];rfl⟩ ?_
    rintro n2 s ⟨k,j,hnk,hj,rfl⟩
    refine q8 (q7 hT ?_)
    refine q8 (z6 (x7 (fun h=>?_) (fun h=>?_)))
    ·have h:=of_decide_eq_true (show decide (j<(c:Int))=true from h)
     refine z9 ?_
     have w:=hA 3 k (by decide) (by omega)
     rw[← hj]at w
     have w:AF Tryz.prog fn ([i64 3,i64 j]++[]) [] (Q0 (.p (u8 (A 3 k))) []):=w
     have hset:=q0b A (c:=c) 3 (k:=k) (by omega)
     have hjk:0+j.toNat=k:=by omega
     have hlen:(bx (Y2 A c 3 k)).length=c:=by rw[u6,Y6 A 3 (by omega)]
     obtain⟨v,hv⟩:∃ v,(bx (Y2 A c 3 k))[0+j.toNat]?=some [u8 v]:=by rw[hjk];exact q6h (by rw[Y6 A 3 (by omega)];omega)
     refine w6 (fun st=>∃ X,X=bx (Y2 A c 3 (k+1))∧st=⟨⟨43,[(1,i64 c),(2,.clo (.func fn) []),(7,.msl 0 1 0 4),(13,i64 4),(8,i64 3),(14,i64 3),(26,i64 c),(27,i64 j)]⟩,[.cells z5 [.msl 1 1 0 c,.msl 2 1 0 c,.msl 3 1 0 c,.msl 4 1 0 c],.row z4 1 (bx (Q3 A c 0)),.row z4 1 (bx (Q3 A c 1)),.row z4 1 (bx (Q3 A c 2)),.row z4 1 (X)]⟩) (z7 (q8 (q7 hT ?_))) ?_
     ·refine w9 [10] [] hT z8 (by rfl) ?_
      refine⟨by decide,?_⟩
      refine⟨_,u5 w _ rfl rfl,?_⟩
      refine⟨⟨by omega,by omega⟩,?_⟩
      refine u7 hv ?_
      repeat first|refine⟨rfl,?_⟩|refine⟨⟨_,u5 w _ rfl rfl,rfl⟩,?_⟩|refine⟨⟨by decide,rfl⟩,?_⟩|refine⟨⟨⟨by omega,by omega⟩,rfl⟩,?_⟩
      refine⟨_,q9 [0,1,2,3,4] [1,2,7,13,8,14,26,27] rfl,_,?_,rfl⟩
      show List.set (bx (Y2 A c 3 k)) (0+j.toNat) [u8 (A 3 k)]=_
      rw[hjk,hset]
     ·rintro _ ⟨X,rfl,rfl⟩
      refine q7 hT ?_
      exact⟨n2 - 1,by omega,_,q9 [0,1,2,3,4] [1,2,7,13,8,14,26,27] rfl,k+1,IntKind.i64.wrap (j+1),by omega,by rw[x9 _ (by omega) (by omega)];omega,rfl⟩
    ·have h:=of_decide_eq_false (show decide (j<(c:Int))=false from h)
     rw[show k=c by omega,q0a]
     refine u0 ?_
     exact⟨q9 [0,1,2,3,4] [1,2,7,13,8,14] rfl,trivial⟩
   ·refine q7 hT ?_
    exact⟨0,by decide,_,q9 [0,1,2,3,4] [1,2,7,13,14] rfl,(.inr (.inr (.inr (.inr ⟨rfl,rfl⟩))))⟩
  ·refine q8 (q7 hT ?_)
   refine q8 (z6 ?_)
   refine u0 ?_
   exact⟨q9 [0,1,2,3,4] [7] rfl,trivial⟩
 refine q8 (q7 hT ?_)
 refine x6 ?_
 exact y9 [0,1,2,3,4] ⟨rfl,rfl⟩ rfl
set_option maxHeartbeats 2000000 in
set_option maxRecDepth 20000 in
theorem x5h (fn:FuncId)(x y:PV)(c:Nat)(hc:c≤4096)(A:Nat→Nat→UInt8)(hA:∀ i k:Nat,i<1→k<c→AF Tryz.prog fn (i64 i :: i64 k :: [.p x,.p y]) [] (Q0 (.p (u8 (A i k))) [])) :
 AF Tryz.prog q1h [i64 1,i64 c,.clo (.func fn) [.p x,.p y]] [] (Q0 (.msl 0 1 0 1) [.cells z5 [.msl 1 1 0 c],.row z4 1 (bx (Q3 A c 0))]):=by
 refine u9 hT q1i rfl rfl q1j rfl ?_
 refine q8 (q7 hT ?_)
 refine y8 ⟨⟨43,[(1,i64 c),(2,.clo (.func fn) [.p x,.p y]),(7,.msl 0 1 0 1)]⟩,[.cells z5 [.p (.raw (.slice none 0 0))]]⟩ True (q7 hT ?_) (fun _=>?_)
 ·refine⟨⟨rfl,by decide,by decide,by decide⟩,?_⟩
  exact⟨Wk.trans (J3 0 [.raw (.slice none 0 0)] rfl rfl (by decide)) (q9 [0] [1,2,7] rfl),trivial⟩
 refine y8 ⟨⟨43,[(7,.msl 0 1 0 1)]⟩,[.cells z5 [.msl 1 1 0 c],.row z4 1 (bx (Q3 A c 0))]⟩ True (q8 (q7 hT ?_)) (fun _=>?_)
 ·refine z7 ?_
  refine w7 (fun n s=>(n=1∧s=⟨⟨43,[(1,i64 c),(2,.clo (.func fn) [.p x,.p y]),(7,.msl 0 1 0 1),(13,i64 1),(14,i64 0)]⟩,[.cells z5 [.p (.raw (.slice none 0 0))]]⟩)∨(n=0∧s=⟨⟨43,[(1,i64 c),(2,.clo (.func fn) [.p x,.p y]),(7,.msl 0 1 0 1),(13,i64 1),(14,i64 1)]⟩,[.cells z5 [.msl 1 1 0 c],.row z4 1 (bx (Q3 A c 0))]⟩)) 1 ⟨⟨43,_⟩,_⟩ (q9 [0] [1,2,7,13,14] rfl) (.inl ⟨rfl,rfl⟩) ?_
  rintro n s (⟨rfl,rfl⟩|⟨rfl,rfl⟩)
  ·refine q8 (q7 hT ?_)
   refine q8 (z6 ?_)
   refine z9 ?_
   refine y8 ⟨⟨43,[(1,i64 c),(2,.clo (.func fn) [.p x,.p y]),(7,.msl 0 1 0 1),(13,i64 1),(8,i64 0),(14,i64 0)]⟩,[.cells z5 [.msl 1 1 0 c],.row z4 1 (bx (Q3 A c 0))]⟩ True (z7 ?_) (fun _=>?_)
   ·refine q8 (q7 hT ?_)
    refine w6 (fun st=>∃ X,X=bx (Y2 A c 0 0)∧st=⟨⟨43,[(1,i64 c),(2,.clo (.func fn) [.p x,.p y]),(7,.msl 0 1 0 1),(13,i64 1),(8,i64 0),(14,i64 0)]⟩,[.cells z5 [.msl 1 1 0 c],.row z4 1 (X)]⟩) (q7 hT ?_) ?_
    ·refine⟨⟨rfl,by omega,by show (c:Int)*1≤_;omega,by omega⟩,?_⟩
     refine⟨by decide,?_⟩
     exact⟨_,q9 [0,1] [1,2,7,13,8,14] rfl,_,z4a A c 0,rfl⟩
    rintro _ ⟨X0,hX0,rfl⟩
    refine q8 (q7 hT ?_)
    refine⟨by decide,?_⟩
    refine z7 ?_
    refine w7 (fun n s=>∃ (k:Nat) (j:Int),n+k=c∧j=k∧s=⟨⟨43,[(1,i64 c),(2,.clo (.func fn) [.p x,.p y]),(7,.msl 0 1 0 1),(13,i64 1),(8,i64 0),(14,i64 0),(26,i64 c),(27,i64 j)]⟩,[.cells z5 [.msl 1 1 0 c],.row z4 1 (bx (Y2 A c 0 k))]⟩) c ⟨⟨43,_⟩,_⟩ (q9 [0,1] [1,2,7,13,8,14,26,27] rfl) ⟨0,0,by omega,rfl,by rw[hX0];rfl⟩ ?_
    rintro n2 s ⟨k,j,hnk,hj,rfl⟩
    refine q8 (q7 hT ?_)
    refine q8 (z6 (x7 (fun h=>?_) (fun h=>?_)))
    ·have h:=of_decide_eq_true (show decide (j<(c:Int))=true from h)
     refine z9 ?_
     have w:=hA 0 k (by decide) (by omega)
     rw[← hj]at w
     have w:AF Tryz.prog fn ([i64 0,i64 j]++[.p x,.p y]) [] (Q0 (.p (u8 (A 0 k))) []):=w
     have hset:=q0b A (c:=c) 0 (k:=k) (by omega)
     have hjk:0+j.toNat=k:=by omega
     have hlen:(bx (Y2 A c 0 k)).length=c:=by rw[u6,Y6 A 0 (by omega)]
     obtain⟨v,hv⟩:∃ v,(bx (Y2 A c 0 k))[0+j.toNat]?=some [u8 v]:=by rw[hjk];exact q6h (by rw[Y6 A 0 (by omega)];omega)
     refine w6 (fun st=>∃ X,X=bx (Y2 A c 0 (k+1))∧st=⟨⟨43,[(1,i64 c),(2,.clo (.func fn) [.p x,.p y]),(7,.msl 0 1 0 1),(13,i64 1),(8,i64 0),(14,i64 0),(26,i64 c),(27,i64 j)]⟩,[.cells z5 [.msl 1 1 0 c],.row z4 1 (X)]⟩) (z7 (q8 (q7 hT ?_))) ?_
     ·refine w9 [10] [] hT z8 (by rfl) ?_
      refine⟨by decide,?_⟩
      refine⟨_,u5 w _ rfl rfl,?_⟩
      refine⟨⟨by omega,by omega⟩,?_⟩
      refine u7 hv ?_
      repeat first|refine⟨rfl,?_⟩|refine⟨⟨_,u5 w _ rfl rfl,rfl⟩,?_⟩|refine⟨⟨by decide,rfl⟩,?_⟩|refine⟨⟨⟨by omega,by omega⟩,rfl⟩,?_⟩
      refine⟨_,q9 [0,1] [1,2,7,13,8,14,26,27] rfl,_,?_,rfl⟩
      show List.set (bx (Y2 A c 0 k)) (0+j.toNat) [u8 (A 0 k)]=_
      rw[hjk,hset]
     ·rintro _ ⟨X,rfl,rfl⟩
      refine q7 hT ?_
      exact⟨n2 - 1,by omega,_,q9 [0,1] [1,2,7,13,8,14,26,27] rfl,k+1,IntKind.i64.wrap (j+1),by omega,by rw[x9 _ (by omega) (by omega)];omega,rfl⟩
    ·have h:=of_decide_eq_false (show decide (j<(c:Int))=false from h)
     rw[show k=c by omega,q0a]
     refine u0 ?_
     exact⟨q9 [0,1] [1,2,7,13,8,14] rfl,trivial⟩
   ·refine q7 hT ?_
    exact⟨0,by decide,_,q9 [0,1] [1,2,7,13,14] rfl,(.inr ⟨rfl,rfl⟩)⟩
  ·refine q8 (q7 hT ?_)
   refine q8 (z6 ?_)
   refine u0 ?_
   exact⟨q9 [0,1] [7] rfl,trivial⟩
 refine q8 (q7 hT ?_)
 refine x6 ?_
 exact y9 [0,1] ⟨rfl,rfl⟩ rfl
set_option maxHeartbeats 2000000 in
set_option maxRecDepth 20000 in
theorem x5i (fn:FuncId)(x y:PV)(c:Nat)(hc:c≤4096)(A:Nat→Nat→UInt8)(hA:∀ i k:Nat,i<2→k<c→AF Tryz.prog fn (i64 i :: i64 k :: [.p x,.p y]) [] (Q0 (.p (u8 (A i k))) [])) :
 AF Tryz.prog q1h [i64 2,i64 c,.clo (.func fn) [.p x,.p y]] [] (Q0 (.msl 0 1 0 2) [.cells z5 [.msl 1 1 0 c,.msl 2 1 0 c],.row z4 1 (bx (Q3 A c 0)),.row z4 1 (bx (Q3 A c 1))]):=by
 refine u9 hT q1i rfl rfl q1j rfl ?_
 refine q8 (q7 hT ?_)
 refine y8 ⟨⟨43,[(1,i64 c),(2,.clo (.func fn) [.p x,.p y]),(7,.msl 0 1 0 2)]⟩,[.cells z5 [.p (.raw (.slice none 0 0)),.p (.raw (.slice none 0 0))]]⟩ True (q7 hT ?_) (fun _=>?_)
 ·refine⟨⟨rfl,by decide,by decide,by decide⟩,?_⟩
  exact⟨Wk.trans (J3 0 [.raw (.slice none 0 0),.raw (.slice none 0 0)] rfl rfl (by decide)) (q9 [0] [1,2,7] rfl),trivial⟩
 refine y8 ⟨⟨43,[(7,.msl 0 1 0 2)]⟩,[.cells z5 [.msl 1 1 0 c,.msl 2 1 0 c],.row z4 1 (bx (Q3 A c 0)),.row z4 1 (bx (Q3 A c 1))]⟩ True (q8 (q7 hT ?_)) (fun _=>?_)
 ·refine z7 ?_
  refine w7 (fun n s=>(n=2∧s=⟨⟨43,[(1,i64 c),(2,.clo (.func fn) [.p x,.p y]),(7,.msl 0 1 0 2),(13,i64 2),(14,i64 0)]⟩,[.cells z5 [.p (.raw (.slice none 0 0)),.p (.raw (.slice none 0 0))]]⟩)∨(n=1∧s=⟨⟨43,[(1,i64 c),(2,.clo (.func fn) [.p x,.p y]),(7,.msl 0 1 0 2),(13,i64 2),(14,i64 1)]⟩,[.cells z5 [.msl 1 1 0 c,.p (.raw (.slice none 0 0))],.row z4 1 (bx (Q3 A c 0))]⟩)∨(n=0∧s=⟨⟨43,[(1,i64 c),(2,.clo (.func fn) [.p x,.p y]),(7,.msl 0 1 0 2),(13,i64 2),(14,i64 2)]⟩,[.cells z5 [.msl 1 1 0 c,.msl 2 1 0 c],.row z4 1 (bx (Q3 A c 0)),.row z4 1 (bx (Q3 A c 1))]⟩)) 2 ⟨⟨43,_⟩,_⟩ (q9 [0] [1,2,7,13,14] rfl) (.inl ⟨rfl,rfl⟩) ?_
  rintro n s (⟨rfl,rfl⟩|⟨rfl,rfl⟩|⟨rfl,rfl⟩)
  ·refine q8 (q7 hT ?_)
   refine q8 (z6 ?_)
   refine z9 ?_
   refine y8 ⟨⟨43,[(1,i64 c),(2,.clo (.func fn) [.p x,.p y]),(7,.msl 0 1 0 2),(13,i64 2),(8,i64 0),(14,i64 0)]⟩,[.cells z5 [.msl 1 1 0 c,.p (.raw (.slice none 0 0))],.row z4 1 (bx (Q3 A c 0))]⟩ True (z7 ?_) (fun _=>?_)
   ·refine q8 (q7 hT ?_)
    refine w6 (fun st=>∃ X,X=bx (Y2 A c 0 0)∧st=⟨⟨43,[(1,i64 c),(2,.clo (.func fn) [.p x,.p y]),(7,.msl 0 1 0 2),(13,i64 2),(8,i64 0),(14,i64 0)]⟩,[.cells z5 [.msl 1 1 0 c,.p (.raw (.slice none 0 0))],.row z4 1 (X)]⟩) (q7 hT ?_) ?_
    ·refine⟨⟨rfl,by omega,by show (c:Int)*1≤_;omega,by omega⟩,?_⟩
     refine⟨by decide,?_⟩
     exact⟨_,q9 [0,1] [1,2,7,13,8,14] rfl,_,z4a A c 0,rfl⟩
    rintro _ ⟨X0,hX0,rfl⟩
    refine q8 (q7 hT ?_)
    refine⟨by decide,?_⟩
    refine z7 ?_
    refine w7 (fun n s=>∃ (k:Nat) (j:Int),n+k=c∧j=k∧s=⟨⟨43,[(1,i64 c),(2,.clo (.func fn) [.p x,.p y]),(7,.msl 0 1 0 2),(13,i64 2),(8,i64 0),(14,i64 0),(26,i64 c),(27,i64 j)]⟩,[.cells z5 [.msl 1 1 0 c,.p (.raw (.slice none 0 0))],.row z4 1 (bx (Y2 A c 0 k))]⟩) c ⟨⟨43,_⟩,_⟩ (q9 [0,1] [1,2,7,13,8,14,26,27] rfl) ⟨0,0,by omega,rfl,by rw[hX0];rfl⟩ ?_
    rintro n2 s ⟨k,j,hnk,hj,rfl⟩
    refine q8 (q7 hT ?_)
    refine q8 (z6 (x7 (fun h=>?_) (fun h=>?_)))
    ·have h:=of_decide_eq_true (show decide (j<(c:Int))=true from h)
     refine z9 ?_
     have w:=hA 0 k (by decide) (by omega)
     rw[← hj]at w
     have w:AF Tryz.prog fn ([i64 0,i64 j]++[.p x,.p y]) [] (Q0 (.p (u8 (A 0 k))) []):=w
     have hset:=q0b A (c:=c) 0 (k:=k) (by omega)
     have hjk:0+j.toNat=k:=by omega
     have hlen:(bx (Y2 A c 0 k)).length=c:=by rw[u6,Y6 A 0 (by omega)]
     obtain⟨v,hv⟩:∃ v,(bx (Y2 A c 0 k))[0+j.toNat]?=some [u8 v]:=by rw[hjk];exact q6h (by rw[Y6 A 0 (by omega)];omega)
     refine w6 (fun st=>∃ X,X=bx (Y2 A c 0 (k+1))∧st=⟨⟨43,[(1,i64 c),(2,.clo (.func fn) [.p x,.p y]),(7,.msl 0 1 0 2),(13,i64 2),(8,i64 0),(14,i64 0),(26,i64 c),(27,i64 j)]⟩,[.cells z5 [.msl 1 1 0 c,.p (.raw (.slice none 0 0))],.row z4 1 (X)]⟩) (z7 (q8 (q7 hT ?_))) ?_
     ·refine w9 [10] [] hT z8 (by rfl) ?_
      refine⟨by decide,?_⟩
      refine⟨_,u5 w _ rfl rfl,?_⟩
      refine⟨⟨by omega,by omega⟩,?_⟩
      refine u7 hv ?_
      repeat first|refine⟨rfl,?_⟩|refine⟨⟨_,u5 w _ rfl rfl,rfl⟩,?_⟩|refine⟨⟨by decide,rfl⟩,?_⟩|refine⟨⟨⟨by omega,by omega⟩,rfl⟩,?_⟩
      refine⟨_,q9 [0,1] [1,2,7,13,8,14,26,27] rfl,_,?_,rfl⟩
      show List.set (bx (Y2 A c 0 k)) (0+j.toNat) [u8 (A 0 k)]=_
      rw[hjk,hset]
     ·rintro _ ⟨X,rfl,rfl⟩
      refine q7 hT ?_
      exact⟨n2 - 1,by omega,_,q9 [0,1] [1,2,7,13,8,14,26,27] rfl,k+1,IntKind.i64.wrap (j+1),by omega,by rw[x9 _ (by omega) (by omega)];omega,rfl⟩
    ·have h:=of_decide_eq_false (show decide (j<(c:Int))=false from h)
     rw[show k=c by omega,q0a]
     refine u0 ?_
     exact⟨q9 [0,1] [1,2,7,13,8,14] rfl,trivial⟩
   ·refine q7 hT ?_
    exact⟨1,by decide,_,q9 [0,1] [1,2,7,13,14] rfl,(.inr (.inl ⟨rfl,rfl⟩))⟩
  ·refine q8 (q7 hT ?_)
   refine q8 (z6 ?_)
   refine z9 ?_
   refine y8 ⟨⟨43,[(1,i64 c),(2,.clo (.func fn) [.p x,.p y]),(7,.msl 0 1 0 2),(13,i64 2),(8,i64 1),(14,i64 1)]⟩,[.cells z5 [.msl 1 1 0 c,.msl 2 1 0 c],.row z4 1 (bx (Q3 A c 0)),.row z4 1 (bx (Q3 A c 1))]⟩ True (z7 ?_) (fun _=>?_)
   ·refine q8 (q7 hT ?_)
    refine w6 (fun st=>∃ X,X=bx (Y2 A c 1 0)∧st=⟨⟨43,[(1,i64 c),(2,.clo (.func fn) [.p x,.p y]),(7,.msl 0 1 0 2),(13,i64 2),(8,i64 1),(14,i64 1)]⟩,[.cells z5 [.msl 1 1 0 c,.msl 2 1 0 c],.row z4 1 (bx (Q3 A c 0)),.row z4 1 (X)]⟩) (q7 hT ?_) ?_
    ·refine⟨⟨rfl,by omega,by show (c:Int)*1≤_;omega,by omega⟩,?_⟩
     refine⟨by decide,?_⟩
     exact⟨_,q9 [0,1,2] [1,2,7,13,8,14] rfl,_,z4a A c 1,rfl⟩
    rintro _ ⟨X0,hX0,rfl⟩
    refine q8 (q7 hT ?_)
    refine⟨by decide,?_⟩
    refine z7 ?_
    refine w7 (fun n s=>∃ (k:Nat) (j:Int),n+k=c∧j=k∧s=⟨⟨43,[(1,i64 c),(2,.clo (.func fn) [.p x,.p y]),(7,.msl 0 1 0 2),(13,i64 2),(8,i64 1),(14,i64 1),(26,i64 c),(27,i64 j)]⟩,[.cells z5 [.msl 1 1 0 c,.msl 2 1 0 c],.row z4 1 (bx (Q3 A c 0)),.row z4 1 (bx (Y2 A c 1 k))]⟩) c ⟨⟨43,_⟩,_⟩ (q9 [0,1,2] [1,2,7,13,8,14,26,27] rfl) ⟨0,0,by omega,rfl,by rw[hX0];rfl⟩ ?_
    rintro n2 s ⟨k,j,hnk,hj,rfl⟩
    refine q8 (q7 hT ?_)
    refine q8 (z6 (x7 (fun h=>?_) (fun h=>?_)))
    ·have h:=of_decide_eq_true (show decide (j<(c:Int))=true from h)
     refine z9 ?_
     have w:=hA 1 k (by decide) (by omega)
     rw[← hj]at w
     have w:AF Tryz.prog fn ([i64 1,i64 j]++[.p x,.p y]) [] (Q0 (.p (u8 (A 1 k))) []):=w
     have hset:=q0b A (c:=c) 1 (k:=k) (by omega)
     have hjk:0+j.toNat=k:=by omega
     have hlen:(bx (Y2 A c 1 k)).length=c:=by rw[u6,Y6 A 1 (by omega)]
     obtain⟨v,hv⟩:∃ v,(bx (Y2 A c 1 k))[0+j.toNat]?=some [u8 v]:=by rw[hjk];exact q6h (by rw[Y6 A 1 (by omega)];omega)
     refine w6 (fun st=>∃ X,X=bx (Y2 A c 1 (k+1))∧st=⟨⟨43,[(1,i64 c),(2,.clo (.func fn) [.p x,.p y]),(7,.msl 0 1 0 2),(13,i64 2),(8,i64 1),(14,i64 1),(26,i64 c),(27,i64 j)]⟩,[.cells z5 [.msl 1 1 0 c,.msl 2 1 0 c],.row z4 1 (bx (Q3 A c 0)),.row z4 1 (X)]⟩) (z7 (q8 (q7 hT ?_))) ?_
     ·refine w9 [10] [] hT z8 (by rfl) ?_
      refine⟨by decide,?_⟩
      refine⟨_,u5 w _ rfl rfl,?_⟩
      refine⟨⟨by omega,by omega⟩,?_⟩
      refine u7 hv ?_
      repeat first|refine⟨rfl,?_⟩|refine⟨⟨_,u5 w _ rfl rfl,rfl⟩,?_⟩|refine⟨⟨by decide,rfl⟩,?_⟩|refine⟨⟨⟨by omega,by omega⟩,rfl⟩,?_⟩
      refine⟨_,q9 [0,1,2] [1,2,7,13,8,14,26,27] rfl,_,?_,rfl⟩
      show List.set (bx (Y2 A c 1 k)) (0+j.toNat) [u8 (A 1 k)]=_
      rw[hjk,hset]
     ·rintro _ ⟨X,rfl,rfl⟩
      refine q7 hT ?_
      exact⟨n2 - 1,by omega,_,q9 [0,1,2] [1,2,7,13,8,14,26,27] rfl,k+1,IntKind.i64.wrap (j+1),by omega,by rw[x9 _ (by omega) (by omega)];omega,rfl⟩
    ·have h:=of_decide_eq_false (show decide (j<(c:Int))=false from h)
     rw[show k=c by omega,q0a]
     refine u0 ?_
     exact⟨q9 [0,1,2] [1,2,7,13,8,14] rfl,trivial⟩
   ·refine q7 hT ?_
    exact⟨0,by decide,_,q9 [0,1,2] [1,2,7,13,14] rfl,(.inr (.inr ⟨rfl,rfl⟩))⟩
  ·refine q8 (q7 hT ?_)
   refine q8 (z6 ?_)
   refine u0 ?_
   exact⟨q9 [0,1,2] [7] rfl,trivial⟩
 refine q8 (q7 hT ?_)
 refine x6 ?_
 exact y9 [0,1,2] ⟨rfl,rfl⟩ rfl
set_option maxHeartbeats 2000000 in
set_option maxRecDepth 20000 in
theorem x5j (fn:FuncId)(x y:PV)(c:Nat)(hc:c≤4096)(A:Nat→Nat→UInt8)(hA:∀ i k:Nat,i<3→k<c→AF Tryz.prog fn (i64 i :: i64 k :: [.p x,.p y]) [] (Q0 (.p (u8 (A i k))) [])) :
 AF Tryz.prog q1h [i64 3,i64 c,.clo (.func fn) [.p x,.p y]] [] (Q0 (.msl 0 1 0 3) [.cells z5 [.msl 1 1 0 c,.msl 2 1 0 c,.msl 3 1 0 c],.row z4 1 (bx (Q3 A c 0)),.row z4 1 (bx (Q3 A c 1)),.row z4 1 (bx (Q3 A c 2))]):=by
 refine u9 hT q1i rfl rfl q1j rfl ?_
 refine q8 (q7 hT ?_)
 refine y8 ⟨⟨43,[(1,i64 c),(2,.clo (.func fn) [.p x,.p y]),(7,.msl 0 1 0 3)]⟩,[.cells z5 [.p (.raw (.slice none 0 0)),.p (.raw (.slice none 0 0)),.p (.raw (.slice none 0 0))]]⟩ True (q7 hT ?_) (fun _=>?_)
 ·refine⟨⟨rfl,by decide,by decide,by decide⟩,?_⟩
  exact⟨Wk.trans (J3 0 [.raw (.slice none 0 0),.raw (.slice none 0 0),.raw (.slice none 0 0)] rfl rfl (by decide)) (q9 [0] [1,2,7] rfl),trivial⟩
 refine y8 ⟨⟨43,[(7,.msl 0 1 0 3)]⟩,[.cells z5 [.msl 1 1 0 c,.msl 2 1 0 c,.msl 3 1 0 c],.row z4 1 (bx (Q3 A c 0)),.row z4 1 (bx (Q3 A c 1)),.row z4 1 (bx (Q3 A c 2))]⟩ True (q8 (q7 hT ?_)) (fun _=>?_)
 ·refine z7 ?_
  refine w7 (fun n s=>(n=3∧s=⟨⟨43,[(1,i64 c),(2,.clo (.func fn) [.p x,.p y]),(7,.msl 0 1 0 3),(13,i64 3),(14,i64 0)]⟩,[.cells z5 [.p (.raw (.slice none 0 0)),.p (.raw (.slice none 0 0)),.p (.raw (.slice none 0 0))]]⟩)∨(n=2∧s=⟨⟨43,[(1,i64 c),(2,.clo (.func fn) [.p x,.p y]),(7,.msl 0 1 0 3),(13,i64 3),(14,i64 1)]⟩,[.cells z5 [.msl 1 1 0 c,.p (.raw (.slice none 0 0)),.p (.raw (.slice none 0 0))],.row z4 1 (bx (Q3 A c 0))]⟩)∨(n=1∧s=⟨⟨43,[(1,i64 c),(2,.clo (.func fn) [.p x,.p y]),(7,.msl 0 1 0 3),(13,i64 3),(14,i64 2)]⟩,[.cells z5 [.msl 1 1 0 c,.msl 2 1 0 c,.p (.raw (.slice none 0 0))],.row z4 1 (bx (Q3 A c 0)),.row z4 1 (bx (Q3 A c 1))]⟩)∨(n=0∧s=⟨⟨43,[(1,i64 c),(2,.clo (.func fn) [.p x,.p y]),(7,.msl 0 1 0 3),(13,i64 3),(14,i64 3)]⟩,[.cells z5 [.msl 1 1 0 c,.msl 2 1 0 c,.msl 3 1 0 c],.row z4 1 (bx (Q3 A c 0)),.row z4 1 (bx (Q3 A c 1)),.row z4 1 (bx (Q3 A c 2))]⟩)) 3 ⟨⟨43,_⟩,_⟩ (q9 [0] [1,2,7,13,14] rfl) (.inl ⟨rfl,rfl⟩) ?_
  rintro n s (⟨rfl,rfl⟩|⟨rfl,rfl⟩|⟨rfl,rfl⟩|⟨rfl,rfl⟩)
  ·refine q8 (q7 hT ?_)
   refine q8 (z6 ?_)
   refine z9 ?_
   refine y8 ⟨⟨43,[(1,i64 c),(2,.clo (.func fn) [.p x,.p y]),(7,.msl 0 1 0 3),(13,i64 3),(8,i64 0),(14,i64 0)]⟩,[.cells z5 [.msl 1 1 0 c,.p (.raw (.slice none 0 0)),.p (.raw (.slice none 0 0))],.row z4 1 (bx (Q3 A c 0))]⟩ True (z7 ?_) (fun _=>?_)
   ·refine q8 (q7 hT ?_)
    refine w6 (fun st=>∃ X,X=bx (Y2 A c 0 0)∧st=⟨⟨43,[(1,i64 c),(2,.clo (.func fn) [.p x,.p y]),(7,.msl 0 1 0 3),(13,i64 3),(8,i64 0),(14,i64 0)]⟩,[.cells z5 [.msl 1 1 0 c,.p (.raw (.slice none 0 0)),.p (.raw (.slice none 0 0))],.row z4 1 (X)]⟩) (q7 hT ?_) ?_
    ·refine⟨⟨rfl,by omega,by show (c:Int)*1≤_;omega,by omega⟩,?_⟩
     refine⟨by decide,?_⟩
     exact⟨_,q9 [0,1] [1,2,7,13,8,14] rfl,_,z4a A c 0,rfl⟩
    rintro _ ⟨X0,hX0,rfl⟩
    refine q8 (q7 hT ?_)
    refine⟨by decide,?_⟩
    refine z7 ?_
    refine w7 (fun n s=>∃ (k:Nat) (j:Int),n+k=c∧j=k∧s=⟨⟨43,[(1,i64 c),(2,.clo (.func fn) [.p x,.p y]),(7,.msl 0 1 0 3),(13,i64 3),(8,i64 0),(14,i64 0),(26,i64 c),(27,i64 j)]⟩,[.cells z5 [.msl 1 1 0 c,.p (.raw (.slice none 0 0)),.p (.raw (.slice none 0 0))],.row z4 1 (bx (Y2 A c 0 k))]⟩) c ⟨⟨43,_⟩,_⟩ (q9 [0,1] [1,2,7,13,8,14,26,27] rfl) ⟨0,0,by omega,rfl,by rw[hX0];rfl⟩ ?_
    rintro n2 s ⟨k,j,hnk,hj,rfl⟩
    refine q8 (q7 hT ?_)
    refine q8 (z6 (x7 (fun h=>?_) (fun h=>?_)))
    ·have h:=of_decide_eq_true (show decide (j<(c:Int))=true from h)
     refine z9 ?_
     have w:=hA 0 k (by decide) (by omega)
     rw[← hj]at w
     have w:AF Tryz.prog fn ([i64 0,i64 j]++[.p x,.p y]) [] (Q0 (.p (u8 (A 0 k))) []):=w
     have hset:=q0b A (c:=c) 0 (k:=k) (by omega)
     have hjk:0+j.toNat=k:=by omega
     have hlen:(bx (Y2 A c 0 k)).length=c:=by rw[u6,Y6 A 0 (by omega)]
     obtain⟨v,hv⟩:∃ v,(bx (Y2 A c 0 k))[0+j.toNat]?=some [u8 v]:=by rw[hjk];exact q6h (by rw[Y6 A 0 (by omega)];omega)
     refine w6 (fun st=>∃ X,X=bx (Y2 A c 0 (k+1))∧st=⟨⟨43,[(1,i64 c),(2,.clo (.func fn) [.p x,.p y]),(7,.msl 0 1 0 3),(13,i64 3),(8,i64 0),(14,i64 0),(26,i64 c),(27,i64 j)]⟩,[.cells z5 [.msl 1 1 0 c,.p (.raw (.slice none 0 0)),.p (.raw (.slice none 0 0))],.row z4 1 (X)]⟩) (z7 (q8 (q7 hT ?_))) ?_
     ·refine w9 [10] [] hT z8 (by rfl) ?_
      refine⟨by decide,?_⟩
      refine⟨_,u5 w _ rfl rfl,?_⟩
      refine⟨⟨by omega,by omega⟩,?_⟩
      refine u7 hv ?_
      repeat first|refine⟨rfl,?_⟩|refine⟨⟨_,u5 w _ rfl rfl,rfl⟩,?_⟩|refine⟨⟨by decide,rfl⟩,?_⟩|refine⟨⟨⟨by omega,by omega⟩,rfl⟩,?_⟩
      refine⟨_,q9 [0,1] [1,2,7,13,8,14,26,27] rfl,_,?_,rfl⟩
      show List.set (bx (Y2 A c 0 k)) (0+j.toNat) [u8 (A 0 k)]=_
      rw[hjk,hset]
     ·rintro _ ⟨X,rfl,rfl⟩
      refine q7 hT ?_
      exact⟨n2 - 1,by omega,_,q9 [0,1] [1,2,7,13,8,14,26,27] rfl,k+1,IntKind.i64.wrap (j+1),by omega,by rw[x9 _ (by omega) (by omega)];omega,rfl⟩
    ·have h:=of_decide_eq_false (show decide (j<(c:Int))=false from h)
     rw[show k=c by omega,q0a]
     refine u0 ?_
     exact⟨q9 [0,1] [1,2,7,13,8,14] rfl,trivial⟩
   ·refine q7 hT ?_
    exact⟨2,by decide,_,q9 [0,1] [1,2,7,13,14] rfl,(.inr (.inl ⟨rfl,rfl⟩))⟩
  ·refine q8 (q7 hT ?_)
   refine q8 (z6 ?_)
   refine z9 ?_
   refine y8 ⟨⟨43,[(1,i64 c),(2,.clo (.func fn) [.p x,.p y]),(7,.msl 0 1 0 3),(13,i64 3),(8,i64 1),(14,i64 1)]⟩,[.cells z5 [.msl 1 1 0 c,.msl 2 1 0 c,.p (.raw (.slice none 0 0))],.row z4 1 (bx (Q3 A c 0)),.row z4 1 (bx (Q3 A c 1))]⟩ True (z7 ?_) (fun _=>?_)
   ·refine q8 (q7 hT ?_)
    refine w6 (fun st=>∃ X,X=bx (Y2 A c 1 0)∧st=⟨⟨43,[(1,i64 c),(2,.clo (.func fn) [.p x,.p y]),(7,.msl 0 1 0 3),(13,i64 3),(8,i64 1),(14,i64 1)]⟩,[.cells z5 [.msl 1 1 0 c,.msl 2 1 0 c,.p (.raw (.slice none 0 0))],.row z4 1 (bx (Q3 A c 0)),.row z4 1 (X)]⟩) (q7 hT ?_) ?_
    ·refine⟨⟨rfl,by omega,by show (c:Int)*1≤_;omega,by omega⟩,?_⟩
     refine⟨by decide,?_⟩
     exact⟨_,q9 [0,1,2] [1,2,7,13,8,14] rfl,_,z4a A c 1,rfl⟩
    rintro _ ⟨X0,hX0,rfl⟩
    refine q8 (q7 hT ?_)
    refine⟨by decide,?_⟩
    refine z7 ?_
    refine w7 (fun n s=>∃ (k:Nat) (j:Int),n+k=c∧j=k∧s=⟨⟨43,[(1,i64 c),(2,.clo (.func fn) [.p x,.p y]),(7,.msl 0 1 0 3),(13,i64 3),(8,i64 1),(14,i64 1),(26,i64 c),(27,i64 j)]⟩,[.cells z5 [.msl 1 1 0 c,.msl 2 1 0 c,.p (.raw (.slice none 0 0))],.row z4 1 (bx (Q3 A c 0)),.row z4 1 (bx (Y2 A c 1 k))]⟩) c ⟨⟨43,_⟩,_⟩ (q9 [0,1,2] [1,2,7,13,8,14,26,27] rfl) ⟨0,0,by omega,rfl,by rw[hX0];rfl⟩ ?_
    rintro n2 s ⟨k,j,hnk,hj,rfl⟩
    refine q8 (q7 hT ?_)
    refine q8 (z6 (x7 (fun h=>?_) (fun h=>?_)))
    ·have h:=of_decide_eq_true (show decide (j<(c:Int))=true from h)
     refine z9 ?_
     have w:=hA 1 k (by decide) (by omega)
     rw[← hj]at w
     have w:AF Tryz.prog fn ([i64 1,i64 j]++[.p x,.p y]) [] (Q0 (.p (u8 (A 1 k))) []):=w
     have hset:=q0b A (c:=c) 1 (k:=k) (by omega)
     have hjk:0+j.toNat=k:=by omega
     have hlen:(bx (Y2 A c 1 k)).length=c:=by rw[u6,Y6 A 1 (by omega)]
     obtain⟨v,hv⟩:∃ v,(bx (Y2 A c 1 k))[0+j.toNat]?=some [u8 v]:=by rw[hjk];exact q6h (by rw[Y6 A 1 (by omega)];omega)
     refine w6 (fun st=>∃ X,X=bx (Y2 A c 1 (k+1))∧st=⟨⟨43,[(1,i64 c),(2,.clo (.func fn) [.p x,.p y]),(7,.msl 0 1 0 3),(13,i64 3),(8,i64 1),(14,i64 1),(26,i64 c),(27,i64 j)]⟩,[.cells z5 [.msl 1 1 0 c,.msl 2 1 0 c,.p (.raw (.slice none 0 0))],.row z4 1 (bx (Q3 A c 0)),.row z4 1 (X)]⟩) (z7 (q8 (q7 hT ?_))) ?_
     ·refine w9 [10] [] hT z8 (by rfl) ?_
      refine⟨by decide,?_⟩
      refine⟨_,u5 w _ rfl rfl,?_⟩
      refine⟨⟨by omega,by omega⟩,?_⟩
      refine u7 hv ?_
      repeat first|refine⟨rfl,?_⟩|refine⟨⟨_,u5 w _ rfl rfl,rfl⟩,?_⟩|refine⟨⟨by decide,rfl⟩,?_⟩|refine⟨⟨⟨by omega,by omega⟩,rfl⟩,?_⟩
      refine⟨_,q9 [0,1,2] [1,2,7,13,8,14,26,27] rfl,_,?_,rfl⟩
      show List.set (bx (Y2 A c 1 k)) (0+j.toNat) [u8 (A 1 k)]=_
      rw[hjk,hset]
     ·rintro _ ⟨X,rfl,rfl⟩
      refine q7 hT ?_
      exact⟨n2 - 1,by omega,_,q9 [0,1,2] [1,2,7,13,8,14,26,27] rfl,k+1,IntKind.i64.wrap (j+1),by omega,by rw[x9 _ (by omega) (by omega)];omega,rfl⟩
    ·have h:=of_decide_eq_false (show decide (j<(c:Int))=false from h)
     rw[show k=c by omega,q0a]
     refine u0 ?_
     exact⟨q9 [0,1,2] [1,2,7,13,8,14] rfl,trivial⟩
   ·refine q7 hT ?_
    exact⟨1,by decide,_,q9 [0,1,2] [1,2,7,13,14] rfl,(.inr (.inr (.inl ⟨rfl,rfl⟩)))⟩
  ·refine q8 (q7 hT ?_)
   refine q8 (z6 ?_)
   refine z9 ?_
   refine y8 ⟨⟨43,[(1,i64 c),(2,.clo (.func fn) [.p x,.p y]),(7,.msl 0 1 0 3),(13,i64 3),(8,i64 2),(14,i64 2)]⟩,[.cells z5 [.msl 1 1 0 c,.msl 2 1 0 c,.msl 3 1 0 c],.row z4 1 (bx (Q3 A c 0)),.row z4 1 (bx (Q3 A c 1)),.row z4 1 (bx (Q3 A c 2))]⟩ True (z7 ?_) (fun _=>?_)
   ·refine q8 (q7 hT ?_)
    refine w6 (fun st=>∃ X,X=bx (Y2 A c 2 0)∧st=⟨⟨43,[(1,i64 c),(2,.clo (.func fn) [.p x,.p y]),(7,.msl 0 1 0 3),(13,i64 3),(8,i64 2),(14,i64 2)]⟩,[.cells z5 [.msl 1 1 0 c,.msl 2 1 0 c,.msl 3 1 0 c],.row z4 1 (bx (Q3 A c 0)),.row z4 1 (bx (Q3 A c 1)),.row z4 1 (X)]⟩) (q7 hT ?_) ?_
    ·refine⟨⟨rfl,by omega,by show (c:Int)*1≤_;omega,by omega⟩,?_⟩
     refine⟨by decide,?_⟩
     exact⟨_,q9 [0,1,2,3] [1,2,7,13,8,14] rfl,_,z4a A c 2,rfl⟩
    rintro _ ⟨X0,hX0,rfl⟩
    refine q8 (q7 hT ?_)
    refine⟨by decide,?_⟩
    refine z7 ?_
    refine w7 (fun n s=>∃ (k:Nat) (j:Int),n+k=c∧j=k∧s=⟨⟨43,[(1,i64 c),(2,.clo (.func fn) [.p x,.p y]),(7,.msl 0 1 0 3),(13,i64 3),(8,i64 2),(14,i64 2),(26,i64 c),(27,i64 j)]⟩,[.cells z5 [.msl 1 1 0 c,.msl 2 1 0 c,.msl 3 1 0 c],.row z4 1 (bx (Q3 A c 0)),.row z4 1 (bx (Q3 A c 1)),.row z4 1 (bx (Y2 A c 2 k))]⟩) c ⟨⟨43,_⟩,_⟩ (q9 [0,1,2,3] [1,2,7,13,8,14,26,27] rfl) ⟨0,0,by omega,rfl,by rw[hX0];rfl⟩ ?_
    rintro n2 s ⟨k,j,hnk,hj,rfl⟩
    refine q8 (q7 hT ?_)
    refine q8 (z6 (x7 (fun h=>?_) (fun h=>?_)))
    ·have h:=of_decide_eq_true (show decide (j<(c:Int))=true from h)
     refine z9 ?_
     have w:=hA 2 k (by decide) (by omega)
     rw[← hj]at w
     have w:AF Tryz.prog fn ([i64 2,i64 j]++[.p x,.p y]) [] (Q0 (.p (u8 (A 2 k))) []):=w
     have hset:=q0b A (c:=c) 2 (k:=k) (by omega)
     have hjk:0+j.toNat=k:=by omega
     have hlen:(bx (Y2 A c 2 k)).length=c:=by rw[u6,Y6 A 2 (by omega)]
     obtain⟨v,hv⟩:∃ v,(bx (Y2 A c 2 k))[0+j.toNat]?=some [u8 v]:=by rw[hjk];exact q6h (by rw[Y6 A 2 (by omega)];omega)
     refine w6 (fun st=>∃ X,X=bx (Y2 A c 2 (k+1))∧st=⟨⟨43,[(1,i64 c),(2,.clo (.func fn) [.p x,.p y]),(7,.msl 0 1 0 3),(13,i64 3),(8,i64 2),(14,i64 2),(26,i64 c),(27,i64 j)]⟩,[.cells z5 [.msl 1 1 0 c,.msl 2 1 0 c,.msl 3 1 0 c],.row z4 1 (bx (Q3 A c 0)),.row z4 1 (bx (Q3 A c 1)),.row z4 1 (X)]⟩) (z7 (q8 (q7 hT ?_))) ?_
     ·refine w9 [10] [] hT z8 (by rfl) ?_
      refine⟨by decide,?_⟩
      refine⟨_,u5 w _ rfl rfl,?_⟩
      refine⟨⟨by omega,by omega⟩,?_⟩
      refine u7 hv ?_
      repeat first|refine⟨rfl,?_⟩|refine⟨⟨_,u5 w _ rfl rfl,rfl⟩,?_⟩|refine⟨⟨by decide,rfl⟩,?_⟩|refine⟨⟨⟨by omega,by omega⟩,rfl⟩,?_⟩
      refine⟨_,q9 [0,1,2,3] [1,2,7,13,8,14,26,27] rfl,_,?_,rfl⟩
      show List.set (bx (Y2 A c 2 k)) (0+j.toNat) [u8 (A 2 k)]=_
      rw[hjk,hset]
     ·rintro _ ⟨X,rfl,rfl⟩
      refine q7 hT ?_
      exact⟨n2 - 1,by omega,_,q9 [0,1,2,3] [1,2,7,13,8,14,26,27] rfl,k+1,IntKind.i64.wrap (j+1),by omega,by rw[x9 _ (by omega) (by omega)];omega,rfl⟩
    ·have h:=of_decide_eq_false (show decide (j<(c:Int))=false from h)
     rw[show k=c by omega,q0a]
     refine u0 ?_
     exact⟨q9 [0,1,2,3] [1,2,7,13,8,14] rfl,trivial⟩
   ·refine q7 hT ?_
    exact⟨0,by decide,_,q9 [0,1,2,3] [1,2,7,13,14] rfl,(.inr (.inr (.inr ⟨rfl,rfl⟩)))⟩
  ·refine q8 (q7 hT ?_)
   refine q8 (z6 ?_)
   refine u0 ?_
   exact⟨q9 [0,1,2,3] [7] rfl,trivial⟩
 refine q8 (q7 hT ?_)
 refine x6 ?_
 exact y9 [0,1,2,3] ⟨rfl,rfl⟩ rfl
end Go.Proofs.YtinfbclgkghgaaaGreat.AL
namespace Go.Proofs.YtinfbclgkghgaaaGreat.AL
open Go Go.Proofs
def q8n (a t:y7)(k:Nat):y7:=a.take k++t.drop k
theorem y6y {a t:y7}(h:a.length=t.length):q8n a t t.length=a:=by unfold q8n;rw[← h,List.take_length,h,List.drop_length,List.append_nil]
theorem y6z {a t:y7}(h:a.length=t.length){k:Nat}(hk:k<t.length):(q8n a t k)[k]?=some t[k]:=by
 unfold q8n
 rw[List.getElem?_append_right (by rw[List.length_take];omega),List.length_take,List.getElem?_drop,show k+(k - min k a.length)=k by omega,List.getElem?_eq_getElem hk]
theorem y7a {a t:y7}(h:a.length=t.length){k:Nat}(hk:k<t.length){v:UInt8}(hv:a[k]?=some v):(bx (q8n a t k)).set k [u8 v]=bx (q8n a t (k+1)):=by
 have e:q8n a t (k+1)=(q8n a t k).set k v:=by
  unfold q8n
  rw[List.set_append_right _ _ (by rw[List.length_take];omega),List.length_take,show k - min k a.length=0 by omega,List.take_add_one,hv,List.append_assoc,List.drop_eq_getElem_cons hk]
  rfl
 rw[e]
 unfold bx
 rw[List.map_set]
theorem Q7 {l:y7}{k:Nat}{v:UInt8}(h:l[k]?=some v):(bx l)[k]?=some [u8 v]:=by rw[bx,List.getElem?_map,h];rfl
def V4 (x:UInt8)(t:y7):y7:=t.map fun v=>Gf.mul v x
def Y7 (to row:y7)(x:UInt8):y7:=List.zipWith (fun a b=>a ^^^ Gf.mul x b) to row
theorem q7d {to row:y7}(x:UInt8)(h:to.length=row.length):(Y7 to row x).length=to.length:=by unfold Y7;rw[List.length_zipWith];omega
set_option maxHeartbeats 1000000 in
set_option maxRecDepth 20000 in
theorem z3k (t:y7)(x:UInt8)(ht:t.length≤4096):AFm Tryz.prog 1 x8w [q2q,.msl 0 1 0 t.length,.p (u8 x)] [.row z4 1 (bx t)] (Q0 (.tup []) [.row z4 1 (bx (V4 x t))]):=by
 have hl:(V4 x t).length=t.length:=List.length_map _
 have wmul:=fun v=>w4c v x
 unfold q2q at wmul ⊢
 generalize fP=F at wmul ⊢
 obtain⟨n,hn⟩:∃ n,n=t.length:=⟨_,rfl⟩
 rw[← hn]
 refine Q9 1 hT x8x rfl rfl x8y rfl rfl ?_
 refine q8 (q7 hT ?_)
 refine z7 ?_
 refine w7 (fun m s=>∃ (k:Nat) (j:Int),m+k=n∧j=k∧s=⟨⟨23,[(0,.p (.box F)),(1,.msl 0 1 0 n),(2,.p (u8 x)),(8,.msl 0 1 0 n),(9,i64 n),(10,i64 j)]⟩,[.row z4 1 (bx (q8n (V4 x t) t k))]⟩) n ⟨⟨23,_⟩,_⟩ (q9 [0] [0,1,2,8,9,10] rfl) ⟨0,0,by omega,rfl,rfl⟩ ?_
 rintro m s ⟨k,j,hmk,hj,rfl⟩
 refine q8 (q7 hT ?_)
 refine q8 (z6 (x7 (fun h=>?_) (fun h=>?_)))
 ·have h:=of_decide_eq_true (show decide (j<(n:Int))=true from h)
  have hk:k<t.length:=by omega
  refine z9 ?_
  have hg:=y6z hl hk
  have hv:(V4 x t)[k]?=some (Gf.mul t[k] x):=by unfold V4;rw[List.getElem?_map,List.getElem?_eq_getElem hk];rfl
  have hset:=y7a hl hk hv
  have w:=wmul t[k]
  generalize t[k]=v at hg hset w hv
  generalize Gf.mul v x=u at hset w hv
  have hjk:0+j.toNat=k:=by omega
  have hgx:(bx (q8n (V4 x t) t k))[0+j.toNat]?=some [u8 v]:=by rw[hjk];exact Q7 hg
  refine w6 (fun st=>∃ X,X=bx (q8n (V4 x t) t (k+1))∧st=⟨⟨23,[(0,.p (.box F)),(1,.msl 0 1 0 n),(2,.p (u8 x)),(8,.msl 0 1 0 n),(9,i64 n),(10,i64 j)]⟩,[.row z4 1 X]⟩) (z7 ?_) ?_
  ·refine q8 (q7 hT ?_)
   refine⟨⟨by omega,by omega⟩,?_⟩
   refine u7 hgx ?_
   refine q7 hT ?_
   refine x8 (u5 w _ rfl rfl) ?_
   refine⟨⟨by omega,by omega⟩,?_⟩
   refine u7 hgx ?_
   refine⟨_,q9 [0] [0,1,2,8,9,10] rfl,_,?_,rfl⟩
   show List.set (bx (q8n (V4 x t) t k)) (0+j.toNat) [u8 u]=_
   rw[hjk,hset]
  ·rintro _ ⟨X,rfl,rfl⟩
   refine q7 hT ?_
   exact⟨m - 1,by omega,_,q9 [0] [0,1,2,8,9,10] rfl,k+1,IntKind.i64.wrap (j+1),by omega,by rw[x9 _ (by omega) (by omega)];omega,rfl⟩
 ·have h:=of_decide_eq_false (show decide (j<(n:Int))=false from h)
  rw[show k=t.length by omega,y6y hl]
  refine u0 ?_
  exact y9 [0] ⟨rfl,rfl⟩ rfl
set_option maxHeartbeats 1000000 in
set_option maxRecDepth 20000 in
theorem z7u (to row:y7)(x:UInt8)(ht:to.length≤4096)(hr:to.length=row.length):AFm Tryz.prog 2 x0w [q2q,.msl 0 1 0 to.length,.msl 1 1 0 to.length,.p (u8 x)] [.row z4 1 (bx to),.row z4 1 (bx row)] (Q0 (.tup []) [.row z4 1 (bx (Y7 to row x)),.row z4 1 (bx row)]):=by
 have hl:=q7d x hr
 have hbl:=u6 row
 have wmul:=fun v=>w4c x v
 have wadd:=fun u v=>w4b q2q u v
 unfold q2q at wmul wadd ⊢
 generalize fP=F at wmul wadd ⊢
 obtain⟨n,hn⟩:∃ n,n=to.length:=⟨_,rfl⟩
 rw[← hn]
 refine Q9 2 hT x0x rfl rfl x0y rfl rfl ?_
 refine q8 (q7 hT ?_)
 refine z7 ?_
 refine w7 (fun m s=>∃ (k:Nat) (j:Int),m+k=n∧j=k∧s=⟨⟨31,[(0,.p (.box F)),(1,.msl 0 1 0 n),(3,.p (u8 x)),(10,.msl 1 1 0 n),(11,i64 n),(12,i64 j)]⟩,[.row z4 1 (bx (q8n (Y7 to row x) to k)),.row z4 1 (bx row)]⟩) n ⟨⟨31,_⟩,_⟩ (q9 [0,1] [0,1,3,10,11,12] rfl) ⟨0,0,by omega,rfl,rfl⟩ ?_
 rintro m s ⟨k,j,hmk,hj,rfl⟩
 refine q8 (q7 hT ?_)
 refine q8 (z6 (x7 (fun h=>?_) (fun h=>?_)))
 ·have h:=of_decide_eq_true (show decide (j<(n:Int))=true from h)
  have hk:k<to.length:=by omega
  have hk2:k<row.length:=by omega
  refine z9 ?_
  have hg:=y6z hl hk
  have hrg:=List.getElem?_eq_getElem hk2
  have hv:(Y7 to row x)[k]?=some (to[k] ^^^ Gf.mul x row[k]):=by unfold Y7;rw[List.getElem?_zipWith,List.getElem?_eq_getElem hk,List.getElem?_eq_getElem hk2]
  have hset:=y7a hl hk hv
  have w:=wmul row[k]
  have w2:=wadd to[k] (Gf.mul x row[k])
  generalize to[k]=u at hg hset w2 hv
  generalize row[k]=v at hrg hset w w2 hv
  generalize Gf.mul x v=p at hset w w2 hv
  generalize u ^^^ p=q at hset w2 hv
  have hjk:0+j.toNat=k:=by omega
  have hgx:(bx (q8n (Y7 to row x) to k))[0+j.toNat]?=some [u8 u]:=by rw[hjk];exact Q7 hg
  have hrx:(bx row)[0+j.toNat]?=some [u8 v]:=by rw[show 0+j.toNat=k by omega];exact Q7 hrg
  refine w6 (fun st=>∃ X,X=bx (q8n (Y7 to row x) to (k+1))∧st=⟨⟨31,[(0,.p (.box F)),(1,.msl 0 1 0 n),(3,.p (u8 x)),(10,.msl 1 1 0 n),(11,i64 n),(12,i64 j)]⟩,[.row z4 1 (X),.row z4 1 (bx row)]⟩) (z7 ?_) ?_
  ·refine q8 (q7 hT ?_)
   refine⟨⟨by omega,by omega⟩,?_⟩
   refine u7 hrx ?_
   refine w9 [13] [] hT z8 (by rfl) ?_
   refine⟨⟨by omega,by omega⟩,?_⟩
   refine u7 hgx ?_
   refine⟨_,u5 w _ rfl rfl,?_⟩
   refine⟨_,u5 w2 _ rfl rfl,?_⟩
   refine⟨⟨by omega,by omega⟩,?_⟩
   refine u7 hgx ?_
   repeat first|refine⟨rfl,?_⟩|refine⟨⟨_,u5 w _ rfl rfl,rfl⟩,?_⟩|refine⟨⟨_,u5 w2 _ rfl rfl,rfl⟩,?_⟩|refine⟨⟨⟨by omega,by omega⟩,rfl⟩,?_⟩|refine⟨u7 hgx rfl,?_⟩
   refine⟨_,q9 [0,1] [0,1,3,10,11,12] rfl,_,?_,rfl⟩
   show List.set (bx (q8n (Y7 to row x) to k)) (0+j.toNat) [u8 q]=_
   rw[hjk,hset]
  ·rintro _ ⟨X,rfl,rfl⟩
   refine q7 hT ?_
   exact⟨m - 1,by omega,_,q9 [0,1] [0,1,3,10,11,12] rfl,k+1,IntKind.i64.wrap (j+1),by omega,by rw[x9 _ (by omega) (by omega)];omega,rfl⟩
 ·have h:=of_decide_eq_false (show decide (j<(n:Int))=false from h)
  rw[show k=to.length by omega,y6y hl]
  refine u0 ?_
  exact y9 [0,1] ⟨rfl,rfl⟩ rfl
set_option maxHeartbeats 1000000 in
set_option maxRecDepth 20000 in
theorem q5q (to row:y7)(x:UInt8)(ht:to.length≤4096)(hr:to.length=row.length):AFm Tryz.prog 1 x0w [q2q,.msl 0 1 0 to.length,bA row,.p (u8 x)] [.row z4 1 (bx to)] (Q0 (.tup []) [.row z4 1 (bx (Y7 to row x))]):=by
 have hl:=q7d x hr
 have hbl:=u6 row
 have wmul:=fun v=>w4c x v
 have wadd:=fun u v=>w4b q2q u v
 unfold q2q at wmul wadd ⊢
 generalize fP=F at wmul wadd ⊢
 obtain⟨n,hn⟩:∃ n,n=to.length:=⟨_,rfl⟩
 rw[← hn]
 refine Q9 1 hT x0x rfl rfl x0y rfl rfl ?_
 refine q8 (q7 hT ?_)
 refine z7 ?_
 refine w7 (fun m s=>∃ (k:Nat) (j:Int),m+k=n∧j=k∧s=⟨⟨31,[(0,.p (.box F)),(1,.msl 0 1 0 n),(3,.p (u8 x)),(10,bA row),(11,i64 n),(12,i64 j)]⟩,[.row z4 1 (bx (q8n (Y7 to row x) to k))]⟩) n ⟨⟨31,_⟩,_⟩ (q9 [0] [0,1,3,10,11,12] rfl) ⟨0,0,by omega,rfl,by rw[hn,hr,← hbl];rfl⟩ ?_
 rintro m s ⟨k,j,hmk,hj,rfl⟩
 refine q8 (q7 hT ?_)
 refine q8 (z6 (x7 (fun h=>?_) (fun h=>?_)))
 ·have h:=of_decide_eq_true (show decide (j<(n:Int))=true from h)
  have hk:k<to.length:=by omega
  have hk2:k<row.length:=by omega
  refine z9 ?_
  have hg:=y6z hl hk
  have hrg:=List.getElem?_eq_getElem hk2
  have hv:(Y7 to row x)[k]?=some (to[k] ^^^ Gf.mul x row[k]):=by unfold Y7;rw[List.getElem?_zipWith,List.getElem?_eq_getElem hk,List.getElem?_eq_getElem hk2]
  have hset:=y7a hl hk hv
  have w:=wmul row[k]
  have w2:=wadd to[k] (Gf.mul x row[k])
  generalize to[k]=u at hg hset w2 hv
  generalize row[k]=v at hrg hset w w2 hv
  generalize Gf.mul x v=p at hset w w2 hv
  generalize u ^^^ p=q at hset w2 hv
  have hjk:0+j.toNat=k:=by omega
  have hgx:(bx (q8n (Y7 to row x) to k))[0+j.toNat]?=some [u8 u]:=by rw[hjk];exact Q7 hg
  have hrx:(bx row)[j.toNat]?=some [u8 v]:=by rw[show j.toNat=k by omega];exact Q7 hrg
  refine w6 (fun st=>∃ X,X=bx (q8n (Y7 to row x) to (k+1))∧st=⟨⟨31,[(0,.p (.box F)),(1,.msl 0 1 0 n),(3,.p (u8 x)),(10,bA row),(11,i64 n),(12,i64 j)]⟩,[.row z4 1 (X)]⟩) (z7 ?_) ?_
  ·refine q8 (q7 hT ?_)
   refine⟨by omega,u7 hrx ?_⟩
   refine w9 [13] [] hT z8 (by rfl) ?_
   refine⟨⟨by omega,by omega⟩,?_⟩
   refine u7 hgx ?_
   refine⟨_,u5 w _ rfl rfl,?_⟩
   refine⟨_,u5 w2 _ rfl rfl,?_⟩
   refine⟨⟨by omega,by omega⟩,?_⟩
   refine u7 hgx ?_
   repeat first|refine⟨rfl,?_⟩|refine⟨⟨_,u5 w _ rfl rfl,rfl⟩,?_⟩|refine⟨⟨_,u5 w2 _ rfl rfl,rfl⟩,?_⟩|refine⟨⟨⟨by omega,by omega⟩,rfl⟩,?_⟩|refine⟨u7 hgx rfl,?_⟩
   refine⟨_,q9 [0] [0,1,3,10,11,12] rfl,_,?_,rfl⟩
   show List.set (bx (q8n (Y7 to row x) to k)) (0+j.toNat) [u8 q]=_
   rw[hjk,hset]
  ·rintro _ ⟨X,rfl,rfl⟩
   refine q7 hT ?_
   exact⟨m - 1,by omega,_,q9 [0] [0,1,3,10,11,12] rfl,k+1,IntKind.i64.wrap (j+1),by omega,by rw[x9 _ (by omega) (by omega)];omega,rfl⟩
 ·have h:=of_decide_eq_false (show decide (j<(n:Int))=false from h)
  rw[show k=to.length by omega,y6y hl]
  refine u0 ?_
  exact y9 [0] ⟨rfl,rfl⟩ rfl
end Go.Proofs.YtinfbclgkghgaaaGreat.AL
namespace Go.Proofs.YtinfbclgkghgaaaGreat.AL
open Go Go.Proofs
set_option maxRecDepth 20000 in
theorem q2a (n:Int)(h1:1≤n)(h2:n≤64):AF Tryz.prog w3b [i64 n] [] (Q0 (bl true) []):=by
 refine AF.mono (R:=fun r H'=>∃ z,z=true∧r=bl z∧H'=[]) ?_ (by rintro r H' ⟨z,rfl,rfl,rfl⟩;exact⟨rfl,rfl⟩)
 refine u9 hT w3c rfl rfl w3d rfl ?_
 refine q8 (q7 hT ?_)
 refine q8 (q7 hT ?_)
 refine x7 (fun h=>?_) (fun h=>?_)
 ·refine x6 ?_
  exact y9 [] ⟨_,decide_eq_true h2,rfl,rfl⟩ rfl
 ·have h:=of_decide_eq_false (show decide (n≥1)=false from h)
  exact absurd h1 h
set_option maxHeartbeats 1000000 in
set_option maxRecDepth 20000 in
theorem J1 (L:List y7)(c:Nat)(h1:1≤L.length)(h2:L.length≤64)(c1:1≤c)(c2:c≤4096)(hc:∀ s∈L,s.length=c):AF Tryz.prog w8g [.p (.sl 1 (y6 L))] [] (Q0 (bl true) []):=by
 refine AF.mono (R:=fun r H'=>∃ z,z=true∧r=bl z∧H'=[]) ?_ (by rintro r H' ⟨z,rfl,rfl,rfl⟩;exact⟨rfl,rfl⟩)
 have hcl:=Z7 L
 have ws:=q2a ((y6 L).length:Nat) (by omega) (by omega)
 have h0:=List.getElem?_eq_getElem (show 0<L.length by omega)
 have hc0:=hc _ (List.getElem_mem (show 0<L.length by omega))
 generalize L[0]=s0 at h0 hc0
 have hx0:(y6 L)[(0:Int).toNat]?=some [bP s0]:=Z2 h0
 have hb0:=u6 s0
 refine u9 hT w8h rfl rfl w8i rfl ?_
 refine q8 (q7 hT ?_)
 refine y8 ⟨⟨37,[(0,.p (.sl 1 (y6 L)))]⟩,[]⟩ True (q8 (q7 hT ?_)) (fun _=>?_)
 ·refine x8 (u5 ws _ rfl rfl) ?_
  refine⟨by decide,u7 hx0 ?_⟩
  refine x7 (fun h=>?_) (fun h=>?_)
  ·have h:=of_decide_eq_true (show decide ((((bx s0).length:Nat):Int)<1)=true from h)
   omega
  refine⟨by decide,u7 hx0 ?_⟩
  refine z6 (x7 (fun h=>?_) (fun h=>?_))
  ·have h:=of_decide_eq_true (show decide ((((bx s0).length:Nat):Int) > 4096)=true from h)
   omega
  exact z9 ⟨q9 [] [0] rfl,trivial⟩
 refine y8 ⟨⟨37,[]⟩,[]⟩ True (q8 (q7 hT ?_)) (fun _=>?_)
 ·refine z7 ?_
  refine w7 (fun n s=>∃ (k:Nat) (j:Int),n+k=L.length∧j=k∧s=⟨⟨37,[(0,.p (.sl 1 (y6 L))),(23,.p (.sl 1 (y6 L))),(24,i64 (y6 L).length),(25,i64 j)]⟩,[]⟩) L.length ⟨⟨37,_⟩,_⟩ (q9 [] [0,23,24,25] rfl) ⟨0,0,rfl,rfl,rfl⟩ ?_
  rintro n s ⟨k,j,hnk,hj,rfl⟩
  refine q8 (q7 hT ?_)
  refine q8 (z6 (x7 (fun h=>?_) (fun h=>?_)))
  ·have h:=of_decide_eq_true (show decide (j<(((y6 L).length:Nat):Int))=true from h)
   have hk:k<L.length:=by omega
   refine z9 ?_
   have hx:=List.getElem?_eq_getElem hk
   have hcx:=hc _ (List.getElem_mem hk)
   generalize L[k]=s at hx hcx
   have hxp:(y6 L)[j.toNat]?=some [bP s]:=by rw[hj,Int.toNat_natCast];exact Z2 hx
   have hbs:=u6 s
   refine y8 ⟨⟨37,[(0,.p (.sl 1 (y6 L))),(23,.p (.sl 1 (y6 L))),(24,i64 (y6 L).length),(25,i64 j)]⟩,[]⟩ True (z7 (q8 (q7 hT ?_))) (fun _=>?_)
   ·refine⟨by omega,u7 hxp ?_⟩
    refine q8 (q7 hT ?_)
    refine⟨by decide,u7 hx0 ?_⟩
    refine z6 (x7 (fun h=>?_) (fun h=>?_))
    ·have h:((((bx s).length:Nat):Int) != (((bx s0).length:Nat):Int))=true:=h
     rw[bne_iff_ne]at h
     omega
    exact z9 ⟨q9 [] [0,23,24,25] rfl,trivial⟩
   ·refine q7 hT ?_
    exact⟨n - 1,by omega,_,q9 [] [0,23,24,25] rfl,k+1,IntKind.i64.wrap (j+1),by omega,by rw[x9 _ (by omega) (by omega)];omega,rfl⟩
  ·refine u0 ?_
   exact⟨q9 [] [] rfl,trivial⟩
 refine q8 (q7 hT ?_)
 refine x6 ?_
 exact y9 [] ⟨true,rfl,rfl,rfl⟩ rfl
def idA (i k:Nat):UInt8:=match (i:Int)==(k:Int) with|true=>1|false=>0
set_option maxRecDepth 20000 in
theorem z3m (i k:Nat):AF Tryz.prog q5j [i64 i,i64 k] [] (Q0 (.p (u8 (idA i k))) []):=by
 refine AF.mono (R:=fun r H'=>∃ z,z=idA i k∧r=.p (u8 z)∧H'=[]) ?_ (by rintro r H' ⟨z,rfl,rfl,rfl⟩;exact⟨rfl,rfl⟩)
 refine u9 hT x8z rfl rfl x9a rfl ?_
 refine q8 (q7 hT ?_)
 refine q8 (q8 (q7 hT ?_))
 refine z6 (x7 (fun h=>?_) (fun h=>?_))
 ·have h:((i:Int)==(k:Int))=true:=h
  refine q8 (q7 hT ?_)
  refine x6 ?_
  exact y9 [] ⟨1,by unfold idA;rw[h],rfl,rfl⟩ rfl
 ·have h:((i:Int)==(k:Int))=false:=h
  refine z9 ?_
  refine q8 (q7 hT ?_)
  refine x6 ?_
  exact y9 [] ⟨0,by unfold idA;rw[h],rfl,rfl⟩ rfl
set_option maxRecDepth 20000 in
theorem q3m (i k:Nat):AF Tryz.prog q0p [i64 i,i64 k] [] (Q0 (.p (u8 0)) []):=by
 refine u9 hT x8u rfl rfl x8v rfl ?_
 refine q8 (q7 hT ?_)
 refine q8 (q7 hT ?_)
 refine x6 ?_
 exact y9 [] ⟨rfl,rfl⟩ rfl
def q7k (cols i k:Nat):UInt8:=Gf.inv (UInt8.ofNat (cols+i) ^^^ UInt8.ofNat k)
set_option maxHeartbeats 1000000 in
set_option maxRecDepth 20000 in
theorem z0k (cols i k:Nat)(hk:k<cols)(hc:cols+i<256):AF Tryz.prog q4c [i64 i,i64 k,.p (.box [.box fP]),.p (.box [.raw (.int .i64 cols)])] [] (Q0 (.p (u8 (q7k cols i k))) []):=by
 have hne:UInt8.ofNat (cols+i) ^^^ UInt8.ofNat k≠0:=by
  intro h
  have h2:UInt8.ofNat (cols+i)=UInt8.ofNat k:=by
   have:=congrArg (· ^^^ UInt8.ofNat k) h
   simp only[UInt8.xor_assoc,UInt8.xor_self,UInt8.xor_zero,UInt8.zero_xor]at this
   exact this
  have h3:=congrArg UInt8.toNat h2
  rw[UInt8.toNat_ofNat',UInt8.toNat_ofNat']at h3
  omega
 have wa:=w4b q2q (UInt8.ofNat (cols+i)) (UInt8.ofNat k)
 have wi:=y6x _ hne
 have ha:(.p (.raw (.int .u8 (IntKind.u8.wrap (IntKind.i64.wrap ((cols:Int)+(i:Int)))))):AV)=.p (u8 (UInt8.ofNat (cols+i))):=by
  rw[x9 _ (by omega) (by omega),show (cols:Int)+(i:Int)=((cols+i:Nat):Int) by omega,q4d]
 have hb:(.p (.raw (.int .u8 (IntKind.u8.wrap (k:Int)))):AV)=.p (u8 (UInt8.ofNat k)):=by rw[q4d]
 rw[← ha,← hb]at wa
 have hm:Gf.inv (UInt8.ofNat (cols+i) ^^^ UInt8.ofNat k)=q7k cols i k:=rfl
 rw[hm]at wi
 generalize q7k cols i k=m at wi ⊢
 generalize UInt8.ofNat (cols+i) ^^^ UInt8.ofNat k=v at wa wi
 unfold q2q at wa wi
 generalize fP=F at wa wi ⊢
 refine u9 hT y5n rfl rfl y5p rfl ?_
 refine q8 (q7 hT ?_)
 refine y8 ⟨⟨23,[(7,.p (u8 m))]⟩,[]⟩ True ?_ (fun _=>?_)
 ·refine w9 [] [] hT z8 (by rfl) ?_
  refine⟨_,u5 wa _ rfl rfl,?_⟩
  refine⟨_,u5 wi _ rfl rfl,?_⟩
  exact⟨q9 [] [7] rfl,trivial⟩
 refine q8 (q7 hT ?_)
 refine x6 ?_
 exact y9 [] ⟨rfl,rfl⟩ rfl
end Go.Proofs.YtinfbclgkghgaaaGreat.AL
