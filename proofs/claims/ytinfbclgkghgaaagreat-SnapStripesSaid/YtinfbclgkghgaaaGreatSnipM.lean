/- A part of the proof. -/
import Derived.Test.YtinfbclgkghgaaaGreatSnipL
open Option.some renaming inj→k0y
open List renaming getElem?_eq_getElem→k0x,getD_eq_getElem?_getD→k0w,getElem?_append_left→k0t,getElem?_append_right→k0s,getElem?_map→k1q,length_append→k1z,length_map→k1y,getElem_mem→k1x,length_replicate→k2q,take_of_length_le→k2z,mem_of_getElem?→k2x,length_take→k2u,take_add_one→k2t,getElem?_range→k2s,length_range→k3q
open Int renaming toNat_natCast→k0v,natCast_nonneg→k2w
open Nat renaming le_refl→k1w,mul_le_mul_right→k2v
open Bool renaming and_eq_true→k1v
set_option maxHeartbeats 2000000
set_option maxRecDepth 20000
namespace Go.Proofs.YtinfbclgkghgaaaGreat.AL
open Go Go.Proofs
theorem Gf.mlc (a b c:UInt8):Gf.mul a (Gf.mul b c)=Gf.mul b (Gf.mul a c):=by rw[← Gf.mul_assoc,Gf.mul_comm a b,Gf.mul_assoc]
theorem Gf.inv_ne (a:UInt8):Gf.inv a≠0:=Gf.pw_ne _
def z8e (x:UInt8→UInt8)(a:UInt8):List UInt8→UInt8
 |[]=>0
 |b :: B=>z8e x a B ^^^ Gf.mul (x b) (Gf.inv (a ^^^ b))
theorem w6x {a b:UInt8}(h:a≠b):a ^^^ b≠0:=fun e=>h (q5v e)
theorem y7k (a b c:UInt8):a ^^^ b=a ^^^ c ^^^ (c ^^^ b):=by rw[UInt8.xor_assoc,← UInt8.xor_assoc c,UInt8.xor_self,UInt8.zero_xor]
theorem u0q (u v:UInt8):(1 ^^^ u) ^^^ (1 ^^^ v)=u ^^^ v:=by rw[u3h,UInt8.xor_self,UInt8.zero_xor]
theorem v8c (X p q d U V:UInt8)(hU:Gf.mul p U=1)(hV:Gf.mul q V=1) :
 Gf.mul (p ^^^ d) (Gf.mul X U) ^^^ Gf.mul (q ^^^ d) (Gf.mul X V)=Gf.mul (p ^^^ q) (Gf.mul (Gf.mul (Gf.mul X d) V) U):=by
 rw[Gf.mlc (p ^^^ d),Gf.mlc (q ^^^ d),Gf.xor_mul p d U,Gf.xor_mul q d V,hU,hV,← Gf.mul_xor,u0q]
 rw[Gf.xor_mul p q,Gf.mlc p,hU,Gf.mul_one,Gf.mul_assoc (Gf.mul X d) V U,Gf.mlc q,← Gf.mul_assoc q,hV,Gf.one_mul,Gf.mul_assoc,Gf.mul_assoc,← Gf.mul_xor,← Gf.mul_xor,← Gf.mul_xor,UInt8.xor_comm U]
theorem w2g (x:UInt8→UInt8)(a a0 b0:UInt8):∀ B:List UInt8,(∀ b∈B,a≠b∧a0≠b) →
 Gf.mul (a ^^^ b0) (z8e x a B) ^^^ Gf.mul (a0 ^^^ b0) (z8e x a0 B)=Gf.mul (a ^^^ a0) (z8e (fun b=>Gf.mul (Gf.mul (x b) (b ^^^ b0)) (Gf.inv (a0 ^^^ b))) a B)
 |[],_=>by show Gf.mul _ 0 ^^^ Gf.mul _ 0=Gf.mul _ 0;rw[Gf.mul_zero,Gf.mul_zero,Gf.mul_zero];rfl
 |b :: B,h=>by
  obtain⟨h1,h2⟩:=h b (List.mem_cons_self ..)
  have ih:=w2g x a a0 b0 B fun b hb=>h b (List.mem_cons_of_mem _ hb)
  show Gf.mul _ (z8e x a B ^^^ _) ^^^ Gf.mul _ (z8e x a0 B ^^^ _)=Gf.mul _ (z8e _ a B ^^^ _)
  rw[Gf.mul_xor,Gf.mul_xor,u3h,ih,Gf.mul_xor]
  congr 1
  rw[y7k a b0 b,y7k a0 b0 b,y7k a a0 b,UInt8.xor_comm b a0]
  exact v8c _ _ _ _ _ _ (Gf.mul_inv (w6x h1)) (Gf.mul_inv (w6x h2))
theorem x2d (x:UInt8→UInt8)(a:UInt8):∀ B:List UInt8,(∀ b∈B,x b=0)→z8e x a B=0
 |[],_=>rfl
 |b :: B,h=>by
  show z8e x a B ^^^ Gf.mul (x b) _=0
  rw[x2d x a B fun b hb=>h b (List.mem_cons_of_mem _ hb),h b (List.mem_cons_self ..),Gf.zero_mul];rfl
/-- A square of Cauchy's has a trivial kernel. -/
theorem w2h:∀ (B A:List UInt8) (x:UInt8→UInt8),A.Nodup→B.Nodup→(∀ a∈A,∀ b∈B,a≠b)→B.length≤A.length→(∀ a∈A,z8e x a B=0)→∀ b∈B,x b=0
 |[],_,_,_,_,_,_,_,_,hb=>absurd hb (List.not_mem_nil)
 |b0 :: B,[],_,_,_,_,hl,_,_,_=>absurd hl (by simp)
 |b0 :: B,a0 :: A,x,hA,hB,hd,hl,hz,b,hb=>by
  obtain⟨hA1,hA2⟩:=List.nodup_cons.mp hA
  obtain⟨hB1,hB2⟩:=List.nodup_cons.mp hB
  have hx0:∀ a∈a0 :: A,x b0=Gf.mul (a ^^^ b0) (z8e x a B):=fun a ha=>by
   have h1:z8e x a B=Gf.mul (x b0) (Gf.inv (a ^^^ b0)):=q5v (hz a ha)
   rw[h1,Gf.mlc,Gf.mul_inv (w6x (hd a ha b0 (List.mem_cons_self ..))),Gf.mul_one]
  have hy:∀ b∈B,Gf.mul (Gf.mul (x b) (b ^^^ b0)) (Gf.inv (a0 ^^^ b))=0:=by
   refine w2h B A (fun b=>Gf.mul (Gf.mul (x b) (b ^^^ b0)) (Gf.inv (a0 ^^^ b))) hA2 hB2 (fun a ha b hb=>hd a (List.mem_cons_of_mem _ ha) b (List.mem_cons_of_mem _ hb)) (by simpa using hl) fun a ha=>?_
   have hdf:=w2g x a a0 b0 B fun b hb=>⟨hd a (List.mem_cons_of_mem _ ha) b (List.mem_cons_of_mem _ hb),hd a0 (List.mem_cons_self ..) b (List.mem_cons_of_mem _ hb)⟩
   rw[← hx0 a (List.mem_cons_of_mem _ ha),← hx0 a0 (List.mem_cons_self ..),UInt8.xor_self]at hdf
   rcases Gf.mul_eq_zero hdf.symm with h|h
   ·exact absurd (q5v h) (fun e=>hA1 (e ▸ ha))
   ·exact h
  have hx:∀ b∈B,x b=0:=fun b hb=>by
   rcases Gf.mul_eq_zero (hy b hb) with h|h
   ·rcases Gf.mul_eq_zero h with h|h
    ·exact h
    ·exact absurd (q5v h) (fun e=>hB1 (e ▸ hb))
   ·exact absurd h (Gf.inv_ne _)
  rcases List.mem_cons.mp hb with rfl|hb
  ·rw[hx0 a0 (List.mem_cons_self ..),x2d x a0 B hx,Gf.mul_zero]
  ·exact hx b hb
def q9n (S:List z6)(most:Nat):Nat→List Nat
 |0=>[]
 |i+1=>match decide ((Q6 S most i).length<most)&&decide (0<(S.getD i []).length) with
  |true=>q9n S most i
  |false=>i :: q9n S most i
def z2k (S:List z6)(most k:Nat):Nat→List Nat
 |0=>[]
 |i+1=>match decide ((Q6 S most (k+i)).length<most)&&decide (0<(S.getD (k+i) []).length) with
  |true=>(k+i) :: z2k S most k i
  |false=>z2k S most k i
def pkd (S:List z6)(most i:Nat):Bool:=decide ((Q6 S most i).length<most)&&decide (0<(S.getD i []).length)
theorem q6h {S:List z6}{most i:Nat}(h:pkd S most i=true):Q6 S most (i+1)=Q6 S most i++[i]∧q9n S most (i+1)=q9n S most i:=by
 unfold pkd at h
 exact⟨by show (match _ with|true=>_|false=>_)=_;rw[h],by show (match _ with|true=>_|false=>_)=_;rw[h]⟩
theorem q7t {S:List z6}{most i:Nat}(h:pkd S most i=false):Q6 S most (i+1)=Q6 S most i∧q9n S most (i+1)=i :: q9n S most i:=by
 unfold pkd at h
 exact⟨by show (match _ with|true=>_|false=>_)=_;rw[h],by show (match _ with|true=>_|false=>_)=_;rw[h]⟩
theorem w6y {S:List z6}{most k i:Nat}(h:pkd S most (k+i)=true):z2k S most k (i+1)=(k+i) :: z2k S most k i:=by
 unfold pkd at h
 show (match _ with|true=>_|false=>_)=_;rw[h]
theorem w6z {S:List z6}{most k i:Nat}(h:pkd S most (k+i)=false):z2k S most k (i+1)=z2k S most k i:=by
 unfold pkd at h
 show (match _ with|true=>_|false=>_)=_;rw[h]
theorem w2i (S:List z6)(most:Nat):∀ i,(Q6 S most i).length+(q9n S most i).length=i
 |0=>rfl
 |i+1=>by
  have ih:=w2i S most i
  cases h:pkd S most i with
  |true=>rw[(q6h h).1,(q6h h).2,k1z];show _+1+_=_;omega
  |false=>rw[(q7t h).1,(q7t h).2,List.length_cons];omega
theorem w2j (S:List z6)(most k:Nat):∀ i,(Q6 S most (k+i)).length=(Q6 S most k).length+(z2k S most k i).length
 |0=>rfl
 |i+1=>by
  have ih:=w2j S most k i
  rw[← Nat.add_assoc]
  cases h:pkd S most (k+i) with
  |true=>rw[(q6h h).1,w6y h,k1z,List.length_singleton,List.length_cons];omega
  |false=>rw[(q7t h).1,w6z h];exact ih
theorem z8f (S:List z6)(most k j:Nat)(h:j∈Q6 S most k):∀ i,j∈Q6 S most (k+i)
 |0=>h
 |i+1=>by
  rw[← Nat.add_assoc]
  cases e:pkd S most (k+i) with
  |true=>rw[(q6h e).1];exact List.mem_append.mpr (.inl (z8f S most k j h i))
  |false=>rw[(q7t e).1];exact z8f S most k j h i
theorem z2m (S:List z6)(most k j:Nat):∀ i,j∈z2k S most k i→j∈Q6 S most (k+i)∧k≤j∧j<k+i
 |0,h=>absurd h (List.not_mem_nil)
 |i+1,h=>by
  rw[← Nat.add_assoc]
  cases e:pkd S most (k+i) with
  |true=>
   rw[w6y e]at h
   rw[(q6h e).1]
   rcases List.mem_cons.mp h with rfl|h
   ·exact⟨List.mem_append.mpr (.inr (List.mem_singleton.mpr rfl)),by omega,by omega⟩
   ·obtain⟨a,b,c⟩:=z2m S most k j i h
    exact⟨List.mem_append.mpr (.inl a),b,by omega⟩
  |false=>
   rw[w6z e]at h
   rw[(q7t e).1]
   obtain⟨a,b,c⟩:=z2m S most k j i h
   exact⟨a,b,by omega⟩
theorem y3j (S:List z6)(most j:Nat):∀ i,j∈q9n S most i→j<i
 |0,h=>absurd h (List.not_mem_nil)
 |i+1,h=>by
  cases e:pkd S most i with
  |true=>rw[(q6h e).2]at h;have:=y3j S most j i h;omega
  |false=>
   rw[(q7t e).2]at h
   rcases List.mem_cons.mp h with rfl|h
   ·omega
   ·have:=y3j S most j i h;omega
theorem x6f (S:List z6)(most j:Nat):∀ i,j<i→j∈Q6 S most i∨j∈q9n S most i
 |0,h=>by omega
 |i+1,h=>by
  cases e:pkd S most i with
  |true=>
   rw[(q6h e).1,(q6h e).2]
   by_cases e:j=i
   ·subst e
    exact .inl (List.mem_append.mpr (.inr (List.mem_singleton.mpr rfl)))
   ·exact(x6f S most j i (by omega)).imp (fun h=>List.mem_append.mpr (.inl h)) id
  |false=>
   rw[(q7t e).1,(q7t e).2]
   by_cases e:j=i
   ·subst e
    exact .inr (List.mem_cons_self ..)
   ·exact(x6f S most j i (by omega)).imp id (List.mem_cons_of_mem _)
theorem z3y {i j:Nat}(hi:i<256)(hj:j<256)(h:UInt8.ofNat i=UInt8.ofNat j):i=j:=by
 have:=congrArg UInt8.toNat h
 rw[UInt8.toNat_ofNat',UInt8.toNat_ofNat',Nat.mod_eq_of_lt hi,Nat.mod_eq_of_lt hj]at this
 exact this
theorem y7m (S:List z6)(most:Nat):∀ i,i≤256→((q9n S most i).map UInt8.ofNat).Nodup
 |0,_=>List.nodup_nil
 |i+1,hi=>by
  have ih:=y7m S most i (by omega)
  cases e:pkd S most i with
  |true=>rw[(q6h e).2];exact ih
  |false=>
   rw[(q7t e).2]
   refine List.nodup_cons.mpr ⟨fun h=>?_,ih⟩
   rw[List.mem_map]at h
   obtain⟨j,hj,e⟩:=h
   have hlt:=y3j S most j i hj
   have:=z3y (by omega) (by omega) e
   omega
theorem y7n (S:List z6)(most k:Nat):∀ i,k+i≤256→((z2k S most k i).map UInt8.ofNat).Nodup
 |0,_=>List.nodup_nil
 |i+1,hi=>by
  have ih:=y7n S most k i (by omega)
  cases e:pkd S most (k+i) with
  |true=>
   rw[w6y e]
   refine List.nodup_cons.mpr ⟨fun h=>?_,ih⟩
   rw[List.mem_map]at h
   obtain⟨j,hj,e⟩:=h
   obtain⟨_,_,hlt⟩:=z2m S most k j i hj
   have:=z3y (by omega) (by omega) e
   omega
  |false=>rw[w6z e];exact ih
theorem w9g (S:List z6)(most:Nat)(row:z6)(x:Nat→UInt8)(a:UInt8):∀ n,n≤256→(∀ j,j<n→row.getD j 0=Gf.inv (a ^^^ UInt8.ofNat j))→(∀ j∈Q6 S most n,x j=0) →
 U2 row x n=z8e (fun b=>x b.toNat) a ((q9n S most n).map UInt8.ofNat)
 |0,_,_,_=>rfl
 |n+1,hn,hr,hx=>by
  show U2 row x n ^^^ Gf.mul (row.getD n 0) (x n)=_
  have hx':∀ j∈Q6 S most n,x j=0:=fun j hj=>hx j (z8f S most n j hj 1)
  rw[w9g S most row x a n (by omega) (fun j hj=>hr j (by omega)) hx',hr n (by omega)]
  cases e:pkd S most n with
  |true=>
   rw[(q6h e).1]at hx
   rw[(q6h e).2,hx n (List.mem_append.mpr (.inr (List.mem_singleton.mpr rfl))),Gf.mul_zero,UInt8.xor_zero]
  |false=>
   rw[(q7t e).2]
   show _=z8e _ a _ ^^^ Gf.mul (x (UInt8.ofNat n).toNat) _
   rw[show (UInt8.ofNat n).toNat=n by rw[UInt8.toNat_ofNat',Nat.mod_eq_of_lt (by omega)],Gf.mul_comm]
theorem w2k (A:Nat→Nat→UInt8){c i j:Nat}(hj:j<c):(v9 A c i).getD j 0=A i j:=by
 unfold v9
 rw[k0w,k1q,k2s hj];rfl
theorem w7a {k m i:Nat}(h:i<k):(Y5 k m).getD i []=v9 idA k i:=by
 unfold Y5
 rw[k0w,k0t (by rw[k1y,k3q];exact h),k1q,k2s h];rfl
theorem y7p {k m t:Nat}(h:t<m):(Y5 k m).getD (k+t) []=v9 (q3x k) k t:=by
 unfold Y5 q6r
 rw[k0w,k0s (by rw[k1y,k3q];omega),k1y,k3q,Nat.add_sub_cancel_left,k1q,k2s h];rfl
theorem v8d (i j:Nat):idA i j=if i=j then 1 else 0:=by
 unfold idA
 by_cases e:i=j
 ·rw[if_pos e,e,show ((j:Int)==(j:Int))=true from beq_self_eq_true _]
 ·rw[if_neg e,show ((i:Int)==(j:Int))=false from beq_eq_false_iff_ne.mpr (by omega)]
theorem w2m {k m i:Nat}(h:i<k)(x:Nat→UInt8):U2 ((Y5 k m).getD i []) x k=x i:=by
 rw[w7a h,z2j x (i:=i) fun j hj=>by rw[w2k _ hj,v8d],if_pos h]
theorem q6s {S:List z6}{k m:Nat}(h:(Q6 S k (k+m)).length=k):(byB S k m).length=k:=by unfold byB;rw[k1y,h]
theorem z3z {S:List z6}{k m:Nat}:∀ s∈byB S k m,s.length=k:=fun s hs=>by
 unfold byB at hs
 rw[List.mem_map]at hs
 obtain⟨i,hi,rfl⟩:=hs
 have hi:=(q2n S k (k+m) i hi).1
 rw[k0w,k0x (by rw[q3s];exact hi)]
 exact x1x _ (k1x _)
theorem q6x {S:List z6}{k m:Nat}(hkm:k+m≤256)(hg:(Q6 S k (k+m)).length=k)(x:Nat→UInt8)(hz:q2t k (fun i=>(byB S k m).getD i []) x):∀ j,j<k→x j=0:=by
 have hz:∀ i∈Q6 S k (k+m),U2 ((Y5 k m).getD i []) x k=0:=fun i hi=>by
  obtain⟨t,ht,rfl⟩:=List.getElem_of_mem hi
  have:=hz t (by omega)
  have e:(byB S k m).getD t []=(Y5 k m).getD (Q6 S k (k+m))[t] []:=by
   unfold byB
   rw[k0w,k1q,k0x ht];rfl
  have this:U2 ((byB S k m).getD t []) x k=0:=this
  rw[e]at this
  exact this
 have hx0:∀ j∈Q6 S k k,x j=0:=fun j hj=>by
  have:=hz j (z8f S k k j hj m)
  rwa [w2m (q2n S k k j hj).1]at this
 have hA:=y7n S k k m hkm
 have hB:=y7m S k k (by omega)
 have hl:((q9n S k k).map UInt8.ofNat).length≤((z2k S k k m).map UInt8.ofNat).length:=by
  have h1:=w2i S k k
  have h2:=w2j S k k m
  rw[k1y,k1y]
  omega
 have hd:∀ a∈(z2k S k k m).map UInt8.ofNat,∀ b∈(q9n S k k).map UInt8.ofNat,a≠b:=fun a ha b hb e=>by
  rw[List.mem_map]at ha hb
  obtain⟨i,hi,rfl⟩:=ha
  obtain⟨j,hj,rfl⟩:=hb
  obtain⟨_,h1,h2⟩:=z2m S k k i m hi
  have h3:=y3j S k j k hj
  have:=z3y (by omega) (by omega) e
  omega
 have hc:=w2h _ _ (fun b=>x b.toNat) hA hB hd hl fun a ha=>by
  rw[List.mem_map]at ha
  obtain⟨i,hi,rfl⟩:=ha
  obtain⟨h0,h1,h2⟩:=z2m S k k i m hi
  have:=hz i h0
  obtain⟨t,rfl⟩:∃ t,i=k+t:=⟨i - k,by omega⟩
  rw[y7p (by omega),w9g S k _ x (UInt8.ofNat (k+t)) k (by omega) (fun j hj=>by rw[w2k _ hj];rfl) hx0]at this
  exact this
 intro j hj
 rcases x6f S k j k hj with h|h
 ·exact hx0 j h
 ·have:=hc (UInt8.ofNat j) (List.mem_map_of_mem h)
  rwa [show (UInt8.ofNat j).toNat=j by rw[UInt8.toNat_ofNat',Nat.mod_eq_of_lt (by omega)]]at this
theorem Q0c {S:List z6}{k m:Nat}(hkm:k+m≤256)(hg:(Q6 S k (k+m)).length=k):y0q k (byB S k m)=true:=u0p (q6s hg) z3z (q6x hkm hg)
theorem z2n {a:z6}{B:List z6}{c p:Nat}(hB:∀ s∈B,s.length=c)(hp:p<c):∀ n,n≤B.length→(x9 a B c n).getD p 0=U2 a (fun j=>(B.getD j []).getD p 0) n
 |0,_=>by
  show (List.replicate c (0:UInt8)).getD p 0=0
  rw[k0w,List.getElem?_replicate,if_pos hp];rfl
 |n+1,hn=>by
  have hl:(B.getD n []).length=c:=by
   rw[k0w,k0x (by omega)]
   exact hB _ (k1x _)
  show (J4 (x9 a B c n) (B.getD n []) (a.getD n 0)).getD p 0=_
  rw[q9m _ (by rw[Q8 a hB (by omega),hl]),z2n hB hp n (by omega)];rfl
theorem v8e {a b:z6}(h:a.length=b.length)(hg:∀ p,p<a.length→a.getD p 0=b.getD p 0):a=b:=by
 refine List.ext_getElem h fun p h1 h2=>?_
 have:=hg p h1
 rwa [k0w,k0w,k0x h1,k0x h2]at this
theorem v8f {S:List z6}{k m c:Nat}(hkm:k+m≤256)(hS:∀ i∈Q6 S k (k+m),(S.getD i []).length=c)(hg:(Q6 S k (k+m)).length=k){data:List z6}(hd:data.length=k)(hc:∀ s∈data,s.length=c)
 (h:∀ i∈Q6 S k (k+m),∀ p,p<c→(S.getD i []).getD p 0=U2 ((Y5 k m).getD i []) (fun j=>(data.getD j []).getD p 0) k):W9 S k m c=data:=by
 have hbl:=q6s (S:=S) (m:=m) hg
 have hol:(ofB S k m).length=k:=by unfold ofB;rw[k1y,hg]
 have hor:∀ s∈ofB S k m,s.length=c:=fun s hs=>by
  unfold ofB at hs
  rw[List.mem_map]at hs
  obtain⟨i,hi,rfl⟩:=hs
  exact hS i hi
 have hil:(z5t (byB S k m)).length=k:=(z2i _).trans hbl
 unfold W9
 refine List.ext_getElem (by rw[k1y,hil,hd]) fun i h1 h2=>?_
 rw[List.getElem_map]
 have hi:i<k:=by omega
 refine v8e (by rw[Q8 _ hor (by omega),hc _ (k1x _)]) fun p hp=>?_
 rw[Q8 _ hor (by omega)]at hp
 rw[z2n hor hp k (by omega)]
 have hrow:(z5t (byB S k m))[i]'(by omega)=(gs k (byB S k m) k).2 i:=by
  simp only[q7s hbl,List.getElem_map,List.getElem_range]
 rw[hrow,x2c hbl z3z (q6x hkm hg) (fun j=>(data.getD j []).getD p 0) _ (fun t ht=>?_) i hi]
 ·show (data.getD i []).getD p 0=_
  rw[k0w (l:=data),k0x h2];rfl
 ·have hg2:t<(Q6 S k (k+m)).length:=by omega
  have:=h _ (k1x hg2) p hp
  have e1:(byB S k m).getD t []=(Y5 k m).getD (Q6 S k (k+m))[t] []:=by
   unfold byB
   rw[k0w,k1q,k0x hg2];rfl
  have e2:(ofB S k m).getD t []=S.getD (Q6 S k (k+m))[t] []:=by
   unfold ofB
   rw[k0w,k1q,k0x hg2];rfl
  rw[e1,e2]
  exact this.symm
theorem q3b (data:List z6)(m c:Nat):(q1g data m c).length=m:=by unfold q1g;rw[k1y,q3a]
theorem v2s {data:List z6}{k m c i p:Nat}(hd:data.length=k)(hc:∀ s∈data,s.length=c)(hi:i<k+m)(hp:p<c):((data++q1g data m c).getD i []).getD p 0=U2 ((Y5 k m).getD i []) (fun j=>(data.getD j []).getD p 0) k:=by
 by_cases h:i<k
 ·rw[w2m h,k0w (l:=data++_),k0t (by omega),← k0w]
 ·obtain⟨t,rfl⟩:∃ t,i=k+t:=⟨i - k,by omega⟩
  rw[y7p (by omega),k0w (l:=data++_),k0s (by omega),hd,Nat.add_sub_cancel_left]
  unfold q1g q6r
  rw[k1q,k1q,k2s (by omega)]
  show (x9 (v9 (q3x data.length) data.length t) data c data.length).getD p 0=_
  rw[z2n hc hp _ (k1w _),hd]
theorem v2t {S:List z6}{k m c:Nat}(hkm:k+m≤256)(_hc0:0<c){data:List z6}(hd:data.length=k)(hc:∀ s∈data,s.length=c)
 (hS:∀ i,i<k+m→0<(S.getD i []).length→S.getD i []=(data++q1g data m c).getD i []) (hg:¬ (Q6 S k (k+m)).length<k):J9 S k m c=(data++q1g data m c,0):=by
 have hg2:=(q1u S k (k+m)).2
 have hdat:W9 S k m c=data:=by
  have hl:∀ i,i<k+m→((data++q1g data m c).getD i []).length=c:=fun i hi=>by
   rw[k0w,k0x (by rw[k1z,q3b];omega)]
   have hm:=k1x (l:=data++q1g data m c) (n:=i) (by rw[k1z,q3b];omega)
   rcases List.mem_append.mp hm with h|h
   ·exact hc _ h
   ·have h':_∈(q6r data.length m).map fun a=>x9 a data c data.length:=h
    rw[List.mem_map]at h'
    obtain⟨a,_,e⟩:=h'
    show List.length (_) =c
    exact e ▸ Q8 a hc (k1w _)
  refine v8f hkm (fun i hi=>?_) (by omega) hd hc fun i hi p hp=>?_
  ·obtain⟨h1,h2⟩:=q2n S k (k+m) i hi
   rw[hS i h1 h2];exact hl i h1
  ·obtain⟨h1,h2⟩:=q2n S k (k+m) i hi
   rw[hS i h1 h2];exact v2s hd hc h1 hp
 unfold J9
 rw[k1t hg,hdat]
theorem y0s (L:List z6)(c:Nat)(h1:1≤L.length)(h2:L.length≤64)(c1:1≤c)(c2:c≤4096)(hc:∀ s∈L,s.length=c):AF Tryz.prog x9f [.p (.sl 1 (z2 L))] [] (v8 (bl true) []):=by
 refine AF.mono (R:=fun r H'=>∃ z,z=true∧r=bl z∧H'=[]) ?_ (by rintro r H' ⟨z,rfl,rfl,rfl⟩;exact⟨rfl,rfl⟩)
 have hcl:=u5 L
 have h0:=k0x (show 0<L.length by omega)
 have hc0:=hc _ (k1x (show 0<L.length by omega))
 generalize L[0]=s0 at h0 hc0
 have hx0:(z2 L)[(0:Int).toNat]?=some [bP s0]:=Q0 h0
 have hb0:=w6 s0
 refine v6 hT x9g rfl rfl x9h rfl ?_
 refine q8 hT ?_
 refine z7 ⟨⟨44,[(0,.p (.sl 1 (z2 L)))]⟩,[]⟩ True (q8 hT ?_) (fun _=>?_)
 ·refine y4 (fun h=>?_) (fun h=>?_)
  ·have h:=k0q (show decide ((((z2 L).length:Nat):Int)<1)=true from h)
   omega
  refine z4 (y4 (fun h=>?_) (fun h=>?_))
  ·have h:=k0q (show decide ((((z2 L).length:Nat):Int) > 64)=true from h)
   omega
  exact z5 ⟨q7 [] [0] rfl,trivial⟩
 refine z7 ⟨⟨44,[]⟩,[]⟩ True (q8 hT ?_) (fun _=>?_)
 ·refine z3 ?_
  refine y7 (fun n s=>∃ (k:Nat) (j:Int),n+k=L.length∧j=k∧s=⟨⟨44,[(0,.p (.sl 1 (z2 L))),(3,i64 j)]⟩,[]⟩) L.length ⟨⟨44,_⟩,_⟩ (q7 [] [0,3] rfl) ⟨0,0,rfl,rfl,rfl⟩ ?_
  rintro n s ⟨k,j,hnk,hj,rfl⟩
  refine z8 (q8 hT ?_)
  refine z4 (y4 (fun h=>?_) (fun h=>?_))
  ·have h:=k0q (show decide (j<(((z2 L).length:Nat):Int))=true from h)
   have hk:k<L.length:=by omega
   refine z5 ?_
   have hx:=k0x hk
   have hcx:=hc _ (k1x hk)
   generalize L[k]=s at hx hcx
   have hxp:(z2 L)[j.toNat]?=some [bP s]:=by rw[hj,k0v];exact Q0 hx
   have hbs:=w6 s
   refine z7 ⟨⟨44,[(0,.p (.sl 1 (z2 L))),(3,i64 j)]⟩,[]⟩ True (z3 (z8 ?_)) (fun _=>?_)
   ·refine v7 [] [] hT y5 (by rfl) ?_
    refine⟨by omega,w9 hxp ?_⟩
    refine y4 (fun h=>?_) (fun h=>?_)
    ·have h:=k0q (show decide ((((bx s).length:Nat):Int)<1)=true from h)
     omega
    refine⟨by omega,w9 hxp ?_⟩
    refine y4 (fun h=>?_) (fun h=>?_)
    ·have h:=k0q (show decide ((((bx s).length:Nat):Int) > 4096)=true from h)
     omega
    refine⟨by omega,w9 hxp ?_⟩
    refine⟨by decide,w9 hx0 ?_⟩
    refine z4 (y4 (fun h=>?_) (fun h=>?_))
    ·have h:((((bx s).length:Nat):Int) != (((bx s0).length:Nat):Int))=true:=h
     rw[bne_iff_ne]at h
     omega
    exact z5 ⟨q7 [] [0,3] rfl,trivial⟩
   ·refine q9 hT ?_
    exact⟨n - 1,by omega,_,q7 [] [0,3] rfl,k+1,IntKind.i64.wrap (j+1),by omega,by rw[y8 _ (by omega) (by omega)];omega,rfl⟩
  ·refine x6 ?_
   exact⟨q7 [] [] rfl,trivial⟩
 refine q8 hT ?_
 refine y9 ?_
 exact z9 [] ⟨true,rfl,rfl,rfl⟩ rfl
theorem u0r {k i:Nat}(hi:i<k):(List.replicate k [u8 0]).set i [u8 1]=bx (v9 idA k i):=by
 refine List.ext_getElem? fun j=>?_
 rw[List.getElem?_set,k2q,List.getElem?_replicate]
 by_cases hj:j<k
 ·have hr:(bx (v9 idA k i))[j]?=some [u8 (if i=j then 1 else 0)]:=by
   unfold bx v9
   rw[k1q,k1q,k2s hj]
   show some [u8 (idA i j)]=_
   rw[v8d]
  rw[hr]
  by_cases e:i=j
  ·rw[if_pos e,if_pos hi,if_pos e]
  ·rw[if_neg e,if_pos hj,if_neg e]
 ·rw[if_neg (by omega),if_neg (by omega),List.getElem?_eq_none (by rw[w6,q9j];omega)]
theorem v2u (k:Nat)(h1:1≤k)(h2:k≤64):AF Tryz.prog x9y [i64 k] [] (v8 (.tup [.msl 0 1 0 k,i64 0]) [.row z0 1 (z2 ((List.range k).map (v9 idA k)))]):=by
 refine AF.mono (R:=fun r H'=>∃ z,z=(List.range k).map (v9 idA k)∧r=.tup [.msl 0 1 0 (z2 z).length,i64 0]∧H'=[.row z0 1 (z2 z)]) ?_ (by rintro r H' ⟨z,rfl,rfl,rfl⟩;exact⟨by rw[u5,k1y,k3q],rfl⟩)
 have hRg:∀ i,i<k→((List.range k).map (v9 idA k))[i]?=some (v9 idA k i):=fun i hi=>by rw[k1q,k2s hi];rfl
 have hRl:((List.range k).map (v9 idA k)).length=k:=by rw[k1y,k3q]
 generalize (List.range k).map (v9 idA k)=R at hRg hRl
 refine v6 hT x9z rfl rfl w0a rfl ?_
 refine q8 hT ?_
 refine z7 ⟨⟨28,[(0,i64 k)]⟩,[]⟩ True (q8 hT ?_) (fun _=>?_)
 ·refine y4 (fun h=>?_) (fun h=>?_)
  ·have h:=k0q (show decide ((k:Int)<1)=true from h)
   omega
  refine z4 (y4 (fun h=>?_) (fun h=>?_))
  ·have h:=k0q (show decide ((k:Int) > 64)=true from h)
   omega
  exact z5 ⟨q7 [] [0] rfl,trivial⟩
 refine z7 ⟨⟨28,[(0,i64 k),(4,.msl 0 1 0 0)]⟩,[.row z0 1 (z2 [])]⟩ True (q9 hT ?_) (fun _=>?_)
 ·exact⟨Wk.trans (Q2 z0 1) (Wk.trans (V6 4 0 1 0 rfl) (q7 [0] [0,4] rfl)),trivial⟩
 refine y6 (fun st=>∃ X,X=R∧st=⟨⟨28,[(4,.msl 0 1 0 (z2 X).length)]⟩,[.row z0 1 (z2 X)]⟩) (q8 hT ?_) ?_
 ·refine z3 ?_
  refine y7 (fun c st=>∃ (i:Nat) (ji:Int) (X:List z6),c+i=k∧ji=i∧X=R.take i∧st=⟨⟨28,[(0,i64 k),(4,.msl 0 1 0 (z2 X).length),(5,i64 ji)]⟩,[.row z0 1 (z2 X)]⟩) k ⟨⟨28,_⟩,_⟩ (q7 [0] [0,4,5] rfl) ⟨0,0,[],by omega,rfl,rfl,rfl⟩ ?_
  rintro c st ⟨i,ji,X,hci,hji,hX,rfl⟩
  refine z8 (q8 hT ?_)
  refine z4 (y4 (fun h=>?_) (fun h=>?_))
  ·have h:=k0q (show decide (ji<(k:Int))=true from h)
   have hi:i<k:=by omega
   refine z5 ?_
   have hrow:=u0r hi
   have hnew:R.take (i+1)=X++[v9 idA k i]:=by rw[k2t,hRg i hi,hX];rfl
   have hXl:(z2 X).length=i:=by rw[u5,hX,k2u];omega
   have hbl:(bx (v9 idA k i)).length=k:=by rw[w6,q9j]
   generalize v9 idA k i=row at hrow hnew hbl
   refine y6 (fun st=>∃ X',X'=X++[row]∧st=⟨⟨28,[(0,i64 k),(4,.msl 0 1 0 (z2 X').length),(5,i64 ji)]⟩,[.row z0 1 (z2 X')]⟩) (z3 ?_) ?_
   ·refine y6 (fun st=>∃ Y,Y=List.replicate k [u8 0]∧st=⟨⟨28,[(0,i64 k),(4,.msl 0 1 0 (z2 X).length),(5,i64 ji),(6,.msl 1 1 0 k)]⟩,[.row z0 1 (z2 X),.row z1 1 Y]⟩) (q9 hT ?_) ?_
    ·refine⟨⟨rfl,by omega,by show (k:Int)*1≤_;omega,by omega⟩,?_⟩
     exact⟨_,q7 [0,1] [0,4,5,6] rfl,_,rfl,rfl⟩
    rintro _ ⟨Y,hY,rfl⟩
    have hg:Y[0+ji.toNat]?=some [u8 0]:=by rw[hY,List.getElem?_replicate,if_pos (by omega)]
    have hset:Y.set (0+ji.toNat) [u8 1]=bx row:=by rw[show 0+ji.toNat=i by omega,hY];exact hrow
    refine y6 (fun st=>∃ Y,Y=bx row∧st=⟨⟨28,[(0,i64 k),(4,.msl 0 1 0 (z2 X).length),(5,i64 ji),(6,.msl 1 1 0 k)]⟩,[.row z0 1 (z2 X),.row z1 1 Y]⟩) (q9 hT ?_) ?_
    ·refine⟨⟨by omega,by omega⟩,?_⟩
     refine w9 hg ?_
     exact⟨_,q7 [0,1] [0,4,5,6] rfl,_,hset,rfl⟩
    rintro _ ⟨_,rfl,rfl⟩
    refine u6 (Z6 6 1 k rfl hbl.symm rfl rfl) ?_
    refine q9 hT ?_
    refine⟨rfl,⟨by show ((z2 X).length+1)*24≤_;omega,by show (z2 X).length+1≤_;omega⟩,?_⟩
    refine⟨_,q7 [3] [0,4,5] rfl,_,rfl,?_⟩
    rw[Y1];rfl
   ·rintro _ ⟨X',hX',rfl⟩
    refine q9 hT ?_
    exact⟨c - 1,by omega,_,q7 [0] [0,4,5] rfl,i+1,IntKind.i64.wrap (ji+1),X',by omega,by rw[y8 _ (by omega) (by omega)];omega,by rw[hnew];exact hX',rfl⟩
  ·have h:=k0z (show decide (ji<(k:Int))=false from h)
   rw[k2z (by omega)]at hX
   refine x6 ?_
   exact⟨_,q7 [0] [4] rfl,X,hX,rfl⟩
 rintro _ ⟨X,hX,rfl⟩
 refine q8 hT ?_
 refine y9 ?_
 exact z9 [0] ⟨X,hX,rfl,rfl⟩ rfl
theorem u0s {rows cols:Nat}:∀ i,i<rows→((List.range rows).map (v9 (q3x cols) cols))[i]?=some (v9 (q3x cols) cols i):=fun i hi=>by rw[k1q,k2s hi];rfl
theorem u0t {A:Nat→Nat→UInt8}{c i j:Nat}(hj:j<c):(v9 A c i)[j]?=some (A i j):=by unfold v9;rw[k1q,k2s hj];rfl
theorem x6g (m k:Nat)(h1:1≤m)(h2:m≤64)(k1:1≤k)(k2:k≤64):AF Tryz.prog y5i [i64 m,i64 k] [] (v8 (.tup [.p (.sl 1 (z2 (q6r k m))),i64 0]) []):=by
 refine AF.mono (R:=fun r H'=>∃ z,z=q6r k m∧r=.tup [.p (.sl 1 (z2 z)),i64 0]∧H'=[]) ?_ (by rintro r H' ⟨z,rfl,rfl,rfl⟩;exact⟨rfl,rfl⟩)
 have hRg:∀ i,i<m→(q6r k m)[i]?=some (v9 (q3x k) k i):=u0s
 have hRl:=q3a k m
 generalize q6r k m=R at hRg hRl
 refine v6 hT y5j rfl rfl y5k rfl ?_
 refine q8 hT ?_
 refine z7 ⟨⟨58,[(0,i64 m),(1,i64 k)]⟩,[]⟩ True (q8 hT ?_) (fun _=>?_)
 ·refine y4 (fun h=>?_) (fun h=>?_)
  ·have h:=k0q (show decide ((m:Int)<1)=true from h)
   omega
  refine y4 (fun h=>?_) (fun h=>?_)
  ·have h:=k0q (show decide ((k:Int)<1)=true from h)
   omega
  refine y4 (fun h=>?_) (fun h=>?_)
  ·have h:=k0q (show decide ((m:Int) > 64)=true from h)
   omega
  refine z4 (y4 (fun h=>?_) (fun h=>?_))
  ·have h:=k0q (show decide ((k:Int) > 64)=true from h)
   omega
  exact z5 ⟨q7 [] [0,1] rfl,trivial⟩
 refine z7 ⟨⟨58,[(0,i64 m),(1,i64 k),(6,.msl 0 1 0 0)]⟩,[.row z0 1 (z2 [])]⟩ True (q9 hT ?_) (fun _=>?_)
 ·exact⟨Wk.trans (Q2 z0 1) (Wk.trans (V6 6 0 1 0 rfl) (q7 [0] [0,1,6] rfl)),trivial⟩
 refine y6 (fun st=>∃ X,X=R∧st=⟨⟨58,[(6,.msl 0 1 0 (z2 X).length)]⟩,[.row z0 1 (z2 X)]⟩) (q8 hT ?_) ?_
 ·refine z3 ?_
  refine y7 (fun c st=>∃ (i:Nat) (ji:Int) (X:List z6),c+i=m∧ji=i∧X=R.take i∧st=⟨⟨58,[(0,i64 m),(1,i64 k),(6,.msl 0 1 0 (z2 X).length),(7,i64 ji)]⟩,[.row z0 1 (z2 X)]⟩) m ⟨⟨58,_⟩,_⟩ (q7 [0] [0,1,6,7] rfl) ⟨0,0,[],by omega,rfl,rfl,rfl⟩ ?_
  rintro c st ⟨i,ji,X,hci,hji,hX,rfl⟩
  refine z8 (q8 hT ?_)
  refine z4 (y4 (fun h=>?_) (fun h=>?_))
  ·have h:=k0q (show decide (ji<(m:Int))=true from h)
   have hi:i<m:=by omega
   refine z5 ?_
   have hnew:R.take (i+1)=X++[v9 (q3x k) k i]:=by rw[k2t,hRg i hi,hX];rfl
   have hXl:(z2 X).length=i:=by rw[u5,hX,k2u];omega
   have hrg:=fun j hj=>u0t (A:=q3x k) (c:=k) (i:=i) (j:=j) hj
   have hrl:=q9j (q3x k) k i
   generalize v9 (q3x k) k i=row at hnew hrg hrl
   refine y6 (fun st=>∃ X',X'=X++[row]∧st=⟨⟨58,[(0,i64 m),(1,i64 k),(6,.msl 0 1 0 (z2 X').length),(7,i64 ji)]⟩,[.row z0 1 (z2 X')]⟩) (z3 ?_) ?_
   ·refine z7 ⟨⟨58,[(0,i64 m),(1,i64 k),(6,.msl 0 1 0 (z2 X).length),(7,i64 ji),(8,.msl 1 1 0 0)]⟩,[.row z0 1 (z2 X),.row z1 1 (bx [])]⟩ True (q9 hT ?_) (fun _=>?_)
    ·exact⟨Wk.trans (Q2 z1 1) (Wk.trans (V6 8 1 1 0 rfl) (q7 [0,1] [0,1,6,7,8] rfl)),trivial⟩
    refine y6 (fun st=>∃ Y,Y=row∧st=⟨⟨58,[(0,i64 m),(1,i64 k),(6,.msl 0 1 0 (z2 X).length),(7,i64 ji),(8,.msl 1 1 0 (bx Y).length)]⟩,[.row z0 1 (z2 X),.row z1 1 (bx Y)]⟩) (q8 hT ?_) ?_
    ·refine z3 ?_
     refine y7 (fun c st=>∃ (j:Nat) (jj:Int) (Y:z6),c+j=k∧jj=j∧Y=row.take j∧st=⟨⟨58,[(0,i64 m),(1,i64 k),(6,.msl 0 1 0 (z2 X).length),(7,i64 ji),(8,.msl 1 1 0 (bx Y).length),(9,i64 jj)]⟩,[.row z0 1 (z2 X),.row z1 1 (bx Y)]⟩) k ⟨⟨58,_⟩,_⟩ (q7 [0,1] [0,1,6,7,8,9] rfl) ⟨0,0,[],by omega,rfl,rfl,rfl⟩ ?_
     rintro c st ⟨j,jj,Y,hcj,hjj,hY,rfl⟩
     refine z8 (q8 hT ?_)
     refine z4 (y4 (fun h=>?_) (fun h=>?_))
     ·have h:=k0q (show decide (jj<(k:Int))=true from h)
      have hj:j<k:=by omega
      refine z5 ?_
      have hne:UInt8.ofNat (k+i) ^^^ UInt8.ofNat j≠0:=fun e=>by
       have:=z3y (by omega) (by omega) (q5v e)
       omega
      have wA:=q6u (UInt8.ofNat (k+i)) (UInt8.ofNat j)
      have wD:=q9f 1 _ hne
      rw[Gf.one_mul]at wD
      have hrj:=hrg j hj
      have hcau:q3x k i j=Gf.inv (UInt8.ofNat (k+i) ^^^ UInt8.ofNat j):=rfl
      rw[hcau]at hrj
      have w1:IntKind.u8.wrap (IntKind.i64.wrap ((k:Int)+ji))=((UInt8.ofNat (k+i)).toNat:Int):=by rw[hji,y8 _ (by omega) (by omega),← q0t];rfl
      have w2:IntKind.u8.wrap jj=((UInt8.ofNat j).toNat:Int):=by rw[hjj,← q0t]
      have wA:AF Tryz.prog y1g [.p (.raw (.int .u8 (IntKind.u8.wrap (IntKind.i64.wrap ((k:Int)+ji))))),.p (.raw (.int .u8 (IntKind.u8.wrap jj)))] [] (v8 (.p (u8 (UInt8.ofNat (k+i) ^^^ UInt8.ofNat j))) []):=by rw[w1,w2];exact wA
      generalize UInt8.ofNat (k+i) ^^^ UInt8.ofNat j=s at wA wD hrj
      generalize Gf.inv s=v at wD hrj
      have hYl:(bx Y).length=j:=by rw[w6,hY,k2u];omega
      have hnewY:row.take (j+1)=Y++[v]:=by rw[k2t,hrj,hY];rfl
      refine y6 (fun st=>∃ Y',Y'=Y++[v]∧st=⟨⟨58,[(0,i64 m),(1,i64 k),(6,.msl 0 1 0 (z2 X).length),(7,i64 ji),(8,.msl 1 1 0 (bx Y').length),(9,i64 jj)]⟩,[.row z0 1 (z2 X),.row z1 1 (bx Y')]⟩) (z3 (q8 hT ?_)) ?_
      ·refine x7 (w7 wA _ rfl rfl) ?_
       refine z7 ⟨⟨58,[(0,i64 m),(1,i64 k),(6,.msl 0 1 0 (z2 X).length),(7,i64 ji),(8,.msl 1 1 0 (bx Y).length),(9,i64 jj),(11,.p (u8 v))]⟩,[.row z0 1 (z2 X),.row z1 1 (bx Y)]⟩ True (q9 hT ?_) (fun _=>?_)
       ·refine x7 (w7 wD _ rfl rfl) ?_
        exact⟨q7 [0,1] [0,1,6,7,8,9,11] rfl,trivial⟩
       refine q9 hT ?_
       refine⟨rfl,⟨by show ((bx Y).length+1)*1≤_;omega,by show (bx Y).length+1≤_;omega⟩,?_⟩
       refine⟨_,q7 [0,3] [0,1,6,7,8,9] rfl,_,rfl,?_⟩
       rw[Y9];rfl
      ·rintro _ ⟨Y',hY',rfl⟩
       refine q9 hT ?_
       exact⟨c - 1,by omega,_,q7 [0,1] [0,1,6,7,8,9] rfl,j+1,IntKind.i64.wrap (jj+1),Y',by omega,by rw[y8 _ (by omega) (by omega)];omega,by rw[hnewY];exact hY',rfl⟩
     ·have h:=k0z (show decide (jj<(k:Int))=false from h)
      rw[k2z (by omega)]at hY
      refine x6 ?_
      exact⟨_,q7 [0,1] [0,1,6,7,8] rfl,Y,hY,rfl⟩
    rintro _ ⟨Y,rfl,rfl⟩
    refine u6 (Z6 8 1 _ rfl rfl rfl rfl) ?_
    refine q9 hT ?_
    refine⟨rfl,⟨by show ((z2 X).length+1)*24≤_;omega,by show (z2 X).length+1≤_;omega⟩,?_⟩
    refine⟨_,q7 [3] [0,1,6,7] rfl,_,rfl,?_⟩
    rw[Y1];rfl
   ·rintro _ ⟨X',hX',rfl⟩
    refine q9 hT ?_
    exact⟨c - 1,by omega,_,q7 [0] [0,1,6,7] rfl,i+1,IntKind.i64.wrap (ji+1),X',by omega,by rw[y8 _ (by omega) (by omega)];omega,by rw[hnew];exact hX',rfl⟩
  ·have h:=k0z (show decide (ji<(m:Int))=false from h)
   rw[k2z (by omega)]at hX
   refine x6 ?_
   exact⟨_,q7 [0] [6] rfl,X,hX,rfl⟩
 rintro _ ⟨X,hX,rfl⟩
 refine u6 (Z6 6 0 _ rfl rfl rfl rfl) ?_
 refine q8 hT ?_
 refine y9 ?_
 exact z9 [] ⟨X,hX,rfl,rfl⟩ rfl
theorem getD_some {B:List z6}{j:Nat}{s:z6}(h:B[j]?=some s):B.getD j []=s:=by rw[k0w,h];rfl
theorem q7u (k m:Nat)(k1:1≤k)(m1:1≤m)(hkm:k+m≤64):AF Tryz.prog x5c [i64 k,i64 m] [] (v8 (.tup [.p (.sl 1 (z2 (Y5 k m))),i64 0]) []):=by
 refine AF.mono (R:=fun r H'=>∃ z,z=z2 (Y5 k m)∧r=.tup [.p (.sl 1 z),i64 0]∧H'=[]) ?_ (by rintro r H' ⟨z,rfl,rfl,rfl⟩;exact⟨rfl,rfl⟩)
 have wo:=v2u k k1 (by omega)
 have wc:=x6g m k m1 (by omega) k1 (by omega)
 have hz:z2 ((List.range k).map (v9 idA k))++z2 (q6r k m)=z2 (Y5 k m):=by unfold Y5;rw[Y1]
 have hol:((List.range k).map (v9 idA k)).length=k:=by rw[k1y,k3q]
 have hcl:=q3a k m
 generalize z2 (Y5 k m)=Z at hz
 generalize (List.range k).map (v9 idA k)=O at wo hz hol
 generalize q6r k m=C at wc hz hcl
 have hocl:=u5 O
 have hccl:=u5 C
 refine v6 hT x5d rfl rfl x5e rfl ?_
 refine q8 hT ?_
 refine z7 ⟨⟨47,[(0,i64 k),(1,i64 m)]⟩,[]⟩ True (q8 hT ?_) (fun _=>?_)
 ·refine y4 (fun h=>?_) (fun h=>?_)
  ·have h:=k0q (show decide ((k:Int)<1)=true from h)
   omega
  refine y4 (fun h=>?_) (fun h=>?_)
  ·have h:=k0q (show decide ((k:Int) > 64)=true from h)
   omega
  refine y4 (fun h=>?_) (fun h=>?_)
  ·have h:=k0q (show decide ((m:Int) > 64)=true from h)
   omega
  refine z4 (y4 (fun h=>?_) (fun h=>?_))
  ·have h:=k0q (show decide (IntKind.i64.wrap ((k:Int)+m) > 64)=true from h)
   rw[y8 _ (by omega) (by omega)]at h
   omega
  exact z5 ⟨q7 [] [0,1] rfl,trivial⟩
 refine z7 ⟨⟨47,[(0,i64 k),(1,i64 m),(6,.msl 0 1 0 k)]⟩,[.row z0 1 (z2 O)]⟩ True (q9 hT ?_) (fun _=>?_)
 ·refine x7 wo ?_
  exact⟨q7 [0] [0,1,6] rfl,trivial⟩
 refine y6 (fun st=>∃ Y,Y=Z∧st=⟨⟨47,[(6,.msl 0 1 0 Y.length)]⟩,[.row z0 1 Y]⟩) (q8 hT ?_) ?_
 ·refine z4 (y4 (fun h=>?_) (fun h=>?_))
  ·refine q8 hT ?_
   refine x7 (w7 wc _ rfl rfl) ?_
   refine q9 hT ?_
   refine⟨by omega,⟨by show (((z2 O).length:Nat)+(z2 C).length)*24≤_;omega,by omega⟩,?_⟩
   exact⟨_,q7 [1] [6] rfl,_,hz,rfl⟩
  ·have h:=k0z (show decide ((m:Int) > 0)=false from h)
   omega
 rintro _ ⟨Y,hY,rfl⟩
 refine u6 (Z6 6 0 _ rfl rfl rfl rfl) ?_
 refine q8 hT ?_
 refine y9 ?_
 exact z9 [] ⟨Y,hY,rfl,rfl⟩ rfl
theorem w7b (A B:List z6)(q c:Nat)(h1:1≤A.length)(h2:A.length≤64)(q1:1≤q)(q2:q≤64)(c1:1≤c)(c2:c≤4096)(hA:∀ s∈A,s.length=q)(hB:B.length=q)(hBc:∀ s∈B,s.length=c) :
 AFm Tryz.prog 1 x9i [.p (.sl 1 (z2 A)),.msl 0 1 0 q] [.row z0 1 (z2 B)] (v8 (.tup [.p (.sl 1 (z2 (A.map fun a=>x9 a B c q))),i64 0]) [.row z0 1 (z2 B)]):=by
 refine AFm.mono (R:=fun r H'=>∃ z,z=A.map (fun a=>x9 a B c q)∧r=.tup [.p (.sl 1 (z2 z)),i64 0]∧H'=[.row z0 1 (z2 B)]) ?_ (by rintro r H' ⟨z,rfl,rfl,rfl⟩;exact⟨rfl,rfl⟩)
 have hRg:∀ i a,A[i]?=some a→(A.map fun a=>x9 a B c q)[i]?=some (x9 a B c q):=fun i a h=>by rw[k1q,h];rfl
 have hRl:(A.map fun a=>x9 a B c q).length=A.length:=k1y _
 generalize (A.map fun a=>x9 a B c q)=R at hRg hRl
 have wA:=y0s A q h1 h2 q1 (by omega) hA
 have wB0:=y0s B c (by omega) (by omega) c1 c2 hBc
 have hAl:=u5 A
 have hBl:=u5 B
 have wB:=q9z wB0 0 (H:=[.row z0 1 (z2 B)]) (args:=[.msl 0 1 0 q]) (t:=z0) (sz:=1) (xs:=z2 B) rfl ⟨.inr (.inl ⟨congrArg (AV.msl 0 1 0) (show q=(z2 B).length by omega),rfl⟩),trivial⟩ rfl (fun k hk=>by simp at hk)
 have a0:=k0x (show 0<A.length by omega)
 have a0l:=hA _ (k1x (show 0<A.length by omega))
 generalize A[0]=ra0 at a0 a0l
 have ax0:(z2 A)[(0:Int).toNat]?=some [bP ra0]:=Q0 a0
 have b0:=k0x (show 0<B.length by omega)
 have b0l:=hBc _ (k1x (show 0<B.length by omega))
 generalize B[0]=rb0 at b0 b0l
 have bx0:(z2 B)[0+(0:Int).toNat]?=some [bP rb0]:=Q0 b0
 have hal0:=w6 ra0
 have hbl0:=w6 rb0
 refine Q5 1 hT x9j rfl rfl x9k rfl rfl ?_
 refine q8 hT ?_
 refine q8 hT ?_
 refine x7 (w7 wA _ rfl rfl) ?_
 refine q8 hT ?_
 refine x7 wB ?_
 refine z7 ⟨⟨81,[(0,.p (.sl 1 (z2 A))),(1,.msl 0 1 0 q)]⟩,[.row z0 1 (z2 B)]⟩ True (q8 hT ?_) (fun _=>?_)
 ·refine⟨by decide,w9 ax0 ?_⟩
  refine z4 (y4 (fun h=>?_) (fun h=>?_))
  ·have h:((((bx ra0).length:Nat):Int) != (q:Int))=true:=h
   rw[bne_iff_ne]at h
   omega
  exact z5 ⟨q7 [0] [0,1] rfl,trivial⟩
 refine z7 ⟨⟨81,[(0,.p (.sl 1 (z2 A))),(1,.msl 0 1 0 q),(8,.msl 1 1 0 0)]⟩,[.row z0 1 (z2 B),.row z0 1 (z2 [])]⟩ True (q9 hT ?_) (fun _=>?_)
 ·exact⟨Wk.trans (Q2 z0 1) (Wk.trans (V6 8 1 1 0 rfl) (q7 [0,1] [0,1,8] rfl)),trivial⟩
 refine y6 (fun st=>∃ X,X=R∧st=⟨⟨81,[(8,.msl 1 1 0 (z2 X).length)]⟩,[.row z0 1 (z2 B),.row z0 1 (z2 X)]⟩) (q8 hT ?_) ?_
 ·refine z3 ?_
  refine y7 (fun n st=>∃ (i:Nat) (ji:Int) (X:List z6),n+i=A.length∧ji=i∧X=R.take i∧st=⟨⟨81,[(0,.p (.sl 1 (z2 A))),(1,.msl 0 1 0 q),(8,.msl 1 1 0 (z2 X).length),(9,i64 ji)]⟩,[.row z0 1 (z2 B),.row z0 1 (z2 X)]⟩) A.length ⟨⟨81,_⟩,_⟩ (q7 [0,1] [0,1,8,9] rfl) ⟨0,0,[],by omega,rfl,rfl,rfl⟩ ?_
  rintro n st ⟨i,ji,X,hni,hji,hX,rfl⟩
  refine z8 (q8 hT ?_)
  refine z4 (y4 (fun h=>?_) (fun h=>?_))
  ·have h:=k0q (show decide (ji<(((z2 A).length:Nat):Int))=true from h)
   have hi:i<A.length:=by omega
   refine z5 ?_
   have ha:=k0x hi
   have hal:=hA _ (k1x hi)
   generalize A[i]=a at ha hal
   have hap:(z2 A)[ji.toNat]?=some [bP a]:=by rw[hji,k0v];exact Q0 ha
   have hnew:R.take (i+1)=X++[x9 a B c q]:=by rw[k2t,hRg i a ha,hX];rfl
   have hXl:(z2 X).length=i:=by rw[u5,hX,k2u];omega
   have hrl:=Q8 a hBc (k:=q) (by omega)
   have hrg:∀ p,p<c→(x9 a B c q)[p]?=some (U2 a (fun j=>(B.getD j []).getD p 0) q):=fun p hp=>by
    rw[← z2n hBc hp q (by omega)]
    exact Q3 (by omega)
   generalize x9 a B c q=row at hnew hrg hrl
   have hbal:=w6 a
   refine y6 (fun st=>∃ X',X'=X++[row]∧st=⟨⟨81,[(0,.p (.sl 1 (z2 A))),(1,.msl 0 1 0 q),(8,.msl 1 1 0 (z2 X').length),(9,i64 ji)]⟩,[.row z0 1 (z2 B),.row z0 1 (z2 X')]⟩) (z3 ?_) ?_
   ·refine z7 ⟨⟨81,[(0,.p (.sl 1 (z2 A))),(1,.msl 0 1 0 q),(8,.msl 1 1 0 (z2 X).length),(9,i64 ji),(10,.msl 2 1 0 0)]⟩,[.row z0 1 (z2 B),.row z0 1 (z2 X),.row z1 1 (bx [])]⟩ True (q9 hT ?_) (fun _=>?_)
    ·exact⟨Wk.trans (Q2 z1 1) (Wk.trans (V6 10 2 1 0 rfl) (q7 [0,1,2] [0,1,8,9,10] rfl)),trivial⟩
    refine y6 (fun st=>∃ Y,Y=row∧st=⟨⟨81,[(0,.p (.sl 1 (z2 A))),(1,.msl 0 1 0 q),(8,.msl 1 1 0 (z2 X).length),(9,i64 ji),(10,.msl 2 1 0 (bx Y).length)]⟩,[.row z0 1 (z2 B),.row z0 1 (z2 X),.row z1 1 (bx Y)]⟩) (q8 hT ?_) ?_
    ·refine z3 ?_
     refine y7 (fun n st=>∃ (p:Nat) (jp:Int) (Y:z6),n+p=c∧jp=p∧Y=row.take p∧st=⟨⟨81,[(0,.p (.sl 1 (z2 A))),(1,.msl 0 1 0 q),(8,.msl 1 1 0 (z2 X).length),(9,i64 ji),(10,.msl 2 1 0 (bx Y).length),(11,i64 jp)]⟩,[.row z0 1 (z2 B),.row z0 1 (z2 X),.row z1 1 (bx Y)]⟩) c ⟨⟨81,_⟩,_⟩ (q7 [0,1,2] [0,1,8,9,10,11] rfl) ⟨0,0,[],by omega,rfl,rfl,rfl⟩ ?_
     rintro n st ⟨p,jp,Y,hnp,hjp,hY,rfl⟩
     refine z8 (q8 hT ?_)
     refine⟨⟨by decide,by omega⟩,?_⟩
     refine w9 bx0 ?_
     refine z4 (y4 (fun h=>?_) (fun h=>?_))
     ·have h:=k0q (show decide (jp<(((bx rb0).length:Nat):Int))=true from h)
      have hp:p<c:=by omega
      refine z5 ?_
      have hrp:=hrg p hp
      have hd0:U2 a (fun j=>(B.getD j []).getD p 0) 0=0:=rfl
      have hds:∀ j,U2 a (fun j=>(B.getD j []).getD p 0) (j+1)=U2 a (fun j=>(B.getD j []).getD p 0) j ^^^ Gf.mul (a.getD j 0) ((B.getD j []).getD p 0):=fun j=>rfl
      generalize U2 a (fun j=>(B.getD j []).getD p 0)=dk at hrp hd0 hds
      have hYl:(bx Y).length=p:=by rw[w6,hY,k2u];omega
      have hnewY:row.take (p+1)=Y++[dk q]:=by rw[k2t,hrp,hY];rfl
      refine y6 (fun st=>∃ Y',Y'=Y++[dk q]∧st=⟨⟨81,[(0,.p (.sl 1 (z2 A))),(1,.msl 0 1 0 q),(8,.msl 1 1 0 (z2 X).length),(9,i64 ji),(10,.msl 2 1 0 (bx Y').length),(11,i64 jp)]⟩,[.row z0 1 (z2 B),.row z0 1 (z2 X),.row z1 1 (bx Y')]⟩) (z3 (q8 hT ?_)) ?_
      ·refine y6 (fun st=>∃ v,v=dk q∧st=⟨⟨81,[(0,.p (.sl 1 (z2 A))),(1,.msl 0 1 0 q),(8,.msl 1 1 0 (z2 X).length),(9,i64 ji),(10,.msl 2 1 0 (bx Y).length),(11,i64 jp),(12,.p (u8 v))]⟩,[.row z0 1 (z2 B),.row z0 1 (z2 X),.row z1 1 (bx Y)]⟩) (q8 hT ?_) ?_
       ·refine z3 ?_
        refine y7 (fun n st=>∃ (j:Nat) (jj:Int) (v:UInt8),n+j=q∧jj=j∧v=dk j∧st=⟨⟨81,[(0,.p (.sl 1 (z2 A))),(1,.msl 0 1 0 q),(8,.msl 1 1 0 (z2 X).length),(9,i64 ji),(10,.msl 2 1 0 (bx Y).length),(11,i64 jp),(12,.p (u8 v)),(13,i64 jj)]⟩,[.row z0 1 (z2 B),.row z0 1 (z2 X),.row z1 1 (bx Y)]⟩) q ⟨⟨81,_⟩,_⟩ (q7 [0,1,2] [0,1,8,9,10,11,12,13] rfl) ⟨0,0,0,by omega,rfl,hd0.symm,rfl⟩ ?_
        rintro n st ⟨j,jj,v,hnj,hjj,hv,rfl⟩
        refine z8 (q8 hT ?_)
        refine z4 (y4 (fun h=>?_) (fun h=>?_))
        ·have h:=k0q (show decide (jj<(q:Int))=true from h)
         have hj:j<B.length:=by omega
         refine z5 ?_
         have hb:=k0x hj
         have hbl:=hBc _ (k1x hj)
         generalize B[j]=rb at hb hbl
         have hbp:(z2 B)[0+jj.toNat]?=some [bP rb]:=by rw[Nat.zero_add,hjj,k0v];exact Q0 hb
         have hbrl:=w6 rb
         have hdj:=hds j
         rw[getD_some hb]at hdj
         have haj:(bx a)[jj.toNat]?=some [u8 (a.getD j 0)]:=by rw[hjj,k0v];exact u7 (Q3 (by omega))
         have hrj:(bx rb)[jp.toNat]?=some [u8 (rb.getD p 0)]:=by rw[hjp,k0v];exact u7 (Q3 (by omega))
         have wM:=q6v (a.getD j 0) (rb.getD p 0)
         have wS:=q6u v (Gf.mul (a.getD j 0) (rb.getD p 0))
         have hv2:dk (j+1)=v ^^^ Gf.mul (a.getD j 0) (rb.getD p 0):=by rw[hdj,hv]
         generalize a.getD j 0=x at haj wM wS hv2
         generalize rb.getD p 0=y at hrj wM wS hv2
         generalize Gf.mul x y=xy at wM wS hv2
         refine y6 (fun st=>∃ v',v'=v ^^^ xy∧st=⟨⟨81,[(0,.p (.sl 1 (z2 A))),(1,.msl 0 1 0 q),(8,.msl 1 1 0 (z2 X).length),(9,i64 ji),(10,.msl 2 1 0 (bx Y).length),(11,i64 jp),(12,.p (u8 v')),(13,i64 jj)]⟩,[.row z0 1 (z2 B),.row z0 1 (z2 X),.row z1 1 (bx Y)]⟩) (z3 (z8 ?_)) ?_
         ·refine v7 [] [] hT y5 (by rfl) ?_
          refine⟨by omega,w9 hap ?_⟩
          refine⟨by omega,w9 haj ?_⟩
          refine⟨⟨by omega,by omega⟩,?_⟩
          refine w9 hbp ?_
          refine⟨by omega,w9 hrj ?_⟩
          refine⟨_,w7 wM _ rfl rfl,?_⟩
          refine q9 hT ?_
          refine x7 (w7 wS _ rfl rfl) ?_
          exact⟨_,q7 [0,1,2] [0,1,8,9,10,11,12,13] rfl,_,rfl,rfl⟩
         ·rintro _ ⟨v',hv',rfl⟩
          refine q9 hT ?_
          exact⟨n - 1,by omega,_,q7 [0,1,2] [0,1,8,9,10,11,12,13] rfl,j+1,IntKind.i64.wrap (jj+1),v',by omega,by rw[y8 _ (by omega) (by omega)];omega,by rw[hv2];exact hv',rfl⟩
        ·have h:=k0z (show decide (jj<(q:Int))=false from h)
         refine x6 ?_
         exact⟨_,q7 [0,1,2] [0,1,8,9,10,11,12] rfl,v,by rw[hv,show j=q by omega],rfl⟩
       rintro _ ⟨v,rfl,rfl⟩
       refine q9 hT ?_
       refine⟨rfl,⟨by show ((bx Y).length+1)*1≤_;omega,by show (bx Y).length+1≤_;omega⟩,?_⟩
       refine⟨_,q7 [0,1,4] [0,1,8,9,10,11] rfl,_,rfl,?_⟩
       rw[Y9];rfl
      ·rintro _ ⟨Y',hY',rfl⟩
       refine q9 hT ?_
       exact⟨n - 1,by omega,_,q7 [0,1,2] [0,1,8,9,10,11] rfl,p+1,IntKind.i64.wrap (jp+1),Y',by omega,by rw[y8 _ (by omega) (by omega)];omega,by rw[hnewY];exact hY',rfl⟩
     ·have h:=k0z (show decide (jp<(((bx rb0).length:Nat):Int))=false from h)
      rw[k2z (by omega)]at hY
      refine x6 ?_
      exact⟨_,q7 [0,1,2] [0,1,8,9,10] rfl,Y,hY,rfl⟩
    rintro _ ⟨Y,rfl,rfl⟩
    refine u6 (Z6 10 2 _ rfl rfl rfl rfl) ?_
    refine q9 hT ?_
    refine⟨rfl,⟨by show ((z2 X).length+1)*24≤_;omega,by show (z2 X).length+1≤_;omega⟩,?_⟩
    refine⟨_,q7 [0,4] [0,1,8,9] rfl,_,rfl,?_⟩
    rw[Y1];rfl
   ·rintro _ ⟨X',hX',rfl⟩
    refine q9 hT ?_
    exact⟨n - 1,by omega,_,q7 [0,1] [0,1,8,9] rfl,i+1,IntKind.i64.wrap (ji+1),X',by omega,by rw[y8 _ (by omega) (by omega)];omega,by rw[hnew];exact hX',rfl⟩
  ·have h:=k0z (show decide (ji<(((z2 A).length:Nat):Int))=false from h)
   rw[k2z (by omega)]at hX
   refine x6 ?_
   exact⟨_,q7 [0,1] [8] rfl,X,hX,rfl⟩
 rintro _ ⟨X,hX,rfl⟩
 refine u6 (Z6 8 1 _ rfl rfl rfl rfl) ?_
 refine q8 hT ?_
 refine y9 ?_
 exact z9 [0] ⟨X,hX,rfl,rfl⟩ rfl
theorem q5h (data:List z6)(m c:Nat)(k1:1≤data.length)(m1:1≤m)(hkm:data.length+m≤64)(c1:1≤c)(c2:c≤4096)(hc:∀ s∈data,s.length=c) :
 AFm Tryz.prog 1 q1y [.msl 0 1 0 data.length,i64 m] [.row z0 1 (z2 data)] (v8 (.tup [.p (.sl 1 (z2 (q1g data m c))),i64 0]) [.row z0 1 (z2 data)]):=by
 obtain⟨k,hk⟩:∃ k,k=data.length:=⟨_,rfl⟩
 have wr:=q7u k m (by omega) m1 (by omega)
 have wm0:=y0s data c k1 (by omega) c1 c2 hc
 have hdl:=u5 data
 have wm:=q9z wm0 0 (H:=[.row z0 1 (z2 data)]) (args:=[.msl 0 1 0 k]) (t:=z0) (sz:=1) (xs:=z2 data) rfl ⟨.inr (.inl ⟨congrArg (AV.msl 0 1 0) (show k=(z2 data).length by omega),rfl⟩),trivial⟩ rfl (fun k hk=>by simp at hk)
 rw[← hk]
 have wx:=w7b (q6r k m) data k c (by rw[q3a];exact m1) (by rw[q3a];omega) (by omega) (by omega) c1 c2 y7f hk.symm hc
 have hE:q1g data m c=(q6r k m).map fun a=>x9 a data c k:=by unfold q1g;rw[← hk]
 rw[← hE]at wx
 have hrl:=q3s k m
 have hrc:=u5 (Y5 k m)
 have hsl:((z2 (Y5 k m)).take (((z2 (Y5 k m)).length:Nat):Int).toNat).drop ((k:Nat):Int).toNat=z2 (q6r k m):=by
  simp only[Int.toNat_natCast]
  rw[List.take_length,x1y]
  unfold Y5
  rw[List.drop_left' (by rw[k1y,k3q])]
 rw[← hsl]at wx
 generalize q1g data m c=E at wx ⊢
 generalize z2 (Y5 k m)=R at wr wx hrc
 refine Q5 1 hT y4v rfl rfl y4w rfl rfl ?_
 refine q8 hT ?_
 refine q8 hT ?_
 refine x7 wm ?_
 refine z7 ⟨⟨34,[(0,.msl 0 1 0 k),(1,i64 m),(6,bl true),(7,.p (.sl 1 R)),(8,i64 0)]⟩,[.row z0 1 (z2 data)]⟩ True (q9 hT ?_) (fun _=>?_)
 ·refine x7 (w7 wr _ rfl rfl) ?_
  exact⟨q7 [0] [0,1,6,7,8] rfl,trivial⟩
 refine z8 (q8 hT ?_)
 refine z4 ?_
 refine z5 ?_
 refine z8 (q8 hT ?_)
 refine z4 (y4 (fun h=>?_) (fun h=>?_))
 ·have h:((m:Int)==0)=true:=h
  rw[beq_iff_eq]at h
  omega
 refine z5 ?_
 refine q8 hT ?_
 refine⟨⟨by omega,by omega,Int.le_refl _⟩,?_⟩
 refine x7 (Q7 [0] wx rfl rfl rfl) ?_
 refine y9 ?_
 exact z9 [0] ⟨rfl,rfl⟩ rfl
theorem V3 {g:GeoV}(h:g.may=true):g.fits=true:=by unfold GeoV.may at h;rw[k1v]at h;exact h.1
def GeoV.groups (g:GeoV):Int:=match g.may with|true=>1+g.w+2*g.s|false=>0
theorem w2n (g:GeoV)(h:g.fits=true):AF Tryz.prog z1t [g.av] [] (v8 (i64 (1+g.w+2*g.s)) []):=by
 obtain⟨h1,h2,h3,h4,h5,h6,h7,h8⟩:=V1 h
 refine v6 hT y5f rfl rfl y5g rfl ?_
 refine q8 hT ?_
 refine u6 (Q4 0 g.pv rfl rfl) ?_
 refine q8 hT ?_
 refine y9 ?_
 rw[show i64 (1+g.w+2*g.s)=i64 (IntKind.i64.wrap (IntKind.i64.wrap (1+g.w)+IntKind.i64.wrap (2*g.s))) by
  rw[y8 (1+g.w) (by omega) (by omega),y8 (2*g.s) (by omega) (by omega),y8 _ (by omega) (by omega)]]
 exact z9 [] ⟨rfl,rfl⟩ rfl
theorem w7c (g:GeoV):AF Tryz.prog x4x [g.av] [] (v8 (i64 g.groups) []):=by
 have wo:AF Tryz.prog x8z [g.av,.clo (.func z1t) []] [] (v8 (i64 g.groups) []):=by
  refine v6 hT x9a rfl rfl x9b rfl ?_
  refine q8 hT ?_
  refine u6 (Q4 0 g.pv rfl rfl) ?_
  unfold GeoV.groups
  refine z8 (q8 hT ?_)
  refine x7 (w7 (x5w g) _ rfl rfl) ?_
  refine z4 (y4 (fun h=>?_) (fun h=>?_))
  ·have h:(!g.may)=true:=h
   rw[Bool.not_eq_true']at h
   rw[h]
   refine q8 hT ?_
   refine y9 ?_
   exact z9 [] ⟨rfl,rfl⟩ rfl
  ·have h:(!g.may)=false:=h
   rw[Bool.not_eq_false']at h
   rw[h]
   have hf:=V3 h
   refine z5 ?_
   refine q8 hT ?_
   refine x7 (w7 (w2n g hf) _ rfl rfl) ?_
   refine y9 ?_
   exact z9 [] ⟨rfl,rfl⟩ rfl
 refine v6 hT x4y rfl rfl x4z rfl ?_
 refine q8 hT ?_
 refine u6 (Q4 0 g.pv rfl rfl) ?_
 refine q8 hT ?_
 refine x7 (w7 wo _ rfl rfl) ?_
 refine y9 ?_
 exact z9 [] ⟨rfl,rfl⟩ rfl
def z2p (first:Int)(n k:Nat):List (List PV):=(List.range n).map fun j=>([.raw (.int .i64 (if j<k then first+j else 0))]:List PV)
theorem z8g (first:Int)(n k:Nat):(z2p first n k).length=n:=by unfold z2p;rw[k1y,k3q]
theorem q9p {first:Int}{n k j:Nat}(h:j<n):(z2p first n k)[j]?=some [.raw (.int .i64 (if j<k then first+j else 0))]:=by
 unfold z2p;rw[k1q,k2s h];rfl
theorem v8g {first:Int}{n k:Nat}(h:k<n):(z2p first n k).set k [.raw (.int .i64 (first+k))]=z2p first n (k+1):=by
 refine List.ext_getElem? fun j=>?_
 rw[List.getElem?_set]
 by_cases hj:j<n
 ·rw[z8g]
  by_cases e:k=j
  ·subst e
   rw[if_pos rfl,if_pos h,q9p h,if_pos (by omega)]
  ·rw[if_neg e,q9p hj,q9p hj]
   by_cases h2:j<k
   ·rw[if_pos h2,if_pos (by omega)]
   ·rw[if_neg h2,if_neg (by omega)]
 ·rw[if_neg (by omega),List.getElem?_eq_none (by rw[z8g];omega),List.getElem?_eq_none (by rw[z8g];omega)]
theorem v2v (first:Int)(n:Nat):z2p first n 0=List.replicate n [.raw (.int .i64 0)]:=by
 refine List.ext_getElem? fun j=>?_
 rw[List.getElem?_replicate]
 by_cases hj:j<n
 ·rw[q9p hj,if_neg (by omega),if_pos hj]
 ·rw[List.getElem?_eq_none (by rw[z8g];omega),if_neg hj]
theorem y9u (first:Int)(j:Nat)(h0:0≤first)(h1:first≤100000)(hj:j≤1000):AF Tryz.prog q1s [i64 j,.p (.box [.raw (.int .i64 first)])] [] (v8 (i64 (first+j)) []):=by
 refine v6 hT y1z rfl rfl y2a rfl ?_
 refine q8 hT ?_
 refine q8 hT ?_
 refine y9 ?_
 rw[show i64 (first+j)=i64 (IntKind.i64.wrap (first+j)) by rw[y8 _ (by omega) (by omega)]]
 exact z9 [] ⟨rfl,rfl⟩ rfl
theorem u0u (first:Int)(n:Nat)(h0:0≤first)(h1:first≤100000)(n1:1≤n)(n2:n≤1000) :
 AF Tryz.prog v0m [i64 n,.clo (.func q1s) [.p (.box [.raw (.int .i64 first)])]] [] (v8 (.msl 0 1 0 n) [.row q4u 1 (z2p first n n)]):=by
 have hz:=v2v first n
 have w:=fun j hj=>y9u first j h0 h1 hj
 refine v6 hT v0n rfl rfl v0p rfl ?_
 refine q8 hT ?_
 refine y6 (fun st=>∃ X,X=z2p first n 0∧st=⟨⟨22,[(1,.clo (.func q1s) [.p (.box [.raw (.int .i64 first)])]),(5,.msl 0 1 0 n)]⟩,[.row q4u 1 X]⟩) (q9 hT ?_) ?_
 ·refine⟨⟨rfl,by omega,⟨by show (n:Int)*8≤_;omega,by omega⟩⟩,?_⟩
  exact⟨_,q7 [0] [1,5] rfl,_,hz.symm,rfl⟩
 rintro _ ⟨X,hX,rfl⟩
 refine y6 (fun st=>∃ X,X=z2p first n n∧st=⟨⟨22,[(5,.msl 0 1 0 n)]⟩,[.row q4u 1 X]⟩) (q8 hT ?_) ?_
 ·refine z3 ?_
  refine y7 (fun m s=>∃ (k:Nat) (j:Int) (X:_),m+k=n∧j=k∧X=z2p first n k∧s=⟨⟨22,[(1,.clo (.func q1s) [.p (.box [.raw (.int .i64 first)])]),(5,.msl 0 1 0 n),(10,i64 n),(11,i64 j)]⟩,[.row q4u 1 X]⟩) n ⟨⟨22,_⟩,_⟩ (q7 [0] [1,5,10,11] rfl) ⟨0,0,X,by omega,rfl,hX,rfl⟩ ?_
  clear hz
  rintro m s ⟨k,j,X,hmk,hj,hX,rfl⟩
  refine q8 hT ?_
  refine z8 (z4 (y4 (fun h=>?_) (fun h=>?_)))
  ·have h:=k0q (show decide (j<(n:Int))=true from h)
   have hk:k<n:=by omega
   refine z5 ?_
   have w:=w k (by omega)
   rw[← hj]at w
   have hgx:X[0+j.toNat]?=some [.raw (.int .i64 0)]:=by
    rw[show 0+j.toNat=k by omega,hX,q9p hk,if_neg (by omega)]
   have hset:X.set (0+j.toNat) [.raw (.int .i64 (first+j))]=z2p first n (k+1):=by
    rw[show 0+j.toNat=k by omega,hX,hj];exact v8g hk
   generalize first+j=v at w hset
   refine y6 (fun st=>∃ X,X=z2p first n (k+1)∧st=⟨⟨22,[(1,.clo (.func q1s) [.p (.box [.raw (.int .i64 first)])]),(5,.msl 0 1 0 n),(10,i64 n),(11,i64 j)]⟩,[.row q4u 1 X]⟩) (z3 ?_) ?_
   ·refine q8 hT ?_
    refine q9 hT ?_
    refine x7 (w7 w _ rfl rfl) ?_
    refine⟨⟨by omega,by omega⟩,?_⟩
    refine w9 hgx ?_
    exact⟨_,q7 [0] [1,5,10,11] rfl,_,hset,rfl⟩
   ·rintro _ ⟨X,rfl,rfl⟩
    refine q9 hT ?_
    exact⟨m - 1,by omega,_,q7 [0] [1,5,10,11] rfl,k+1,IntKind.i64.wrap (j+1),_,by omega,by rw[y8 _ (by omega) (by omega)];omega,rfl,rfl⟩
  ·have h:=k0z (show decide (j<(n:Int))=false from h)
   rw[show k=n by omega]at hX
   refine x6 ?_
   exact⟨_,q7 [0] [5] rfl,_,hX,rfl⟩
 rintro _ ⟨X,rfl,rfl⟩
 refine q8 hT ?_
 refine y9 ?_
 exact z9 [0] ⟨rfl,rfl⟩ rfl
def GeoV.at_ (g:GeoV)(area stripe:Int):Int:=4+2*g.w+(area*g.s+stripe)*(g.k+g.m)
theorem w2p (g:GeoV)(t:Int)(hg:g.may=true)(t0:0≤t)(t1:t<2*g.s)(n:Nat)(hn:g.k+g.m=n)(first:Int)(hf:4+2*g.w+t*(g.k+g.m)=first) :
 AF Tryz.prog y8r [g.av,i64 (1+g.w+t)] [] (v8 (.msl 0 1 0 n) [.row q4u 1 (z2p first n n)]):=by
 obtain⟨h1,h2,h3,h4,h5,h6,h7,h8⟩:=V1 (V3 hg)
 have hm:=Int.mul_le_mul (show t≤64 by omega) (show g.k+g.m≤24 by omega) (by omega) (by omega)
 have hm0:0≤t*(g.k+g.m):=Int.mul_nonneg t0 (by omega)
 obtain⟨i,hi⟩:∃ i,i=1+g.w+t:=⟨_,rfl⟩
 rw[← hi]
 have wg:=w7c g
 rw[show g.groups=1+g.w+2*g.s by unfold GeoV.groups;rw[hg]]at wg
 have wr:=u0u first n (by omega) (by omega) (by omega) (by omega)
 have wl:AF Tryz.prog z7d [g.av] [] (v8 (i64 (4+2*g.w)) []):=by
  refine v6 hT z7e rfl rfl z7f rfl ?_
  refine q8 hT ?_
  refine u6 (Q4 0 g.pv rfl rfl) ?_
  refine q8 hT ?_
  refine y9 ?_
  rw[show i64 (4+2*g.w)=i64 (IntKind.i64.wrap (4+IntKind.i64.wrap (2*g.w))) by rw[y8 (2*g.w) (by omega) (by omega),y8 _ (by omega) (by omega)]]
  exact z9 [] ⟨rfl,rfl⟩ rfl
 have ww:AF Tryz.prog y4x [g.av] [] (v8 (i64 n) []):=by
  refine v6 hT y4y rfl rfl y4z rfl ?_
  refine q8 hT ?_
  refine u6 (Q4 0 g.pv rfl rfl) ?_
  refine q8 hT ?_
  refine y9 ?_
  rw[show i64 n=i64 (IntKind.i64.wrap (g.k+g.m)) by rw[y8 _ (by omega) (by omega),hn]]
  exact z9 [] ⟨rfl,rfl⟩ rfl
 refine v6 hT y8s rfl rfl y8t rfl ?_
 refine q8 hT ?_
 refine z7 ⟨⟨41,[(2,.p (.box g.pv)),(3,.p (.box [.raw (.int .i64 i)]))]⟩,[]⟩ True (z3 ?_) (fun _=>?_)
 ·refine u6 (Q4 0 g.pv rfl rfl) ?_
  refine u6 (Q4 1 [.raw (.int .i64 i)] rfl rfl) ?_
  refine z8 ?_
  refine v7 [] [] hT y5 (by rfl) ?_
  refine y4 (fun h=>?_) (fun h=>?_)
  ·have h:=k0q (show decide (i<0)=true from h)
   omega
  refine⟨_,w7 wg _ rfl rfl,?_⟩
  refine z4 (y4 (fun h=>?_) (fun h=>?_))
  ·have h:=k0q (show decide (i≥1+g.w+2*g.s)=true from h)
   omega
  refine q8 hT ?_
  refine z4 (y4 (fun h=>?_) (fun h=>?_))
  ·have h:(i==0)=true:=h
   rw[beq_iff_eq]at h
   omega
  refine q8 hT ?_
  refine z4 (y4 (fun h=>?_) (fun h=>?_))
  ·have h:=k0q (show decide (i≤g.w)=true from h)
   omega
  exact z5 ⟨q7 [] [2,3] rfl,trivial⟩
 refine y6 (fun st=>∃ x,x=first∧st=⟨⟨41,[(2,.p (.box g.pv)),(5,.p (.box [.raw (.int .i64 x)]))]⟩,[]⟩) ?_ ?_
 ·refine v7 [11,12] [] hT y5 (by rfl) ?_
  refine⟨_,w7 wl _ rfl rfl,?_⟩
  refine⟨_,w7 ww _ rfl rfl,?_⟩
  repeat first|refine⟨rfl,?_⟩|refine⟨⟨_,w7 wl _ rfl rfl,rfl⟩,?_⟩|refine⟨⟨_,w7 ww _ rfl rfl,rfl⟩,?_⟩
  refine⟨_,Wk.trans (Q4 0 [.raw (.int .i64 _)] rfl rfl) (q7 [] [2,5] rfl),_,?_,rfl⟩
  rw[y8 (i - 1) (by omega) (by omega),y8 (i - 1 - g.w) (by omega) (by omega),show i - 1 - g.w=t by omega,← hn,y8 (t*(g.k+g.m)) (by omega) (by omega),y8 _ (by omega) (by omega)]
  exact hf
 rintro _ ⟨x,rfl,rfl⟩
 refine q8 hT ?_
 refine x7 (w7 ww _ rfl rfl) ?_
 refine x7 (q2j wr _ rfl) ?_
 refine y9 ?_
 exact z9 [0] ⟨rfl,rfl⟩ rfl
def X9 (g:GeoV)(area stripe:Int):Int × Int:=match g.may&&inR area 0 1&&(inR stripe 0 31&&decide (stripe<g.s)) with
 |true=>(g.at_ area stripe,0)
 |false=>(0,1)
def W4 (g:GeoV)(area stripe:Int):Prop:=g.may=true∧0≤area∧area≤1∧0≤stripe∧stripe<g.s
theorem q2f {g:GeoV}{area stripe:Int}(h:W4 g area stripe):X9 g area stripe=(g.at_ area stripe,0):=by
 obtain⟨h1,h2,h3,h4,h5⟩:=h
 obtain⟨_,_,_,h6,_⟩:=V1 (V3 h1)
 unfold X9 inR
 rw[h1,k1u (show area≥0 from h2),k1u (show area≤1 from h3),k1u (show stripe≥0 from h4),k1u (show stripe≤31 by omega),k1u h5];rfl
theorem q4p {g:GeoV}{area stripe:Int}(h:¬ W4 g area stripe):X9 g area stripe=(0,1):=by
 unfold X9
 cases e:g.may&&inR area 0 1&&(inR stripe 0 31&&decide (stripe<g.s)) with
 |false=>rfl
 |true=>
  unfold inR at e
  simp only[Bool.and_eq_true,decide_eq_true_eq]at e
  exact absurd ⟨e.1.1,e.1.2.1,e.1.2.2,e.2.1.1,e.2.2⟩ h
theorem q7v (g:GeoV)(area stripe:Int):AF Tryz.prog x4a [g.av,i64 area,i64 stripe] [] (v8 (.tup [i64 (X9 g area stripe).1,i64 (X9 g area stripe).2]) []):=by
 refine AF.mono (R:=fun r H'=>∃ z,z=X9 g area stripe∧r=.tup [i64 z.1,i64 z.2]∧H'=[]) ?_ (by rintro r H' ⟨z,rfl,rfl,rfl⟩;exact⟨rfl,rfl⟩)
 have wm:=x5w g
 refine v6 hT x4b rfl rfl x4c rfl ?_
 refine q8 hT ?_
 refine z7 ⟨⟨43,[(1,i64 area),(2,i64 stripe),(3,.p (.box g.pv))]⟩,[]⟩ (W4 g area stripe) ?_ (fun hok=>?_)
 ·refine u6 (Q4 0 g.pv rfl rfl) ?_
  refine y6 (fun st=>∃ b,(b=true→¬ W4 g area stripe)∧(b=false→W4 g area stripe)∧st=⟨⟨43,[(1,i64 area),(2,i64 stripe),(3,.p (.box g.pv)),(28,bl b)]⟩,[]⟩) (q9 hT ?_) ?_
  ·refine x7 (w7 wm _ rfl rfl) ?_
   unfold W4
   refine y4 (fun h=>?_) (fun h=>?_)
   ·have h:(!g.may)=true:=h
    rw[Bool.not_eq_true']at h
    exact⟨_,q7 [] [1,2,3,28] rfl,true,fun _ e=>(by rw[h]at e;exact absurd e.1 (by decide)),fun e=>(by cases e),rfl⟩
   have h0:g.may=true:=by
    have h:(!g.may)=false:=h
    rwa [Bool.not_eq_false']at h
   refine y4 (fun h=>?_) (fun h=>?_)
   ·have h1:=k0q (show decide (area<0)=true from h)
    exact⟨_,q7 [] [1,2,3,28] rfl,true,fun _ e=>by omega,fun e=>(by cases e),rfl⟩
   have h1:=k0z (show decide (area<0)=false from h)
   refine y4 (fun h=>?_) (fun h=>?_)
   ·have h2:=k0q (show decide (area≥2)=true from h)
    exact⟨_,q7 [] [1,2,3,28] rfl,true,fun _ e=>by omega,fun e=>(by cases e),rfl⟩
   have h2:=k0z (show decide (area≥2)=false from h)
   refine y4 (fun h=>?_) (fun h=>?_)
   ·have h3:=k0q (show decide (stripe<0)=true from h)
    exact⟨_,q7 [] [1,2,3,28] rfl,true,fun _ e=>by omega,fun e=>(by cases e),rfl⟩
   have h3:=k0z (show decide (stripe<0)=false from h)
   refine⟨_,q7 [] [1,2,3,28] rfl,decide (stripe≥g.s),fun e=>?_,fun e=>?_,rfl⟩
   ·have:=k0q e
    omega
   ·have:=k0z e
    exact⟨h0,by omega,by omega,by omega,by omega⟩
  ·rintro _ ⟨b,hb1,hb2,rfl⟩
   refine z4 (y4 (fun h=>?_) (fun h=>?_))
   ·refine q8 hT ?_
    refine y9 ?_
    exact z9 [] ⟨(0,1),(q4p (hb1 h)).symm,rfl,rfl⟩ rfl
   ·exact z5 ⟨q7 [] [1,2,3] rfl,hb2 h⟩
 have hz:=q2f hok
 obtain⟨hm,a0,a1,s0,s1⟩:=hok
 obtain⟨h1,h2,h3,h4,h5,h6,h7,h8⟩:=V1 (V3 hm)
 obtain⟨n,hn⟩:∃ n:Nat,g.k+g.m=n:=⟨(g.k+g.m).toNat,by omega⟩
 have e1:0≤area*g.s∧area*g.s≤g.s:=by
  rcases (show area=0∨area=1 by omega) with rfl|rfl <;> omega
 obtain⟨t,ht⟩:∃ t,t=area*g.s+stripe:=⟨_,rfl⟩
 have wM:=w2p g t hm (by omega) (by omega) n hn _ rfl
 have hfst:g.at_ area stripe=4+2*g.w+t*(g.k+g.m):=by unfold GeoV.at_;rw[ht]
 rw[hfst]at hz
 generalize 4+2*g.w+t*(g.k+g.m)=first at *
 have hg0:(z2p first n n)[((0:Nat):Int).toNat]?=some [.raw (.int .i64 first)]:=by
  show (z2p first n n)[0]?=_
  rw[q9p (by omega),if_pos (by omega)]
  simp
 generalize z2p first n n=R at *
 have hwr:IntKind.i64.wrap (IntKind.i64.wrap (IntKind.i64.wrap (1+g.w)+IntKind.i64.wrap (area*g.s))+stripe)=1+g.w+t:=by
  rw[y8 (1+g.w) (by omega) (by omega),y8 (area*g.s) (by omega) (by omega),y8 (1+g.w+area*g.s) (by omega) (by omega),y8 _ (by omega) (by omega)]
  omega
 rw[← hwr]at wM
 refine q8 hT ?_
 refine x7 (q2j wM _ rfl) ?_
 refine⟨⟨by omega,by omega⟩,?_⟩
 refine w9 hg0 ?_
 refine y9 ?_
 exact z9 [] ⟨(first,0),hz.symm,rfl,rfl⟩ rfl
def U8 (l:List Int):Bool:=l.all fun n=>decide (0≤n)&&decide (n≤4294967295)
def y7q (l:List Int):List (List PV):=l.map fun n=>([.raw (.int .i64 n)]:List PV)
theorem v8h (l:List Int):(y7q l).length=l.length:=k1y _
theorem v8i {l:List Int}{i:Nat}{n:Int}(h:l[i]?=some n):(y7q l)[i]?=some [.raw (.int .i64 n)]:=by rw[y7q,k1q,h];rfl
theorem y0t (l:List Int)(hl:l.length≤64):AF Tryz.prog x8m [.p (.sl 1 (y7q l))] [] (v8 (bl (U8 l)) []):=by
 refine AF.mono (R:=fun r H'=>∃ z,z=U8 l∧r=bl z∧H'=[]) ?_ (by rintro r H' ⟨z,rfl,rfl,rfl⟩;exact⟨rfl,rfl⟩)
 have hxl:=v8h l
 unfold U8
 refine v6 hT x8n rfl rfl x8p rfl ?_
 refine q8 hT ?_
 refine z7 ⟨⟨18,[]⟩,[]⟩ (U8 l=true) (q8 hT ?_) (fun hw=>?_)
 ·refine z3 ?_
  refine y7 (fun n s=>∃ (k:Nat) (j:Int),n+k=l.length∧j=k∧(∀ i n,i<k→l[i]?=some n→0≤n∧n≤4294967295)∧s=⟨⟨18,[(5,.p (.sl 1 (y7q l))),(6,i64 (y7q l).length),(7,i64 j)]⟩,[]⟩) l.length ⟨⟨18,_⟩,_⟩ (q7 [] [5,6,7] rfl) ⟨0,0,rfl,rfl,fun i n h=>by omega,rfl⟩ ?_
  rintro n s ⟨k,j,hnk,hj,hall,rfl⟩
  refine q8 hT ?_
  refine z8 (z4 (y4 (fun h=>?_) (fun h=>?_)))
  ·have h:=k0q (show decide (j<(((y7q l).length:Nat):Int))=true from h)
   have hk:k<l.length:=by omega
   refine z5 ?_
   have hx:=k0x hk
   have hmem:=k1x hk
   generalize l[k]=x at hx hmem
   have hxp:(y7q l)[j.toNat]?=some [.raw (.int .i64 x)]:=by rw[hj,k0v];exact v8i hx
   refine z7 ⟨⟨18,[(5,.p (.sl 1 (y7q l))),(6,i64 (y7q l).length),(7,i64 j)]⟩,[]⟩ (0≤x∧x≤4294967295) (z3 (q8 hT ?_)) (fun hxr=>?_)
   ·refine⟨by omega,w9 hxp ?_⟩
    have hno:¬ (0≤x∧x≤4294967295)→∃ z,z=(l.all fun n=>decide (0≤n)&&decide (n≤4294967295))∧bl false=bl z∧([]:List ABlk)=[]:=fun hn=>by
     refine⟨false,?_,rfl,rfl⟩
     refine(List.all_eq_false.mpr ⟨x,hmem,?_⟩).symm
     simp only[Bool.and_eq_true,decide_eq_true_eq]
     exact hn
    refine q8 hT ?_
    refine y4 (fun h=>?_) (fun h=>?_)
    ·have h1:=k0q (show decide (x<0)=true from h)
     refine z4 ?_
     refine q8 hT ?_
     refine y9 ?_
     exact z9 [] (hno (by omega)) rfl
    have h1:=k0z (show decide (x<0)=false from h)
    refine z4 (y4 (fun h=>?_) (fun h=>?_))
    ·have h2:=k0q (show decide (x > 4294967295)=true from h)
     refine q8 hT ?_
     refine y9 ?_
     exact z9 [] (hno (by omega)) rfl
    ·have h2:=k0z (show decide (x > 4294967295)=false from h)
     exact z5 ⟨q7 [] [5,6,7] rfl,by omega,by omega⟩
   ·refine q9 hT ?_
    refine⟨n - 1,by omega,_,q7 [] [5,6,7] rfl,k+1,IntKind.i64.wrap (j+1),by omega,by rw[y8 _ (by omega) (by omega)];omega,fun i n hi hn=>?_,rfl⟩
    by_cases e:i=k
    ·subst e
     rw[hx]at hn
     obtain rfl:=k0y hn
     exact hxr
    ·exact hall i n (by omega) hn
  ·have h:=k0z (show decide (j<(((y7q l).length:Nat):Int))=false from h)
   refine x6 ?_
   refine⟨q7 [] [] rfl,List.all_eq_true.mpr fun x hx=>?_⟩
   obtain⟨i,hi,rfl⟩:=List.getElem_of_mem hx
   have:=hall i _ (by omega) (k0x hi)
   rw[k1u this.1,k1u this.2];rfl
 refine q8 hT ?_
 refine y9 ?_
 exact z9 [] ⟨true,hw.symm,rfl,rfl⟩ rfl
def Dev.tryK:Nat→Dev→Int→z6→Int × Dev
 |0,D,_,_=>(22,D)
 |n+1,D,a,s=>match (D.once a s).1.2 != 0 with
  |true=>((D.once a s).1.2,(D.once a s).2)
  |false=>match (D.once a s).1.1 with
   |true=>(0,(D.once a s).2)
   |false=>Dev.tryK n (D.once a s).2 a s
def Dev.one (D:Dev)(a:Int)(s:z6):Int × Dev:=Dev.tryK 4 D a s
def v2w (e m:Int):Int:=match e==0 with|true=>IntKind.i64.wrap (m+1)|false=>m
theorem y3k {D:Dev}{b:Nat}(h:D.Ok b)(a:Int)(s:z6):(D.once a s).2.Ok (b+1):=by
 unfold Dev.once
 split
 ·exact h.write a s
 split
 ·exact(h.write a s).flush
 ·unfold Dev.hhas
  split
  ·exact(h.write a s).flush.read a
  ·exact(h.write a s).flush.read a
theorem w9h:∀ (n:Nat) {D:Dev} {b:Nat},D.Ok b→∀ (a:Int) (s:z6),(Dev.tryK n D a s).2.Ok (b+n)
 |0,D,b,h,a,s=>h
 |n+1,D,b,h,a,s=>by
  unfold Dev.tryK
  split
  ·exact(y3k h a s).mono (by omega)
  split
  ·exact(y3k h a s).mono (by omega)
  ·rw[show b+(n+1)=b+1+n by omega]
   exact w9h n (y3k h a s) a s
theorem u0v {D:Dev}{b:Nat}(h:D.Ok b)(a:Int)(s:z6):(D.one a s).2.Ok (b+4):=w9h 4 h a s
theorem v8j {D:Dev}{a:Int}{s:z6}(h:(D.once a s).1.1=true):(D.once a s).1.2=0:=by
 unfold Dev.once at h ⊢
 split at h
 ·simp at h
 split at h
 ·simp at h
 ·unfold Dev.hhas at h ⊢
  split at h
  ·simp at h
  ·have h:((((D.write a s).2.flush.2.read a).1.2==0)&&_)=true:=h
   rw[k1v]at h
   have:=h.1
   simpa using this
theorem v8k (D:Dev)(m a:Int)(s:z6)(b:Nat)(hD:D.Ok b)(hb:b+4<1000000):AFm Tryz.prog 2 z0x [.ref 0 0,w8z a s] (hH D m) (v8 (i64 (D.one a s).1) (hH (D.one a s).2 (v2w (D.one a s).1 m))):=by
 refine Q5 2 hT y2n rfl rfl y2p rfl rfl ?_
 refine q8 hT ?_
 refine u6 (Q4 4 [.raw (.int .i64 a),bP s] rfl rfl) ?_
 refine y6 (fun s1=>∃ E,D.one a s=(22,E)∧s1=⟨⟨29,[]⟩,hH E m⟩) (q8 hT ?_) ?_
 ·refine z3 ?_
  refine y7 (fun n s1=>∃ (i:Nat) (j:Int) (E:Dev),n+i=4∧j=i∧E.Ok (b+i)∧D.one a s=Dev.tryK n E a s∧s1=⟨⟨29,[(0,.ref 0 0),(3,.p (.box [.raw (.int .i64 a),bP s])),(7,i64 j)]⟩,hH E m⟩) 4 ⟨⟨29,_⟩,[_,_,_,_]⟩ (q7 [0,1,2,3] [0,3,7] rfl) ⟨0,0,D,rfl,rfl,hD,rfl,rfl⟩ ?_
  rintro n s1 ⟨i,j,E,hni,rfl,hE,hone,rfl⟩
  refine q8 hT ?_
  refine z8 (z4 (y4 (fun h=>?_) (fun h=>?_)))
  ·have hi:i<4:=by
    have:=k0q (show decide ((i:Int)<4)=true from h)
    omega
   obtain⟨n,rfl⟩:∃ k,n=k+1:=⟨n - 1,by omega⟩
   have w:=v1r E m a s (b+i) hE (by omega)
   have ok:=y3k hE a s
   have herr:=@v8j E a s
   unfold Dev.tryK at hone
   generalize E.once a s=Y at w ok hone herr
   obtain⟨⟨y1,y2⟩,E2⟩:=Y
   refine z5 ?_
   refine z7 ⟨⟨29,[(0,.ref 0 0),(3,.p (.box [.raw (.int .i64 a),bP s])),(7,i64 i)]⟩,hH E2 m⟩ (y2=0∧y1=false) (z3 (q8 hT ?_)) ?_
   ·refine x7 (Q7 [0,1,2,3] w rfl rfl rfl) ?_
    refine z3 ?_
    refine q8 hT ?_
    refine z4 (y4 (fun h1=>?_) (fun h1=>?_))
    ·have h1:(y2 != 0)=true:=h1
     have e:D.one a s=(y2,E2):=by rw[hone];simp only;rw[h1]
     refine q8 hT ?_
     refine y9 ?_
     rw[e]
     have hm:v2w y2 m=m:=by unfold v2w;rw[show (y2==0)=false by simpa using h1]
     rw[hm]
     exact z9 [0,1,4,5] ⟨rfl,rfl⟩ rfl
    ·have h1:(y2 != 0)=false:=h1
     refine q8 hT ?_
     refine z4 (y4 (fun h2=>?_) (fun h2=>?_))
     ·have h2:y1=true:=h2
      have e:D.one a s=(0,E2):=by rw[hone];simp only;rw[h1,h2]
      refine q8 hT ?_
      refine q8 hT ?_
      refine y9 ?_
      rw[e]
      exact z9 [0,1,4,5] ⟨rfl,rfl⟩ rfl
     ·exact z5 ⟨q7 [0,1,4,5] [0,3,7] rfl,by simpa using h1,h2⟩
   ·rintro⟨h1,h2⟩
    have e:D.one a s=Dev.tryK n E2 a s:=by rw[hone];simp only;rw[show (y2 != 0)=false by simpa using h1,h2]
    refine q9 hT ?_
    refine⟨n,by omega,_,q7 [0,1,2,3] [0,3,7] rfl,i+1,IntKind.i64.wrap ((i:Int)+1),E2,by omega,?_,by rw[← Nat.add_assoc];exact ok,e,rfl⟩
    rw[y8 _ (by omega) (by omega)];rfl
  ·have hi:¬ (i:Int)<4:=k0z h
   have hn0:n=0:=by omega
   subst hn0
   refine x6 ?_
   exact⟨_,q7 [0,1,2,3] [] rfl,E,hone,rfl⟩
 ·rintro _ ⟨E,e,rfl⟩
  refine q8 hT ?_
  refine y9 ?_
  rw[e]
  exact z9 [0,1,2,3] ⟨rfl,rfl⟩ rfl
structure Put9 where
 at_:Int
 s:z6
def Put9.pv (x:Put9):List PV:=[.raw (.int .i64 x.at_),bP x.s]
def px (l:List Put9):List (List PV):=l.map Put9.pv
theorem v8m (l:List Put9):(px l).length=l.length:=by simp[px]
theorem u3i {l:List Put9}{i:Nat}{c:Put9}(h:l[i]?=some c):(px l)[i]?=some c.pv:=by rw[px,k1q,h];rfl
def q6n (g:Dev→Int→Int→z6→Int × (Dev × Int)):List Put9→Dev→Int→Int × (Dev × Int)
 |[],D,m=>(0,(D,m))
 |x :: r,D,m=>match (g D m x.at_ x.s).1 != 0 with
  |true=>g D m x.at_ x.s
  |false=>q6n g r (g D m x.at_ x.s).2.1 (g D m x.at_ x.s).2.2
theorem y7r (g:Dev→Int→Int→z6→Int × (Dev × Int))(x:Put9)(r:List Put9)(D:Dev)(m:Int):q6n g (x :: r) D m=match (g D m x.at_ x.s).1 != 0 with
 |true=>g D m x.at_ x.s
 |false=>q6n g r (g D m x.at_ x.s).2.1 (g D m x.at_ x.s).2.2:=rfl
def u1q (f:FuncId)(g:Dev→Int→Int→z6→Int × (Dev × Int)):Prop:=∀ (D:Dev) (m a:Int) (s:z6) (b:Nat),D.Ok b→b+4<1000000 →
 AFm Tryz.prog 2 f [.ref 0 0,w8z a s] (hH D m) (v8 (i64 (g D m a s).1) (hH (g D m a s).2.1 (g D m a s).2.2))∧(g D m a s).2.1.Ok (b+4)
theorem v2x {f:FuncId}{g:Dev→Int→Int→z6→Int × (Dev × Int)}(hg:u1q f g)(l:List Put9)(D:Dev)(m:Int)(b:Nat)(hD:D.Ok b)(hb:b+4*l.length<1000000) :
 AFm Tryz.prog 2 x9t [.p (.sl 2 (px l)),.mth (.func f) [.ref 0 0]] (hH D m) (v8 (i64 (q6n g l D m).1) (hH (q6n g l D m).2.1 (q6n g l D m).2.2)):=by
 refine Q5 2 hT x9u rfl rfl x9v rfl rfl ?_
 refine q8 hT ?_
 refine y6 (fun s1=>∃ E k,q6n g l D m=(0,(E,k))∧s1=⟨⟨21,[]⟩,hH E k⟩) (q8 hT ?_) ?_
 ·refine z3 ?_
  refine y7 (fun n s1=>∃ (i:Nat) (j:Int) (E:Dev) (k:Int),n+i=l.length∧j=i∧E.Ok (b+4*i)∧q6n g l D m=q6n g (l.drop i) E k∧s1=⟨⟨21,[(1,.mth (.func f) [.ref 0 0]),(8,.p (.sl 2 (px l))),(9,i64 l.length),(10,i64 j)]⟩,hH E k⟩) l.length ⟨⟨21,_⟩,[_,_,_,_]⟩ (q7 [0,1,2,3] [1,8,9,10] rfl) ⟨0,0,D,m,rfl,rfl,hD,rfl,by rw[← v8m l];rfl⟩ ?_
  rintro n s1 ⟨i,j,E,k,hni,rfl,hE,he,rfl⟩
  refine q8 hT ?_
  refine z8 (z4 (y4 (fun h=>?_) (fun h=>?_)))
  ·have hi:i<l.length:=by
    have:=k0q (show decide ((i:Int)<(l.length:Int))=true from h)
    omega
   have hx:=k0x hi
   have hdr:l.drop i=l[i] :: l.drop (i+1):=List.drop_eq_getElem_cons hi
   generalize l[i]=x at hx hdr
   have hxp:(px l)[((i:Nat):Int).toNat]?=some x.pv:=by rw[k0v];exact u3i hx
   obtain⟨w,ok⟩:=hg E k x.at_ x.s (b+4*i) hE (by omega)
   rw[hdr,y7r]at he
   generalize g E k x.at_ x.s=Y at w ok he
   obtain⟨e,E2,k2⟩:=Y
   refine z5 ?_
   refine z7 ⟨⟨21,[(1,.mth (.func f) [.ref 0 0]),(8,.p (.sl 2 (px l))),(9,i64 l.length),(10,i64 i)]⟩,hH E2 k2⟩ (e=0) (z3 (q8 hT ?_)) ?_
   ·refine⟨k2w _,w9 hxp ?_⟩
    refine q8 hT ?_
    refine x7 (Q7 [0,1,2,3] w rfl rfl rfl) ?_
    refine q8 hT ?_
    refine z4 (y4 (fun h1=>?_) (fun h1=>?_))
    ·have h1:(e != 0)=true:=h1
     have e1:q6n g l D m=(e,(E2,k2)):=by rw[he];simp only;rw[h1]
     refine q8 hT ?_
     refine y9 ?_
     rw[e1]
     exact z9 [0,1,5,6] ⟨rfl,rfl⟩ rfl
    ·have h1:(e != 0)=false:=h1
     exact z5 ⟨q7 [0,1,5,6] [1,8,9,10] rfl,by simpa using h1⟩
   ·intro h1
    have e1:q6n g l D m=q6n g (l.drop (i+1)) E2 k2:=by rw[he];simp only;rw[show (e != 0)=false by simpa using h1]
    refine q9 hT ?_
    refine⟨n - 1,by omega,_,q7 [0,1,2,3] [1,8,9,10] rfl,i+1,IntKind.i64.wrap ((i:Int)+1),E2,k2,by omega,?_,by rw[show b+4*(i+1)=b+4*i+4 by omega];exact ok,e1,rfl⟩
    rw[y8 _ (by omega) (by omega)];rfl
  ·have hi:¬ (i:Int)<(l.length:Int):=k0z h
   have hil:i=l.length:=by omega
   subst hil
   rw[List.drop_length]at he
   refine x6 ?_
   exact⟨_,q7 [0,1,2,3] [] rfl,E,k,he,rfl⟩
 ·rintro _ ⟨E,k,e,rfl⟩
  refine q8 hT ?_
  refine y9 ?_
  rw[e]
  exact z9 [0,1,2,3] ⟨rfl,rfl⟩ rfl
def w7d (D:Dev)(m a:Int)(s:z6):Int × (Dev × Int):=((D.one a s).1,((D.one a s).2,v2w (D.one a s).1 m))
theorem v2y:u1q z0x w7d:=fun D m a s b hD hb=>⟨v8k D m a s b hD hb,u0v hD a s⟩
def Dev.all9 (D:Dev)(l:List Put9):Int × Dev:=((q6n w7d l D 0).1,(q6n w7d l D 0).2.1)
theorem v8n (D:Dev)(l:List Put9)(b:Nat)(hD:D.Ok b)(hb:b+4*l.length<1000000):AFm Tryz.prog 1 w4z [.ref 0 0,.p (.sl 2 (px l))] (Y4 D) (v8 (i64 (D.all9 l).1) (Y4 (D.all9 l).2)):=by
 have w:=v2x v2y l D 0 b hD hb
 unfold Dev.all9
 generalize q6n w7d l D 0=Y at w
 obtain⟨e,E,k⟩:=Y
 refine Q5 1 hT w5a rfl rfl w5b rfl rfl ?_
 refine q8 hT ?_
 refine q8 hT ?_
 refine x7 (Q7 [3,0,1,2] w rfl rfl rfl) ?_
 refine y9 ?_
 exact z9 [0,4,5] ⟨rfl,rfl⟩ rfl
theorem x2e {hit:Wr→Bool}:∀ {l:List Wr} {x:Wr},q4v hit l=some x→x∈l
 |[],x,h=>by simp[q4v]at h
 |y :: r,x,h=>by
  unfold q4v at h
  cases h1:q4v hit r with
  |some z=>rw[h1]at h;obtain rfl:=k0y h;exact List.mem_cons_of_mem _ (x2e h1)
  |none=>
   rw[h1]at h
   cases h2:hit y with
   |true=>rw[h2]at h;obtain rfl:=k0y h;exact List.mem_cons_self ..
   |false=>rw[h2]at h;simp at h
theorem v2z {D:Dev}{b:Nat}(h:D.Ok b)(a:Int):(D.read a).1.1.length≤256:=by
 unfold Dev.read
 split
 ·exact Nat.zero_le _
 ·split
  ·exact Nat.zero_le _
  ·show (D.readAt a).2.length≤_
   unfold Dev.readAt
   split
   ·rename_i x hx
    exact Nat.le_of_eq (h.ws x (x2e hx))
   ·split
    ·rename_i c hc
     split
     ·exact Nat.zero_le _
     ·exact Nat.le_of_eq (h.cs c (k2x hc))
    ·exact Nat.zero_le _
abbrev u0w:List PV:=[.raw (.slice none 0 0)]
theorem x2f (l:List z6)(s:z6):z2 (l++[s])=z2 l++[[bP s]]:=by simp[z2]
def z0r (n:Nat)(b:z6):z6:=b++List.replicate (n - b.length) 0
theorem z8h {n:Nat}{b:z6}(h:b.length≤n):(z0r n b).length=n:=by unfold z0r;rw[k1z,k2q];omega
theorem v8p {n:Nat}{b:z6}:X6 (List.replicate n [u8 0]) 0 (bx b)=bx (z0r n b):=by
 have hb:=w6 b
 unfold z0r X6
 rw[Y9,List.take_zero,List.nil_append,List.drop_replicate,Nat.zero_add,hb]
 unfold bx
 rw[List.map_replicate]
def w2q (P:z6)(i:Nat):z6:=(P.drop (228*i)).take 228
def q0i (P:z6)(k s:Nat):List z6:=(List.range k).map fun j=>w2q P (s*k+j)
theorem q3t (P:z6)(k s:Nat):(q0i P k s).length=k:=by unfold q0i;rw[k1y,k3q]
theorem y1k {P:z6}{k s j:Nat}(h:j<k):(q0i P k s)[j]?=some (w2q P (s*k+j)):=by
 unfold q0i;rw[k1q,k2s h];rfl
theorem v8q {P:z6}{i:Nat}(h:228*(i+1)≤P.length):(w2q P i).length=228:=by unfold w2q;rw[k2u,List.length_drop];omega
theorem q8n {P:z6}{k s:Nat}(h:228*((s+1)*k)≤P.length):∀ x∈q0i P k s,x.length=228:=fun x hx=>by
 unfold q0i at hx
 rw[List.mem_map]at hx
 obtain⟨j,hj,rfl⟩:=hx
 have hj:=List.mem_range.mp hj
 refine v8q (Nat.le_trans (Nat.mul_le_mul_left 228 ?_) h)
 rw[Nat.succ_mul];omega
abbrev Q0d (b:Nat)(O:List Put9):ABlk:=.cells q0s [.msl b 2 0 (px O).length]
abbrev shJ (L:ABlk)(x:List Put9 × List ABlk):List ABlk:=.cells q0s [.p (.raw (.slice none 0 0))] :: .cells q0r [i64 0] :: Q0d 4 x.1 :: L :: .row q9b 2 (px x.1) :: x.2
abbrev shK (L:ABlk)(O:List Put9):List ABlk:=[.cells q0s [.p (.raw (.slice none 0 0))],.cells q0r [i64 0],Q0d 6 O,L,.dead,.dead,.row q9b 2 (px O)]
theorem v3a {q:RecK}{l:List AV}{O O':List Put9}{D:List z6}{s k:Nat}(hl:U4 4 l=true)
 (h:AYm Tryz.prog 4 3 [i64 s,.msl 5 1 0 k] (shJ (.lp q .ready none l) (O,[.row z0 1 (z2 D)])) (fun r H'=>r=bl true∧H'=shJ (.lp q .ready none l) (O',[]))) :
 AY Tryz.prog 3 [i64 s,.msl 5 1 0 k] (shJ (.lp q .ready none l) (O,[.row z0 1 (z2 D)])) (fun r H'=>r=bl true∧H'=shK (.lp q .ready none l) O'):=by
 have hid:∀ c,c<4→rho 6 [0,1,2,3,4,5] c=c:=fun c hc=>by
  rcases c with _|_|_|_|c
  ·rfl
  ·rfl
  ·rfl
  ·rfl
  ·omega
 have hid2:∀ c,c<4→q0z 6 [0,1,2,3] c=c:=fun c hc=>by
  rcases c with _|_|_|_|c
  ·rfl
  ·rfl
  ·rfl
  ·rfl
  ·omega
 refine u2j [0,1,2,3,4,5] h ⟨rfl,by decide,?_⟩ (show ∀ p∈[0,1,2,3,4,5],p<6 by decide) (by decide) rfl rfl ?_
 ·intro c k hk
  right
  rcases c with _|_|_|_|_|_|c
  ·obtain rfl:=k0y hk;exact⟨0,rfl,rfl⟩
  ·obtain rfl:=k0y hk;exact⟨1,rfl,rfl⟩
  ·obtain rfl:=k0y hk;exact⟨2,rfl,rfl⟩
  ·obtain rfl:=k0y hk
   refine⟨3,rfl,?_⟩
   show some (ABlk.lp q .ready none l)=some (ABlk.lp q .ready none (q2q (rho 6 [0,1,2,3,4,5]) l))
   rw[q4d hid l hl]
  ·obtain rfl:=k0y hk;exact⟨4,rfl,rfl⟩
  ·obtain rfl:=k0y hk;exact⟨5,rfl,rfl⟩
  ·simp at hk
 ·rintro r1 H1' ⟨rfl,rfl⟩
  refine⟨show 4≤5 by decide,rfl,?_⟩
  show [_,_,_,ABlk.lp q .ready none (q2q (q0z 6 [0,1,2,3]) l),_,_,_]=_
  rw[q4d hid2 l hl]
  rfl
theorem w7e (g:GeoV)(hg:g.may=true)(S k R:Nat)(hs:g.s=S)(hk:g.k=k)(hR:R=228*(S*k))(b:z6)(hb:b.length≤R)(q:RecK)(l:List AV)(hl:U4 4 l=true)(O:Nat→List Put9)
 (hy:∀ s,s<S→AYm Tryz.prog 4 3 [i64 s,.msl 5 1 0 k] (shJ (.lp q .ready none l) (O s,[.row z0 1 (z2 (q0i (z0r R b) k s))])) (fun r H'=>r=bl true∧H'=shJ (.lp q .ready none l) (O (s+1),[]))) :
 AFm Tryz.prog 4 q6c [.yld 3,.p (.box g.pv),.p (.box [bP b])] (shJ (.lp q .ready none l) (O 0,[])) (fun _ H'=>H'=shJ (.lp q .ready none l) (O S,[])):=by
 obtain⟨h1,h2,h3,h4,h5,h6,h7,h8⟩:=V1 (V3 hg)
 have hSk:S*k≤32*16:=Nat.mul_le_mul (by omega) (by omega)
 have wR:=y6z g
 rw[show g.room=(R:Int) by unfold GeoV.room;rw[hg,hs,hk,hR];show (S:Int)*k*228=_;rw[Nat.mul_comm];simp]at wR
 have hpl:=z8h hb
 have hps:=v8p (n:=R) (b:=b)
 have hbl:=w6 b
 generalize z0r R b=P at hy hpl hps
 refine Q5 4 hT y2b rfl rfl y2c rfl rfl ?_
 refine z7 ⟨⟨36,[(0,.yld 3),(1,.p (.box g.pv)),(2,.p (.box [bP b])),(4,.msl 5 1 0 R)]⟩,shJ (.lp q .ready none l) (O 0,[.row z1 1 (List.replicate R [u8 0])])⟩ True (q9 hT ?_) (fun _=>?_)
 ·refine x7 (w7 wR _ rfl rfl) ?_
  refine⟨⟨rfl,by omega,by show (R:Int)*1≤_;omega,by omega⟩,?_⟩
  exact⟨U0 3 [0,1,2,3,4,5] [0,1,2,4] _ rfl hl rfl rfl rfl,trivial⟩
 refine z7 ⟨⟨36,[(0,.yld 3),(1,.p (.box g.pv)),(4,bA P)]⟩,shJ (.lp q .ready none l) (O 0,[])⟩ True (q9 hT ?_) (fun _=>?_)
 ·refine⟨⟨?_,?_⟩,?_⟩
  ·show 0+R≤(List.replicate R _).length
   rw[k2q];omega
  ·show (bx b).length≤R
   omega
  have hSl:(X6 (List.replicate R [u8 0]) 0 (bx b)).length=R:=by rw[hps,w6,hpl]
  exact⟨Wk.trans (Z6 4 5 R hps hSl.symm rfl rfl) (U0 3 [0,1,2,3,4] [0,1,4] _ rfl hl rfl rfl rfl),trivial⟩
 refine q8 hT ?_
 refine z3 ?_
 refine y7 (fun n st=>∃ (s:Nat) (js Sv:Int) (rest:z6) (o:List Put9),n+s=S∧js=s∧Sv=S∧rest=P.drop (228*(s*k))∧o=O s∧st=⟨⟨36,[(0,.yld 3),(1,.p (.box g.pv)),(4,bA rest),(14,i64 Sv),(15,i64 js)]⟩,shJ (.lp q .ready none l) (o,[])⟩) S ⟨⟨36,_⟩,_⟩ (U0 3 [0,1,2,3,4] [0,1,4,14,15] _ rfl hl rfl rfl rfl) ⟨0,0,g.s,P,O 0,by omega,rfl,hs,by rw[Nat.zero_mul,Nat.mul_zero,List.drop_zero],rfl,rfl⟩ ?_
 clear hps hbl hb
 rintro n st ⟨s,js,Sv,rest,o,hns,hjs,hSv,hrest,ho,rfl⟩
 refine q8 hT ?_
 refine z8 (z4 (y4 (fun h=>?_) (fun h=>?_)))
 ·have h:=k0q (show decide (js<Sv)=true from h)
  have hsS:s<S:=by omega
  refine z5 ?_
  have hy:=hy s hsS
  rw[← ho]at hy
  have hroom:228*((s+1)*k)≤P.length:=by
   rw[hpl,hR]
   exact Nat.mul_le_mul_left 228 (k2v k hsS)
  have hDl:=q3t P k s
  have hDg:=fun j hj=>y1k (P:=P) (k:=k) (s:=s) (j:=j) hj
  generalize q0i P k s=D at hy hDl hDg
  refine y6 (fun st=>∃ rest,rest=P.drop (228*((s+1)*k))∧st=⟨⟨36,[(0,.yld 3),(1,.p (.box g.pv)),(4,bA rest),(14,i64 Sv),(15,i64 js)]⟩,shJ (.lp q .ready none l) (O (s+1),[])⟩) (z3 (q8 hT ?_)) ?_
  ·refine z7 ⟨⟨36,[(0,.yld 3),(1,.p (.box g.pv)),(4,bA rest),(5,i64 js),(6,.msl 5 1 0 0),(14,i64 Sv),(15,i64 js)]⟩,shJ (.lp q .ready none l) (o,[.row z0 1 (z2 [])])⟩ True (q9 hT ?_) (fun _=>?_)
   ·exact⟨Wk.trans (Q2 z0 1) (Wk.trans (V6 6 5 1 0 rfl) (U0 3 [0,1,2,3,4,5] [0,1,4,5,6,14,15] _ rfl hl rfl rfl rfl)),trivial⟩
   refine y6 (fun st=>∃ rest X,rest=P.drop (228*((s+1)*k))∧X=D∧st=⟨⟨36,[(0,.yld 3),(1,.p (.box g.pv)),(4,bA rest),(5,i64 js),(6,.msl 5 1 0 (z2 X).length),(14,i64 Sv),(15,i64 js)]⟩,shJ (.lp q .ready none l) (o,[.row z0 1 (z2 X)])⟩) (q8 hT ?_) ?_
   ·refine z3 ?_
    refine y7 (fun n st=>∃ (j:Nat) (jj kv:Int) (rest:z6) (X:List z6),n+j=k∧jj=j∧kv=k∧rest=P.drop (228*(s*k+j))∧X=D.take j∧st=⟨⟨36,[(0,.yld 3),(1,.p (.box g.pv)),(4,bA rest),(5,i64 js),(6,.msl 5 1 0 (z2 X).length),(14,i64 Sv),(15,i64 js),(19,i64 kv),(20,i64 jj)]⟩,shJ (.lp q .ready none l) (o,[.row z0 1 (z2 X)])⟩) k ⟨⟨36,_⟩,_⟩ (U0 3 [0,1,2,3,4,5] [0,1,4,5,6,14,15,19,20] _ rfl hl rfl rfl rfl) ⟨0,0,g.k,rest,[],by omega,rfl,hk,hrest,rfl,rfl⟩ ?_
    rintro n st ⟨j,jj,kv,rest,X,hnj,hjj,hkv,hrest,hX,rfl⟩
    refine q8 hT ?_
    refine z8 (z4 (y4 (fun h=>?_) (fun h=>?_)))
    ·have h:=k0q (show decide (jj<kv)=true from h)
     have hjk:j<k:=by omega
     refine z5 ?_
     have hroom2:228*(s*k+j+1)≤P.length:=by
      refine Nat.le_trans (Nat.mul_le_mul_left 228 ?_) hroom
      rw[Nat.succ_mul];omega
     have hrl:rest.length=P.length - 228*(s*k+j):=by rw[hrest,List.length_drop]
     have hrl2:=w6 rest
     have hXl:(z2 X).length=j:=by rw[u5,hX,k2u];omega
     have e1:((bx rest).take (228:Int).toNat).drop (0:Int).toNat=bx (rest.take 228):=by rw[z3q];rfl
     have e2:((bx rest).take (((bx rest).length:Nat):Int).toNat).drop (228:Int).toNat=bx (rest.drop 228):=by rw[k0v,List.take_length,z7z];rfl
     have hrow:[[PV.sl 1 (((bx rest).take (228:Int).toNat).drop (0:Int).toNat)]]=[[bP (rest.take 228)]]:=by rw[e1]
     have hs0:AV.p (.sl 1 (((bx rest).take (((bx rest).length:Nat):Int).toNat).drop (228:Int).toNat))=bA (rest.drop 228):=by rw[e2]
     have hc:rest.take 228=w2q P (s*k+j):=by unfold w2q;rw[hrest]
     have hX2:X++[rest.take 228]=D.take (j+1):=by rw[show D.take (j+1)=D.take j++D[j]?.toList from k2t,hDg j hjk,hX,hc];rfl
     refine y6 (fun st=>∃ rest' X',rest'=rest.drop 228∧X'=X++[rest.take 228]∧st=⟨⟨36,[(0,.yld 3),(1,.p (.box g.pv)),(4,bA rest'),(5,i64 js),(6,.msl 5 1 0 (z2 X').length),(14,i64 Sv),(15,i64 js),(19,i64 kv),(20,i64 jj)]⟩,shJ (.lp q .ready none l) (o,[.row z0 1 (z2 X')])⟩) (z3 ?_) ?_
     ·refine v7 [3,4] [] hT y5 (by rfl) ?_
      refine⟨⟨Int.le_refl _,by decide,by omega⟩,?_⟩
      refine⟨rfl,⟨?_,?_⟩,?_⟩
      ·show ((z2 X).length+1)*24≤_
       omega
      ·show (z2 X).length+1≤_
       omega
      refine⟨⟨by decide,by omega,Int.le_refl _⟩,?_⟩
      repeat first|refine⟨rfl,?_⟩
      refine⟨_,U0 3 [0,1,2,3,4,7] [0,1,4,5,6,14,15,19,20] _ rfl hl rfl rfl rfl,rest.drop 228,X++[rest.take 228],rfl,rfl,?_⟩
      rw[x2f,← hrow,← hs0];rfl
     ·rintro _ ⟨rest',X',rfl,rfl,rfl⟩
      refine q9 hT ?_
      exact⟨n - 1,by omega,_,U0 3 [0,1,2,3,4,5] [0,1,4,5,6,14,15,19,20] _ rfl hl rfl rfl rfl,j+1,IntKind.i64.wrap (jj+1),kv,_,_,by omega,by rw[y8 _ (by omega) (by omega)];omega,hkv,by rw[hrest,List.drop_drop];congr 1,hX2,rfl⟩
    ·have h:=k0z (show decide (jj<kv)=false from h)
     rw[k2z (by omega)]at hX
     have hjk:j=k:=by omega
     refine x6 ?_
     exact⟨_,U0 3 [0,1,2,3,4,5] [0,1,4,5,6,14,15] _ rfl hl rfl rfl rfl,rest,X,by rw[hrest,hjk,Nat.add_mul s 1 k,Nat.one_mul],hX,rfl⟩
   ·rintro _ ⟨rest,X,hrest,rfl,rfl⟩
    have hXl:(z2 X).length=k:=by rw[u5,hDl]
    have hy:=v3a hl hy
    rw[← hjs,← hXl]at hy
    refine q8 hT ?_
    refine⟨_,hy,?_⟩
    rintro r H' ⟨rfl,rfl⟩
    refine z4 ?_
    refine z5 ?_
    exact⟨_,U0 3 [0,1,2,3,6] [0,1,4,14,15] _ rfl hl rfl rfl rfl,rest,hrest,rfl⟩
  ·rintro _ ⟨rest,hrest,rfl⟩
   refine q9 hT ?_
   exact⟨n - 1,by omega,_,U0 3 [0,1,2,3,4] [0,1,4,14,15] _ rfl hl rfl rfl rfl,s+1,IntKind.i64.wrap (js+1),Sv,rest,O (s+1),by omega,by rw[y8 _ (by omega) (by omega)];omega,hSv,hrest,rfl,rfl⟩
 ·have h:=k0z (show decide (js<Sv)=false from h)
  rw[show s=S by omega]at ho
  rw[ho]
  refine x6 ?_
  exact⟨_,_,U0 3 [0,1,2,3,4] [0] _ rfl hl rfl rfl rfl,rfl⟩
theorem w2r (g:GeoV)(hg:g.may=true)(S k R:Nat)(hs:g.s=S)(hk:g.k=k)(hR:R=228*(S*k))(b:z6)(hb:b.length≤R)(q:RecK)(l:List AV)(hl:U4 4 l=true)(P:z6)(hP:z0r R b=P)(O:Nat→List Put9)(h0:O 0=[])
 (hy:∀ s,s<S→AYm Tryz.prog 4 3 [i64 s,.msl 5 1 0 k] (shJ (.lp q .ready none l) (O s,[.row z0 1 (z2 (q0i P k s))])) (fun r H'=>r=bl true∧H'=shJ (.lp q .ready none l) (O (s+1),[]))) :
 AFm Tryz.prog 4 q6c [.yld 3,.p (.box g.pv),.p (.box [bP b])] (shJ (.lp q .ready none l) ([],[])) (fun _ H'=>H'=shJ (.lp q .ready none l) (O S,[])):=by
 subst hP
 have:=w7e g hg S k R hs hk hR b hb q l hl O hy
 rwa [h0]at this
end Go.Proofs.YtinfbclgkghgaaaGreat.AL
