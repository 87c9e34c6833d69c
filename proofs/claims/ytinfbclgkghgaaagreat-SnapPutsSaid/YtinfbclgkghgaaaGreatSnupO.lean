/- A part of the proof. -/
import Derived.Test.YtinfbclgkghgaaaGreatSnupN
/- Plain: elimination of rows whose kernel is trivial comes to the unit. -/
namespace Go.Proofs.YtinfbclgkghgaaaGreat.AL
open Go Go.Proofs
def q0y (a:z7)(x:Nat→UInt8):Nat→UInt8
 |0=>0
 |n+1=>q0y a x n ^^^ Gf.mul (a.getD n 0) (x n)
theorem y5x {to row:z7}(q:UInt8)(h:to.length=row.length)(n:Nat):(Y3 to row q).getD n 0=to.getD n 0 ^^^ Gf.mul q (row.getD n 0):=by
 unfold Y3
 rw[List.getD_eq_getElem?_getD,List.getElem?_zipWith,List.getD_eq_getElem?_getD,List.getD_eq_getElem?_getD]
 by_cases hn:n<to.length
 ·rw[List.getElem?_eq_getElem hn,List.getElem?_eq_getElem (h ▸ hn)];rfl
 ·rw[List.getElem?_eq_none (by omega),List.getElem?_eq_none (by omega)]
  show (0:UInt8)=0 ^^^ Gf.mul q 0
  rw[Gf.mul_zero];rfl
theorem y5y (z:UInt8)(t:z7)(n:Nat):(V0 z t).getD n 0=Gf.mul z (t.getD n 0):=by
 unfold V0
 rw[List.getD_eq_getElem?_getD,List.getElem?_map,List.getD_eq_getElem?_getD]
 cases t[n]? with
 |none=>show (0:UInt8)=Gf.mul z 0;rw[Gf.mul_zero]
 |some v=>exact Gf.mul_comm _ _
theorem u1a (a b c d:UInt8):a ^^^ b ^^^ (c ^^^ d)=a ^^^ c ^^^ (b ^^^ d):=by
 rw[UInt8.xor_assoc,UInt8.xor_assoc,← UInt8.xor_assoc b,UInt8.xor_comm b c,UInt8.xor_assoc c]
theorem q5g {a b:UInt8}(h:a ^^^ b=0):a=b:=by
 have:a ^^^ b ^^^ b=b:=by rw[h,UInt8.zero_xor]
 rwa [UInt8.xor_assoc,UInt8.xor_self,UInt8.xor_zero]at this
theorem y2b {to row:z7}(q:UInt8)(h:to.length=row.length)(x:Nat→UInt8):∀ n,q0y (Y3 to row q) x n=q0y to x n ^^^ Gf.mul q (q0y row x n)
 |0=>by show (0:UInt8)=0 ^^^ Gf.mul q 0;rw[Gf.mul_zero];rfl
 |n+1=>by
  show q0y _ x n ^^^ Gf.mul ((Y3 to row q).getD n 0) (x n)=_
  rw[y2b q h x n,y5x q h,Gf.xor_mul,u1a,Gf.mul_assoc,← Gf.mul_xor];rfl
theorem q9q (z:UInt8)(t:z7)(x:Nat→UInt8):∀ n,q0y (V0 z t) x n=Gf.mul z (q0y t x n)
 |0=>by show (0:UInt8)=Gf.mul z 0;rw[Gf.mul_zero]
 |n+1=>by
  show q0y _ x n ^^^ Gf.mul ((V0 z t).getD n 0) (x n)=_
  rw[q9q z t x n,y5y,Gf.mul_assoc,← Gf.mul_xor];rfl
theorem z1k {a:z7}{i:Nat}(x:Nat→UInt8):∀ {n},(∀ j,j<n→a.getD j 0=if i=j then 1 else 0)→q0y a x n=if i<n then x i else 0
 |0,_=>by rw[if_neg (by omega)];rfl
 |n+1,h=>by
  show q0y a x n ^^^ Gf.mul (a.getD n 0) (x n)=_
  rw[z1k x (n:=n) fun j hj=>h j (by omega),h n (by omega)]
  by_cases e:i=n
  ·subst e
   rw[if_pos rfl,if_neg (by omega),if_pos (by omega),Gf.one_mul,UInt8.zero_xor]
  ·rw[if_neg e,Gf.zero_mul,UInt8.xor_zero]
   by_cases hi:i<n
   ·rw[if_pos hi,if_pos (by omega)]
   ·rw[if_neg hi,if_neg (by omega)]
theorem w0g {a:z7}{x:Nat→UInt8}{c:Nat}:∀ {n},c≤n→(∀ j,c≤j→j<n→x j=0)→q0y a x n=q0y a x c
 |0,h,_=>by rw[show c=0 by omega]
 |n+1,h,hz=>by
  by_cases e:c=n+1
  ·rw[e]
  ·show q0y a x n ^^^ Gf.mul (a.getD n 0) (x n)=_
   rw[w0g (n:=n) (by omega) fun j h1 h2=>hz j h1 (by omega),hz n (by omega) (by omega),Gf.mul_zero,UInt8.xor_zero]
theorem x0h {to row:z7}(h:to.length=row.length):Y3 to row 0=to:=by
 refine List.ext_getElem? fun n=>?_
 unfold Y3
 rw[List.getElem?_zipWith]
 by_cases hn:n<to.length
 ·rw[List.getElem?_eq_getElem hn,List.getElem?_eq_getElem (h ▸ hn)]
  show some (to[n] ^^^ Gf.mul 0 _)=_
  rw[Gf.zero_mul,UInt8.xor_zero]
 ·rw[List.getElem?_eq_none (by omega)]
theorem v9g (M:W3)(c p:Nat):swp M c p c=M p:=by unfold swp;rw[Nat.beq_refl]
theorem y5z (M:W3)(c p i:Nat):swp M c p i=M (if i=c then p else if i=p then c else i):=by
 unfold swp
 cases h:Nat.beq i c with
 |true=>rw[if_pos (Nat.eq_of_beq_eq_true h)]
 |false=>
  rw[if_neg (Nat.ne_of_beq_eq_false h)]
  cases h:Nat.beq i p with
  |true=>rw[if_pos (Nat.eq_of_beq_eq_true h)]
  |false=>rw[if_neg (Nat.ne_of_beq_eq_false h)]
theorem v8f {r c p:Nat}(hc:c<r)(hp:p<r){M N:W3}{Q:z7→z7→Prop}(h:∀ i,i<r→Q (swp M c p i) (swp N c p i)):∀ i,i<r→Q (M i) (N i):=fun i hi=>by
 have:=h (if i=c then p else if i=p then c else i) (by split;exact hp;split;exact hc;exact hi)
 rw[y5z,y5z]at this
 have e:(if (if i=c then p else if i=p then c else i)=c then p else if (if i=c then p else if i=p then c else i)=p then c else (if i=c then p else if i=p then c else i))=i:=by
  by_cases a:i=c
  ·rw[if_pos a]
   by_cases b:p=c
   ·rw[if_pos b];omega
   ·rw[if_neg b,if_pos rfl];exact a.symm
  ·rw[if_neg a]
   by_cases b:i=p
   ·rw[if_pos b,if_pos rfl];exact b.symm
   ·rw[if_neg b,if_neg a,if_neg b]
 rwa [e]at this
theorem v5s {r c p:Nat}(hc:c<r)(hp:p<r){M N:W3}{Q:z7→z7→Prop}(h:∀ i,i<r→Q (M i) (N i)):∀ i,i<r→Q (swp M c p i) (swp N c p i):=fun i hi=>by
 rw[y5z,y5z]
 exact h _ (by split;exact hp;split;exact hc;exact hi)
theorem x4h (M:W3)(c:Nat)(v:z7)(i:Nat):Z4 M c v i=if i=c then v else M i:=by
 unfold Z4
 cases h:Nat.beq i c with
 |true=>rw[if_pos (Nat.eq_of_beq_eq_true h)]
 |false=>rw[if_neg (Nat.ne_of_beq_eq_false h)]
theorem w4f {r c k:Nat}(hk:k<r)(hc:c<r){G:W3 × W3}(h1:Y7 r G.1)(h2:Y7 r G.2)(i:Nat) :
 (Z8 c k G).1 i=(if i=k∧i≠c then Y3 (G.1 k) (G.1 c) ((G.1 k).getD c 0) else G.1 i)∧(Z8 c k G).2 i=(if i=k∧i≠c then Y3 (G.2 k) (G.2 c) ((G.1 k).getD c 0) else G.2 i):=by
 unfold Z8
 cases e1:Nat.beq k c with
 |true=>
  have:=Nat.eq_of_beq_eq_true e1
  rw[if_neg (by omega),if_neg (by omega)]
  exact⟨rfl,rfl⟩
 |false=>
  have hkc:=Nat.ne_of_beq_eq_false e1
  cases e2:((G.1 k).getD c 0 != 0) with
  |true=>
   show Z4 _ _ _ i=_∧Z4 _ _ _ i=_
   rw[x4h,x4h]
   by_cases h:i=k
   ·rw[if_pos h,if_pos h,if_pos ⟨h,by omega⟩,if_pos ⟨h,by omega⟩];exact⟨rfl,rfl⟩
   ·rw[if_neg h,if_neg h,if_neg (by omega),if_neg (by omega)];exact⟨rfl,rfl⟩
  |false=>
   have e2:(G.1 k).getD c 0=0:=by simpa using e2
   show G.1 i=_∧G.2 i=_
   rw[e2,x0h (by rw[h1 k hk,h1 c hc]),x0h (by rw[h2 k hk,h2 c hc])]
   by_cases h:i=k
   ·subst h
    rw[if_pos ⟨rfl,hkc⟩,if_pos ⟨rfl,hkc⟩];exact⟨rfl,rfl⟩
   ·rw[if_neg (by omega),if_neg (by omega)];exact⟨rfl,rfl⟩
theorem y2c {r c:Nat}(hc:c<r){G:W3 × W3}(h1:Y7 r G.1)(h2:Y7 r G.2):∀ n,n≤r→∀ i,
 (elS c G n).1 i=(if i<n∧i≠c then Y3 (G.1 i) (G.1 c) ((G.1 i).getD c 0) else G.1 i)∧(elS c G n).2 i=(if i<n∧i≠c then Y3 (G.2 i) (G.2 c) ((G.1 i).getD c 0) else G.2 i)
 |0,_,i=>by rw[if_neg (by omega),if_neg (by omega)];exact⟨rfl,rfl⟩
 |n+1,hn,i=>by
  obtain⟨l1,l2⟩:=q2d hc h1 h2 n (by omega)
  obtain⟨a,b⟩:=w4f (show n<r by omega) hc l1 l2 i
  obtain⟨n1,n2⟩:=y2c hc h1 h2 n (by omega) n
  obtain⟨c1,c2⟩:=y2c hc h1 h2 n (by omega) c
  obtain⟨i1,i2⟩:=y2c hc h1 h2 n (by omega) i
  rw[if_neg (by omega)]at n1 n2 c1 c2
  show (Z8 c n (elS c G n)).1 i=_∧(Z8 c n (elS c G n)).2 i=_
  rw[a,b,n1,n2,c1,c2]
  by_cases h:i=n∧i≠c
  ·rw[if_pos h,if_pos h,if_pos (by omega),if_pos (by omega),h.1];exact⟨rfl,rfl⟩
  ·rw[if_neg h,if_neg h,i1,i2]
   by_cases h':i<n∧i≠c
   ·rw[if_pos h',if_pos h',if_pos (by omega),if_pos (by omega)];exact⟨rfl,rfl⟩
   ·rw[if_neg h',if_neg h',if_neg (by omega),if_neg (by omega)];exact⟨rfl,rfl⟩
/-- One column: the rows behind it. -/
theorem w4g {r c p:Nat}(hc:c<r)(hp:p<r){G:W3 × W3}(h1:Y7 r G.1)(h2:Y7 r G.2)(hpv:q4a G.1 r c=p)(z:UInt8)(hz:z=Gf.inv ((G.1 p).getD c 0))(_hz1:Gf.mul ((G.1 p).getD c 0) z=1):∀ i,i<r →
 (q1i r c G).1 i=(if i=c then V0 z (swp G.1 c p c) else Y3 (swp G.1 c p i) (V0 z (swp G.1 c p c)) ((swp G.1 c p i).getD c 0)) ∧
 (q1i r c G).2 i=(if i=c then V0 z (swp G.2 c p c) else Y3 (swp G.2 c p i) (V0 z (swp G.2 c p c)) ((swp G.1 c p i).getD c 0)):=fun i hi=>by
 have s1:=V1 h1 hc hp
 have s2:=V1 h2 hc hp
 have e:J3 r c G=(swp G.1 c p,swp G.2 c p):=by unfold J3;rw[hpv,Int.toNat_natCast]
 have e2:q2u c (J3 r c G)=(Z4 (swp G.1 c p) c (V0 z (swp G.1 c p c)),Z4 (swp G.2 c p) c (V0 z (swp G.2 c p c))):=by
  rw[e,hz,← v9g G.1 c p];rfl
 have t1:=X3 s1 c (v:=V0 z (swp G.1 c p c)) (by rw[X1];exact s1 c hc)
 have t2:=X3 s2 c (v:=V0 z (swp G.2 c p c)) (by rw[X1];exact s2 c hc)
 unfold q1i
 rw[e2]
 have hr:=y2c hc (G:=(Z4 (swp G.1 c p) c (V0 z (swp G.1 c p c)),Z4 (swp G.2 c p) c (V0 z (swp G.2 c p c)))) t1 t2 r (Nat.le_refl _) i
 simp only[x4h,if_pos]at hr
 rw[hr.1,hr.2]
 by_cases h:i=c
 ·simp only[h,ne_eq,not_true,and_false,if_false,if_true,and_self]
 ·simp only[h,hi,ne_eq,not_false_eq_true,and_self,if_false,if_true]
def q9r (r:Nat)(M:W3)(x:Nat→UInt8):Prop:=∀ i,i<r→q0y (M i) x r=0
structure ElI (r:Nat) (L:List z7) (c:Nat) (G:W3 × W3):Prop where
 len1:Y7 r G.1
 len2:Y7 r G.2
 unit:∀ i,i<r→∀ j,j<c→(G.1 i).getD j 0=if i=j then 1 else 0
 ker:∀ x,q9r r G.1 x→q9r r (fun i=>L.getD i []) x
 val:∀ x y,(∀ i,i<r→q0y (L.getD i []) x r=y i)→∀ i,i<r→q0y (G.1 i) x r=q0y (G.2 i) y r
theorem w6q (M:W3)(c:Nat):∀ n i,¬ 0≤q6z M c n i→∀ p,i≤p→p<i+n→(M p).getD c 0=0
 |0,i,_,p,h1,h2=>by omega
 |n+1,i,h,p,h1,h2=>by
  unfold q6z at h
  cases hm:(M i).getD c 0 != 0 with
  |true=>rw[hm]at h;exact absurd (show (0:Int)≤i by omega) h
  |false=>
   rw[hm]at h
   by_cases e:i=p
   ·subst e;simpa using hm
   ·exact w6q M c n (i+1) h p (by omega) (by omega)
theorem w0h {r c:Nat}(hc:c<r){L:List z7}{G:W3 × W3}(hI:ElI r L c G)(hk:∀ x,q9r r (fun i=>L.getD i []) x→∀ j,j<r→x j=0):0≤q4a G.1 r c:=by
 by_cases h:0≤q4a G.1 r c
 ·exact h
 ·have hno:=w6q G.1 c (r - c) c h
  exfalso
  have hx:=hk (fun j=>if j=c then 1 else if j<c then (G.1 j).getD c 0 else 0) (hI.ker _ fun i hi=>by
   rw[w0g (c:=c+1) (by omega) fun j h1 h2=>by show (if j=c then (1:UInt8) else _)=0;rw[if_neg (by omega),if_neg (by omega)]]
   show q0y _ _ c ^^^ Gf.mul ((G.1 i).getD c 0) (if c=c then 1 else _)=0
   rw[if_pos rfl,Gf.mul_one,z1k _ (hI.unit i hi)]
   by_cases e:i<c
   ·rw[if_pos e,if_neg (by omega),if_pos e,UInt8.xor_self]
   ·rw[if_neg e,hno i (by omega) (by omega)];rfl) c hc
  rw[if_pos rfl]at hx
  exact absurd hx (by decide)
theorem el0 {r:Nat}{L:List z7}(hL:L.length=r)(hr:∀ s∈L,s.length=r):ElI r L 0 (gs0 r L) where
 len1:=fun i hi=>by
  show (L.getD i []).length=r
  rw[List.getD_eq_getElem?_getD,List.getElem?_eq_getElem (by omega)]
  exact hr _ (List.getElem_mem _)
 len2:=fun i _=>q8i _ _ _
 unit:=fun i _ j h=>by omega
 ker:=fun x h=>h
 val:=fun x y h i hi=>by
  rw[show q0y ((gs0 r L).1 i) x r=y i from h i hi,z1k (i:=i),if_pos hi]
  intro j hj
  show (u0 idA r i).getD j 0=_
  unfold u0 idA
  rw[List.getD_eq_getElem?_getD,List.getElem?_map,List.getElem?_range hj]
  show (match ((i:Int)==(j:Int)) with|true=>(1:UInt8)|false=>0)=_
  by_cases e:i=j
  ·rw[if_pos e,e];rw[show ((j:Int)==(j:Int))=true from beq_self_eq_true _]
  ·rw[if_neg e,show ((i:Int)==(j:Int))=false from beq_eq_false_iff_ne.mpr (by omega)]
theorem v8g {r c:Nat}(hc:c<r){L:List z7}{G:W3 × W3}(hI:ElI r L c G)(hp:0≤q4a G.1 r c):ElI r L (c+1) (q1i r c G):=by
 obtain⟨p,p1,p2,p3,p4⟩:=z2w hc hp
 obtain⟨z,hz⟩:∃ z,z=Gf.inv ((G.1 p).getD c 0):=⟨_,rfl⟩
 have hz1:Gf.mul ((G.1 p).getD c 0) z=1:=by rw[hz];exact Gf.mul_inv p4
 have hrow:=w4g hc p3 hI.len1 hI.len2 p1 z hz hz1
 have s1:=V1 hI.len1 hc p3
 have s2:=V1 hI.len2 hc p3
 have hz0:z≠0:=fun e=>by rw[e,Gf.mul_zero]at hz1;exact absurd hz1 (by decide)
 have hSc:=v9g G.1 c p
 have hu:∀ i,i<r→∀ j,j<c→(swp G.1 c p i).getD j 0=if i=j then 1 else 0:=fun i hi j hj=>by
  rw[y5z,hI.unit _ (by split;exact p3;split;exact hc;exact hi) j hj]
  by_cases e:i=c
  ·rw[if_pos e,if_neg (by omega),if_neg (by omega)]
  ·rw[if_neg e]
   by_cases e2:i=p
   ·rw[if_pos e2,if_neg (by omega),if_neg (by omega)]
   ·rw[if_neg e2]
 have hvs:∀ x y,(∀ i,i<r→q0y (L.getD i []) x r=y i)→∀ i,i<r→q0y (swp G.1 c p i) x r=q0y (swp G.2 c p i) y r:=fun x y h=>v5s (Q:=fun a b=>q0y a x r=q0y b y r) hc p3 (hI.val x y h)
 have hks:∀ x,q9r r (swp G.1 c p) x→q9r r (fun i=>L.getD i []) x:=fun x h=>hI.ker x (v8f (N:=G.1) (Q:=fun a _=>q0y a x r=0) hc p3 h)
 have hcc:(swp G.1 c p c).getD c 0=(G.1 p).getD c 0:=by rw[hSc]
 rw[← hcc]at hz1
 generalize swp G.1 c p=S at *
 generalize swp G.2 c p=T at *
 have lc:∀ i,i<r→(S i).length=(V0 z (S c)).length:=fun i hi=>by rw[X1,s1 i hi,s1 c hc]
 have lc2:∀ i,i<r→(T i).length=(V0 z (T c)).length:=fun i hi=>by rw[X1,s2 i hi,s2 c hc]
 refine⟨fun i hi=>?_,fun i hi=>?_,fun i hi j hj=>?_,fun x hx=>hks x ?_,fun x y h i hi=>?_⟩
 ·rw[(hrow i hi).1]
  split
  ·rw[X1];exact s1 c hc
  ·rw[q6y _ (lc i hi)];exact s1 i hi
 ·rw[(hrow i hi).2]
  split
  ·rw[X1];exact s2 c hc
  ·rw[q6y _ (lc2 i hi)];exact s2 i hi
 ·rw[(hrow i hi).1]
  by_cases e:i=c
  ·rw[if_pos e,y5y]
   by_cases ej:j=c
   ·rw[ej,if_pos e,Gf.mul_comm];exact hz1
   ·rw[hu c hc j (by omega),if_neg (by omega),if_neg (by omega),Gf.mul_zero]
  ·rw[if_neg e,y5x _ (lc i hi),y5y]
   by_cases ej:j=c
   ·rw[ej,if_neg e,Gf.mul_comm z,hz1,Gf.mul_one,UInt8.xor_self]
   ·rw[hu c hc j (by omega),if_neg (show c≠j by omega),Gf.mul_zero,Gf.mul_zero,UInt8.xor_zero]
    exact hu i hi j (by omega)
 ·have hc0:=hx c hc
  rw[(hrow c hc).1,if_pos rfl,q9q]at hc0
  have hc0:q0y (S c) x r=0:=by
   rcases Gf.mul_eq_zero hc0 with h|h
   ·exact absurd h hz0
   ·exact h
  intro i hi
  by_cases e:i=c
  ·rw[e];exact hc0
  ·have:=hx i hi
   rw[(hrow i hi).1,if_neg e,y2b _ (lc i hi),q9q,hc0,Gf.mul_zero,Gf.mul_zero,UInt8.xor_zero]at this
   exact this
 ·have hv:=hvs x y h
  rw[(hrow i hi).1,(hrow i hi).2]
  split
  ·rw[q9q,q9q,hv c hc]
  ·rw[y2b _ (lc i hi),y2b _ (lc2 i hi),q9q,q9q,hv c hc,hv i hi]
theorem x4i {r:Nat}{L:List z7}(hL:L.length=r)(hr:∀ s∈L,s.length=r)(hk:∀ x,q9r r (fun i=>L.getD i []) x→∀ j,j<r→x j=0):∀ c,c≤r→ElI r L c (gs r L c)
 |0,_=>el0 hL hr
 |c+1,hc=>v8g (by omega) (x4i hL hr hk c (by omega)) (w0h (by omega) (x4i hL hr hk c (by omega)) hk)
theorem v8h {r:Nat}{L:List z7}(hL:L.length=r)(hr:∀ s∈L,s.length=r)(hk:∀ x,q9r r (fun i=>L.getD i []) x→∀ j,j<r→x j=0):z9f r L=true:=by
 unfold z9f
 rw[List.all_eq_true]
 intro c hc
 have hc:=List.mem_range.mp hc
 exact decide_eq_true (w0h hc (x4i hL hr hk c (by omega)) hk)
theorem v0d {r:Nat}{L:List z7}(hL:L.length=r)(hr:∀ s∈L,s.length=r)(hk:∀ x,q9r r (fun i=>L.getD i []) x→∀ j,j<r→x j=0)(x y:Nat→UInt8)
 (h:∀ i,i<r→q0y (L.getD i []) x r=y i) (i:Nat) (hi:i<r):q0y ((gs r L r).2 i) y r=x i:=by
 have hI:=x4i hL hr hk r (Nat.le_refl _)
 rw[← hI.val x y h i hi,z1k x (hI.unit i hi),if_pos hi]
end Go.Proofs.YtinfbclgkghgaaaGreat.AL
namespace Go.Proofs.YtinfbclgkghgaaaGreat.AL
open Go Go.Proofs
theorem Gf.mlc (a b c:UInt8):Gf.mul a (Gf.mul b c)=Gf.mul b (Gf.mul a c):=by rw[← Gf.mul_assoc,Gf.mul_comm a b,Gf.mul_assoc]
theorem Gf.inv_ne (a:UInt8):Gf.inv a≠0:=Gf.pw_ne _
def z6y (x:UInt8→UInt8)(a:UInt8):List UInt8→UInt8
 |[]=>0
 |b :: B=>z6y x a B ^^^ Gf.mul (x b) (Gf.inv (a ^^^ b))
theorem w4h {a b:UInt8}(h:a≠b):a ^^^ b≠0:=fun e=>h (q5g e)
theorem y6a (a b c:UInt8):a ^^^ b=a ^^^ c ^^^ (c ^^^ b):=by rw[UInt8.xor_assoc,← UInt8.xor_assoc c,UInt8.xor_self,UInt8.zero_xor]
theorem v8i (u v:UInt8):(1 ^^^ u) ^^^ (1 ^^^ v)=u ^^^ v:=by rw[u1a,UInt8.xor_self,UInt8.zero_xor]
theorem v5t (X p q d U V:UInt8)(hU:Gf.mul p U=1)(hV:Gf.mul q V=1) :
 Gf.mul (p ^^^ d) (Gf.mul X U) ^^^ Gf.mul (q ^^^ d) (Gf.mul X V)=Gf.mul (p ^^^ q) (Gf.mul (Gf.mul (Gf.mul X d) V) U):=by
 rw[Gf.mlc (p ^^^ d),Gf.mlc (q ^^^ d),Gf.xor_mul p d U,Gf.xor_mul q d V,hU,hV,← Gf.mul_xor,v8i]
 rw[Gf.xor_mul p q,Gf.mlc p,hU,Gf.mul_one,Gf.mul_assoc (Gf.mul X d) V U,Gf.mlc q,← Gf.mul_assoc q,hV,Gf.one_mul,Gf.mul_assoc,Gf.mul_assoc,← Gf.mul_xor,← Gf.mul_xor,← Gf.mul_xor,UInt8.xor_comm U]
theorem w0i (x:UInt8→UInt8)(a a0 b0:UInt8):∀ B:List UInt8,(∀ b∈B,a≠b∧a0≠b) →
 Gf.mul (a ^^^ b0) (z6y x a B) ^^^ Gf.mul (a0 ^^^ b0) (z6y x a0 B)=Gf.mul (a ^^^ a0) (z6y (fun b=>Gf.mul (Gf.mul (x b) (b ^^^ b0)) (Gf.inv (a0 ^^^ b))) a B)
 |[],_=>by show Gf.mul _ 0 ^^^ Gf.mul _ 0=Gf.mul _ 0;rw[Gf.mul_zero,Gf.mul_zero,Gf.mul_zero];rfl
 |b :: B,h=>by
  obtain⟨h1,h2⟩:=h b (List.mem_cons_self ..)
  have ih:=w0i x a a0 b0 B fun b hb=>h b (List.mem_cons_of_mem _ hb)
  show Gf.mul _ (z6y x a B ^^^ _) ^^^ Gf.mul _ (z6y x a0 B ^^^ _)=Gf.mul _ (z6y _ a B ^^^ _)
  rw[Gf.mul_xor,Gf.mul_xor,u1a,ih,Gf.mul_xor]
  congr 1
  rw[y6a a b0 b,y6a a0 b0 b,y6a a a0 b,UInt8.xor_comm b a0]
  exact v5t _ _ _ _ _ _ (Gf.mul_inv (w4h h1)) (Gf.mul_inv (w4h h2))
theorem x0i (x:UInt8→UInt8)(a:UInt8):∀ B:List UInt8,(∀ b∈B,x b=0)→z6y x a B=0
 |[],_=>rfl
 |b :: B,h=>by
  show z6y x a B ^^^ Gf.mul (x b) _=0
  rw[x0i x a B fun b hb=>h b (List.mem_cons_of_mem _ hb),h b (List.mem_cons_self ..),Gf.zero_mul];rfl
theorem w0j:∀ (B A:List UInt8) (x:UInt8→UInt8),A.Nodup→B.Nodup→(∀ a∈A,∀ b∈B,a≠b)→B.length≤A.length→(∀ a∈A,z6y x a B=0)→∀ b∈B,x b=0
 |[],_,_,_,_,_,_,_,_,hb=>absurd hb (List.not_mem_nil)
 |b0 :: B,[],_,_,_,_,hl,_,_,_=>absurd hl (by simp)
 |b0 :: B,a0 :: A,x,hA,hB,hd,hl,hz,b,hb=>by
  obtain⟨hA1,hA2⟩:=List.nodup_cons.mp hA
  obtain⟨hB1,hB2⟩:=List.nodup_cons.mp hB
  have hx0:∀ a∈a0 :: A,x b0=Gf.mul (a ^^^ b0) (z6y x a B):=fun a ha=>by
   have h1:z6y x a B=Gf.mul (x b0) (Gf.inv (a ^^^ b0)):=q5g (hz a ha)
   rw[h1,Gf.mlc,Gf.mul_inv (w4h (hd a ha b0 (List.mem_cons_self ..))),Gf.mul_one]
  have hy:∀ b∈B,Gf.mul (Gf.mul (x b) (b ^^^ b0)) (Gf.inv (a0 ^^^ b))=0:=by
   refine w0j B A (fun b=>Gf.mul (Gf.mul (x b) (b ^^^ b0)) (Gf.inv (a0 ^^^ b))) hA2 hB2 (fun a ha b hb=>hd a (List.mem_cons_of_mem _ ha) b (List.mem_cons_of_mem _ hb)) (by simpa using hl) fun a ha=>?_
   have hdf:=w0i x a a0 b0 B fun b hb=>⟨hd a (List.mem_cons_of_mem _ ha) b (List.mem_cons_of_mem _ hb),hd a0 (List.mem_cons_self ..) b (List.mem_cons_of_mem _ hb)⟩
   rw[← hx0 a (List.mem_cons_of_mem _ ha),← hx0 a0 (List.mem_cons_self ..),UInt8.xor_self]at hdf
   rcases Gf.mul_eq_zero hdf.symm with h|h
   ·exact absurd (q5g h) (fun e=>hA1 (e ▸ ha))
   ·exact h
  have hx:∀ b∈B,x b=0:=fun b hb=>by
   rcases Gf.mul_eq_zero (hy b hb) with h|h
   ·rcases Gf.mul_eq_zero h with h|h
    ·exact h
    ·exact absurd (q5g h) (fun e=>hB1 (e ▸ hb))
   ·exact absurd h (Gf.inv_ne _)
  rcases List.mem_cons.mp hb with rfl|hb
  ·rw[hx0 a0 (List.mem_cons_self ..),x0i x a0 B hx,Gf.mul_zero]
  ·exact hx b hb
def q8m (S:List z7)(most:Nat):Nat→List Nat
 |0=>[]
 |i+1=>match decide ((X2 S most i).length<most)&&decide (0<(S.getD i []).length) with
  |true=>q8m S most i
  |false=>i :: q8m S most i
def z1m (S:List z7)(most k:Nat):Nat→List Nat
 |0=>[]
 |i+1=>match decide ((X2 S most (k+i)).length<most)&&decide (0<(S.getD (k+i) []).length) with
  |true=>(k+i) :: z1m S most k i
  |false=>z1m S most k i
def pkd (S:List z7)(most i:Nat):Bool:=decide ((X2 S most i).length<most)&&decide (0<(S.getD i []).length)
theorem q5v {S:List z7}{most i:Nat}(h:pkd S most i=true):X2 S most (i+1)=X2 S most i++[i]∧q8m S most (i+1)=q8m S most i:=by
 unfold pkd at h
 exact⟨by show (match _ with|true=>_|false=>_)=_;rw[h],by show (match _ with|true=>_|false=>_)=_;rw[h]⟩
theorem q7a {S:List z7}{most i:Nat}(h:pkd S most i=false):X2 S most (i+1)=X2 S most i∧q8m S most (i+1)=i :: q8m S most i:=by
 unfold pkd at h
 exact⟨by show (match _ with|true=>_|false=>_)=_;rw[h],by show (match _ with|true=>_|false=>_)=_;rw[h]⟩
theorem w4i {S:List z7}{most k i:Nat}(h:pkd S most (k+i)=true):z1m S most k (i+1)=(k+i) :: z1m S most k i:=by
 unfold pkd at h
 show (match _ with|true=>_|false=>_)=_;rw[h]
theorem w4j {S:List z7}{most k i:Nat}(h:pkd S most (k+i)=false):z1m S most k (i+1)=z1m S most k i:=by
 unfold pkd at h
 show (match _ with|true=>_|false=>_)=_;rw[h]
theorem w0k (S:List z7)(most:Nat):∀ i,(X2 S most i).length+(q8m S most i).length=i
 |0=>rfl
 |i+1=>by
  have ih:=w0k S most i
  cases h:pkd S most i with
  |true=>rw[(q5v h).1,(q5v h).2,List.length_append];show _+1+_=_;omega
  |false=>rw[(q7a h).1,(q7a h).2,List.length_cons];omega
theorem w0m (S:List z7)(most k:Nat):∀ i,(X2 S most (k+i)).length=(X2 S most k).length+(z1m S most k i).length
 |0=>rfl
 |i+1=>by
  have ih:=w0m S most k i
  rw[← Nat.add_assoc]
  cases h:pkd S most (k+i) with
  |true=>rw[(q5v h).1,w4i h,List.length_append,List.length_singleton,List.length_cons];omega
  |false=>rw[(q7a h).1,w4j h];exact ih
theorem z6z (S:List z7)(most k j:Nat)(h:j∈X2 S most k):∀ i,j∈X2 S most (k+i)
 |0=>h
 |i+1=>by
  rw[← Nat.add_assoc]
  cases e:pkd S most (k+i) with
  |true=>rw[(q5v e).1];exact List.mem_append.mpr (.inl (z6z S most k j h i))
  |false=>rw[(q7a e).1];exact z6z S most k j h i
theorem z1n (S:List z7)(most k j:Nat):∀ i,j∈z1m S most k i→j∈X2 S most (k+i)∧k≤j∧j<k+i
 |0,h=>absurd h (List.not_mem_nil)
 |i+1,h=>by
  rw[← Nat.add_assoc]
  cases e:pkd S most (k+i) with
  |true=>
   rw[w4i e]at h
   rw[(q5v e).1]
   rcases List.mem_cons.mp h with rfl|h
   ·exact⟨List.mem_append.mpr (.inr (List.mem_singleton.mpr rfl)),by omega,by omega⟩
   ·obtain⟨a,b,c⟩:=z1n S most k j i h
    exact⟨List.mem_append.mpr (.inl a),b,by omega⟩
  |false=>
   rw[w4j e]at h
   rw[(q7a e).1]
   obtain⟨a,b,c⟩:=z1n S most k j i h
   exact⟨a,b,by omega⟩
theorem y2d (S:List z7)(most j:Nat):∀ i,j∈q8m S most i→j<i
 |0,h=>absurd h (List.not_mem_nil)
 |i+1,h=>by
  cases e:pkd S most i with
  |true=>rw[(q5v e).2]at h;have:=y2d S most j i h;omega
  |false=>
   rw[(q7a e).2]at h
   rcases List.mem_cons.mp h with rfl|h
   ·omega
   ·have:=y2d S most j i h;omega
theorem x4j (S:List z7)(most j:Nat):∀ i,j<i→j∈X2 S most i∨j∈q8m S most i
 |0,h=>by omega
 |i+1,h=>by
  cases e:pkd S most i with
  |true=>
   rw[(q5v e).1,(q5v e).2]
   by_cases e:j=i
   ·subst e
    exact .inl (List.mem_append.mpr (.inr (List.mem_singleton.mpr rfl)))
   ·exact(x4j S most j i (by omega)).imp (fun h=>List.mem_append.mpr (.inl h)) id
  |false=>
   rw[(q7a e).1,(q7a e).2]
   by_cases e:j=i
   ·subst e
    exact .inr (List.mem_cons_self ..)
   ·exact(x4j S most j i (by omega)).imp id (List.mem_cons_of_mem _)
theorem z2y {i j:Nat}(hi:i<256)(hj:j<256)(h:UInt8.ofNat i=UInt8.ofNat j):i=j:=by
 have:=congrArg UInt8.toNat h
 rw[UInt8.toNat_ofNat',UInt8.toNat_ofNat',Nat.mod_eq_of_lt hi,Nat.mod_eq_of_lt hj]at this
 exact this
theorem y6b (S:List z7)(most:Nat):∀ i,i≤256→((q8m S most i).map UInt8.ofNat).Nodup
 |0,_=>List.nodup_nil
 |i+1,hi=>by
  have ih:=y6b S most i (by omega)
  cases e:pkd S most i with
  |true=>rw[(q5v e).2];exact ih
  |false=>
   rw[(q7a e).2]
   refine List.nodup_cons.mpr ⟨fun h=>?_,ih⟩
   rw[List.mem_map]at h
   obtain⟨j,hj,e⟩:=h
   have hlt:=y2d S most j i hj
   have:=z2y (by omega) (by omega) e
   omega
theorem y6c (S:List z7)(most k:Nat):∀ i,k+i≤256→((z1m S most k i).map UInt8.ofNat).Nodup
 |0,_=>List.nodup_nil
 |i+1,hi=>by
  have ih:=y6c S most k i (by omega)
  cases e:pkd S most (k+i) with
  |true=>
   rw[w4i e]
   refine List.nodup_cons.mpr ⟨fun h=>?_,ih⟩
   rw[List.mem_map]at h
   obtain⟨j,hj,e⟩:=h
   obtain⟨_,_,hlt⟩:=z1n S most k j i hj
   have:=z2y (by omega) (by omega) e
   omega
  |false=>rw[w4j e];exact ih
theorem w6r (S:List z7)(most:Nat)(row:z7)(x:Nat→UInt8)(a:UInt8):∀ n,n≤256→(∀ j,j<n→row.getD j 0=Gf.inv (a ^^^ UInt8.ofNat j))→(∀ j∈X2 S most n,x j=0) →
 q0y row x n=z6y (fun b=>x b.toNat) a ((q8m S most n).map UInt8.ofNat)
 |0,_,_,_=>rfl
 |n+1,hn,hr,hx=>by
  show q0y row x n ^^^ Gf.mul (row.getD n 0) (x n)=_
  have hx':∀ j∈X2 S most n,x j=0:=fun j hj=>hx j (z6z S most n j hj 1)
  rw[w6r S most row x a n (by omega) (fun j hj=>hr j (by omega)) hx',hr n (by omega)]
  cases e:pkd S most n with
  |true=>
   rw[(q5v e).1]at hx
   rw[(q5v e).2,hx n (List.mem_append.mpr (.inr (List.mem_singleton.mpr rfl))),Gf.mul_zero,UInt8.xor_zero]
  |false=>
   rw[(q7a e).2]
   show _=z6y _ a _ ^^^ Gf.mul (x (UInt8.ofNat n).toNat) _
   rw[show (UInt8.ofNat n).toNat=n by rw[UInt8.toNat_ofNat',Nat.mod_eq_of_lt (by omega)],Gf.mul_comm]
theorem w0n (A:Nat→Nat→UInt8){c i j:Nat}(hj:j<c):(u0 A c i).getD j 0=A i j:=by
 unfold u0
 rw[List.getD_eq_getElem?_getD,List.getElem?_map,List.getElem?_range hj];rfl
theorem w4k {k m i:Nat}(h:i<k):(W9 k m).getD i []=u0 idA k i:=by
 unfold W9
 rw[List.getD_eq_getElem?_getD,List.getElem?_append_left (by rw[List.length_map,List.length_range];exact h),List.getElem?_map,List.getElem?_range h];rfl
theorem y6d {k m t:Nat}(h:t<m):(W9 k m).getD (k+t) []=u0 (q3n k) k t:=by
 unfold W9 q6e
 rw[List.getD_eq_getElem?_getD,List.getElem?_append_right (by rw[List.length_map,List.length_range];omega),List.length_map,List.length_range,Nat.add_sub_cancel_left,List.getElem?_map,List.getElem?_range h];rfl
theorem v5u (i j:Nat):idA i j=if i=j then 1 else 0:=by
 unfold idA
 by_cases e:i=j
 ·rw[if_pos e,e,show ((j:Int)==(j:Int))=true from beq_self_eq_true _]
 ·rw[if_neg e,show ((i:Int)==(j:Int))=false from beq_eq_false_iff_ne.mpr (by omega)]
theorem w0p {k m i:Nat}(h:i<k)(x:Nat→UInt8):q0y ((W9 k m).getD i []) x k=x i:=by
 rw[w4k h,z1k x (i:=i) fun j hj=>by rw[w0n _ hj,v5u],if_pos h]
theorem x4k {S:List z7}{k m:Nat}(h:(X2 S k (k+m)).length=k):(byB S k m).length=k:=by unfold byB;rw[List.length_map,h]
theorem w6s {S:List z7}{k m:Nat}:∀ s∈byB S k m,s.length=k:=fun s hs=>by
 unfold byB at hs
 rw[List.mem_map]at hs
 obtain⟨i,hi,rfl⟩:=hs
 have hi:=(q3j S k (k+m) i hi).1
 rw[List.getD_eq_getElem?_getD,List.getElem?_eq_getElem (by rw[z2x];exact hi)]
 exact x0f _ (List.getElem_mem _)
theorem x0j {S:List z7}{k m:Nat}(hkm:k+m≤256)(hg:(X2 S k (k+m)).length=k)(x:Nat→UInt8)(hz:q9r k (fun i=>(byB S k m).getD i []) x):∀ j,j<k→x j=0:=by
 have hz:∀ i∈X2 S k (k+m),q0y ((W9 k m).getD i []) x k=0:=fun i hi=>by
  obtain⟨t,ht,rfl⟩:=List.getElem_of_mem hi
  have:=hz t (by omega)
  have e:(byB S k m).getD t []=(W9 k m).getD (X2 S k (k+m))[t] []:=by
   unfold byB
   rw[List.getD_eq_getElem?_getD,List.getElem?_map,List.getElem?_eq_getElem ht];rfl
  have this:q0y ((byB S k m).getD t []) x k=0:=this
  rw[e]at this
  exact this
 have hx0:∀ j∈X2 S k k,x j=0:=fun j hj=>by
  have:=hz j (z6z S k k j hj m)
  rwa [w0p (q3j S k k j hj).1]at this
 have hA:=y6c S k k m hkm
 have hB:=y6b S k k (by omega)
 have hl:((q8m S k k).map UInt8.ofNat).length≤((z1m S k k m).map UInt8.ofNat).length:=by
  have h1:=w0k S k k
  have h2:=w0m S k k m
  rw[List.length_map,List.length_map]
  omega
 have hd:∀ a∈(z1m S k k m).map UInt8.ofNat,∀ b∈(q8m S k k).map UInt8.ofNat,a≠b:=fun a ha b hb e=>by
  rw[List.mem_map]at ha hb
  obtain⟨i,hi,rfl⟩:=ha
  obtain⟨j,hj,rfl⟩:=hb
  obtain⟨_,h1,h2⟩:=z1n S k k i m hi
  have h3:=y2d S k j k hj
  have:=z2y (by omega) (by omega) e
  omega
 have hc:=w0j _ _ (fun b=>x b.toNat) hA hB hd hl fun a ha=>by
  rw[List.mem_map]at ha
  obtain⟨i,hi,rfl⟩:=ha
  obtain⟨h0,h1,h2⟩:=z1n S k k i m hi
  have:=hz i h0
  obtain⟨t,rfl⟩:∃ t,i=k+t:=⟨i - k,by omega⟩
  rw[y6d (by omega),w6r S k _ x (UInt8.ofNat (k+t)) k (by omega) (fun j hj=>by rw[w0n _ hj];rfl) hx0]at this
  exact this
 intro j hj
 rcases x4j S k j k hj with h|h
 ·exact hx0 j h
 ·have:=hc (UInt8.ofNat j) (List.mem_map_of_mem h)
  rwa [show (UInt8.ofNat j).toNat=j by rw[UInt8.toNat_ofNat',Nat.mod_eq_of_lt (by omega)]]at this
theorem u7v {S:List z7}{k m:Nat}(hkm:k+m≤256)(hg:(X2 S k (k+m)).length=k):z9f k (byB S k m)=true:=v8h (x4k hg) w6s (x0j hkm hg)
theorem z7a {a:z7}{B:List z7}{c p:Nat}(hB:∀ s∈B,s.length=c)(hp:p<c):∀ n,n≤B.length→(x7 a B c n).getD p 0=q0y a (fun j=>(B.getD j []).getD p 0) n
 |0,_=>by
  show (List.replicate c (0:UInt8)).getD p 0=0
  rw[List.getD_eq_getElem?_getD,List.getElem?_replicate,if_pos hp];rfl
 |n+1,hn=>by
  have hl:(B.getD n []).length=c:=by
   rw[List.getD_eq_getElem?_getD,List.getElem?_eq_getElem (by omega)]
   exact hB _ (List.getElem_mem _)
  show (Y3 (x7 a B c n) (B.getD n []) (a.getD n 0)).getD p 0=_
  rw[y5x _ (by rw[Q9 a hB (by omega),hl]),z7a hB hp n (by omega)];rfl
theorem v5v {a b:z7}(h:a.length=b.length)(hg:∀ p,p<a.length→a.getD p 0=b.getD p 0):a=b:=by
 refine List.ext_getElem h fun p h1 h2=>?_
 have:=hg p h1
 rwa [List.getD_eq_getElem?_getD,List.getD_eq_getElem?_getD,List.getElem?_eq_getElem h1,List.getElem?_eq_getElem h2]at this
theorem v5w {S:List z7}{k m c:Nat}(hkm:k+m≤256)(hS:∀ i∈X2 S k (k+m),(S.getD i []).length=c)(hg:(X2 S k (k+m)).length=k){data:List z7}(hd:data.length=k)(hc:∀ s∈data,s.length=c)
 (h:∀ i∈X2 S k (k+m),∀ p,p<c→(S.getD i []).getD p 0=q0y ((W9 k m).getD i []) (fun j=>(data.getD j []).getD p 0) k):q5f S k m c=data:=by
 have hbl:=x4k (S:=S) (m:=m) hg
 have hol:(ofB S k m).length=k:=by unfold ofB;rw[List.length_map,hg]
 have hor:∀ s∈ofB S k m,s.length=c:=fun s hs=>by
  unfold ofB at hs
  rw[List.mem_map]at hs
  obtain⟨i,hi,rfl⟩:=hs
  exact hS i hi
 have hil:(z9h (byB S k m)).length=k:=(y5w _).trans hbl
 unfold q5f
 refine List.ext_getElem (by rw[List.length_map,hil,hd]) fun i h1 h2=>?_
 rw[List.getElem_map]
 have hi:i<k:=by omega
 refine v5v (by rw[Q9 _ hor (by omega),hc _ (List.getElem_mem _)]) fun p hp=>?_
 rw[Q9 _ hor (by omega)]at hp
 rw[z7a hor hp k (by omega)]
 have hrow:(z9h (byB S k m))[i]'(by omega)=(gs k (byB S k m) k).2 i:=by
  simp only[q8h hbl,List.getElem_map,List.getElem_range]
 rw[hrow,v0d hbl w6s (x0j hkm hg) (fun j=>(data.getD j []).getD p 0) _ (fun t ht=>?_) i hi]
 ·show (data.getD i []).getD p 0=_
  rw[List.getD_eq_getElem?_getD (l:=data),List.getElem?_eq_getElem h2];rfl
 ·have hg2:t<(X2 S k (k+m)).length:=by omega
  have:=h _ (List.getElem_mem hg2) p hp
  have e1:(byB S k m).getD t []=(W9 k m).getD (X2 S k (k+m))[t] []:=by
   unfold byB
   rw[List.getD_eq_getElem?_getD,List.getElem?_map,List.getElem?_eq_getElem hg2];rfl
  have e2:(ofB S k m).getD t []=S.getD (X2 S k (k+m))[t] []:=by
   unfold ofB
   rw[List.getD_eq_getElem?_getD,List.getElem?_map,List.getElem?_eq_getElem hg2];rfl
  rw[e1,e2]
  exact this.symm
theorem q8n (data:List z7)(m c:Nat):(q4b data m c).length=m:=by unfold q4b;rw[List.length_map,q2s]
theorem v0e {data:List z7}{k m c i p:Nat}(hd:data.length=k)(hc:∀ s∈data,s.length=c)(hi:i<k+m)(hp:p<c):((data++q4b data m c).getD i []).getD p 0=q0y ((W9 k m).getD i []) (fun j=>(data.getD j []).getD p 0) k:=by
 by_cases h:i<k
 ·rw[w0p h,List.getD_eq_getElem?_getD (l:=data++_),List.getElem?_append_left (by omega),← List.getD_eq_getElem?_getD]
 ·obtain⟨t,rfl⟩:∃ t,i=k+t:=⟨i - k,by omega⟩
  rw[y6d (by omega),List.getD_eq_getElem?_getD (l:=data++_),List.getElem?_append_right (by omega),hd,Nat.add_sub_cancel_left]
  unfold q4b q6e
  rw[List.getElem?_map,List.getElem?_map,List.getElem?_range (by omega)]
  show (x7 (u0 (q3n data.length) data.length t) data c data.length).getD p 0=_
  rw[z7a hc hp _ (Nat.le_refl _),hd]
theorem v0f {S:List z7}{k m c:Nat}(hkm:k+m≤256)(_hc0:0<c){data:List z7}(hd:data.length=k)(hc:∀ s∈data,s.length=c)
 (hS:∀ i,i<k+m→0<(S.getD i []).length→S.getD i []=(data++q4b data m c).getD i []) (hg:¬ (X2 S k (k+m)).length<k):q7x S k m c=(data++q4b data m c,0):=by
 have hg2:=(q8k S k (k+m)).2
 have hdat:q5f S k m c=data:=by
  have hl:∀ i,i<k+m→((data++q4b data m c).getD i []).length=c:=fun i hi=>by
   rw[List.getD_eq_getElem?_getD,List.getElem?_eq_getElem (by rw[List.length_append,q8n];omega)]
   have hm:=List.getElem_mem (l:=data++q4b data m c) (n:=i) (by rw[List.length_append,q8n];omega)
   rcases List.mem_append.mp hm with h|h
   ·exact hc _ h
   ·have h':_∈(q6e data.length m).map fun a=>x7 a data c data.length:=h
    rw[List.mem_map]at h'
    obtain⟨a,_,e⟩:=h'
    show List.length (_) =c
    exact e ▸ Q9 a hc (Nat.le_refl _)
  refine v5w hkm (fun i hi=>?_) (by omega) hd hc fun i hi p hp=>?_
  ·obtain⟨h1,h2⟩:=q3j S k (k+m) i hi
   rw[hS i h1 h2];exact hl i h1
  ·obtain⟨h1,h2⟩:=q3j S k (k+m) i hi
   rw[hS i h1 h2];exact v0e hd hc h1 hp
 unfold q7x
 rw[decide_eq_false hg,hdat]
end Go.Proofs.YtinfbclgkghgaaaGreat.AL
namespace Go.Proofs.YtinfbclgkghgaaaGreat.AL
open Go Go.Proofs
set_option maxHeartbeats 1000000 in
set_option maxRecDepth 20000 in
theorem z9i (L:List z7)(c:Nat)(h1:1≤L.length)(h2:L.length≤64)(c1:1≤c)(c2:c≤4096)(hc:∀ s∈L,s.length=c):AF Tryz.prog x7f [.p (.sl 1 (z4 L))] [] (v9 (bl true) []):=by
 refine AF.mono (R:=fun r H'=>∃ z,z=true∧r=bl z∧H'=[]) ?_ (by rintro r H' ⟨z,rfl,rfl,rfl⟩;exact⟨rfl,rfl⟩)
 have hcl:=Q2 L
 have h0:=List.getElem?_eq_getElem (show 0<L.length by omega)
 have hc0:=hc _ (List.getElem_mem (show 0<L.length by omega))
 generalize L[0]=s0 at h0 hc0
 have hx0:(z4 L)[(0:Int).toNat]?=some [bP s0]:=Q4 h0
 have hb0:=w9 s0
 refine v8 hT x7g rfl rfl x7h rfl ?_
 refine q8 (q7 hT ?_)
 refine z8 ⟨⟨44,[(0,.p (.sl 1 (z4 L)))]⟩,[]⟩ True (q8 (q7 hT ?_)) (fun _=>?_)
 ·refine y4 (fun h=>?_) (fun h=>?_)
  ·have h:=of_decide_eq_true (show decide ((((z4 L).length:Nat):Int)<1)=true from h)
   omega
  refine z2 (y4 (fun h=>?_) (fun h=>?_))
  ·have h:=of_decide_eq_true (show decide ((((z4 L).length:Nat):Int) > 64)=true from h)
   omega
  exact z5 ⟨q9 [] [0] rfl,trivial⟩
 refine z8 ⟨⟨44,[]⟩,[]⟩ True (q8 (q7 hT ?_)) (fun _=>?_)
 ·refine z3 ?_
  refine y8 (fun n s=>∃ (k:Nat) (j:Int),n+k=L.length∧j=k∧s=⟨⟨44,[(0,.p (.sl 1 (z4 L))),(3,i64 j)]⟩,[]⟩) L.length ⟨⟨44,_⟩,_⟩ (q9 [] [0,3] rfl) ⟨0,0,rfl,rfl,rfl⟩ ?_
  rintro n s ⟨k,j,hnk,hj,rfl⟩
  refine q8 (q8 (q7 hT ?_))
  refine z2 (y4 (fun h=>?_) (fun h=>?_))
  ·have h:=of_decide_eq_true (show decide (j<(((z4 L).length:Nat):Int))=true from h)
   have hk:k<L.length:=by omega
   refine z5 ?_
   have hx:=List.getElem?_eq_getElem hk
   have hcx:=hc _ (List.getElem_mem hk)
   generalize L[k]=s at hx hcx
   have hxp:(z4 L)[j.toNat]?=some [bP s]:=by rw[hj,Int.toNat_natCast];exact Q4 hx
   have hbs:=w9 s
   refine z8 ⟨⟨44,[(0,.p (.sl 1 (z4 L))),(3,i64 j)]⟩,[]⟩ True (z3 (q8 ?_)) (fun _=>?_)
   ·refine x6 [] [] hT z6 (by rfl) ?_
    refine⟨by omega,v7 hxp ?_⟩
    refine y4 (fun h=>?_) (fun h=>?_)
    ·have h:=of_decide_eq_true (show decide ((((bx s).length:Nat):Int)<1)=true from h)
     omega
    refine⟨by omega,v7 hxp ?_⟩
    refine y4 (fun h=>?_) (fun h=>?_)
    ·have h:=of_decide_eq_true (show decide ((((bx s).length:Nat):Int) > 4096)=true from h)
     omega
    refine⟨by omega,v7 hxp ?_⟩
    refine⟨by decide,v7 hx0 ?_⟩
    refine z2 (y4 (fun h=>?_) (fun h=>?_))
    ·have h:((((bx s).length:Nat):Int) != (((bx s0).length:Nat):Int))=true:=h
     rw[bne_iff_ne]at h
     omega
    exact z5 ⟨q9 [] [0,3] rfl,trivial⟩
   ·refine q7 hT ?_
    exact⟨n - 1,by omega,_,q9 [] [0,3] rfl,k+1,IntKind.i64.wrap (j+1),by omega,by rw[y7 _ (by omega) (by omega)];omega,rfl⟩
  ·refine x9 ?_
   exact⟨q9 [] [] rfl,trivial⟩
 refine q8 (q7 hT ?_)
 refine y5 ?_
 exact z9 [] ⟨true,rfl,rfl,rfl⟩ rfl
theorem v8j {k i:Nat}(hi:i<k):(List.replicate k [u8 0]).set i [u8 1]=bx (u0 idA k i):=by
 refine List.ext_getElem? fun j=>?_
 rw[List.getElem?_set,List.length_replicate,List.getElem?_replicate]
 by_cases hj:j<k
 ·have hr:(bx (u0 idA k i))[j]?=some [u8 (if i=j then 1 else 0)]:=by
   unfold bx u0
   rw[List.getElem?_map,List.getElem?_map,List.getElem?_range hj]
   show some [u8 (idA i j)]=_
   rw[v5u]
  rw[hr]
  by_cases e:i=j
  ·rw[if_pos e,if_pos hi,if_pos e]
  ·rw[if_neg e,if_pos hj,if_neg e]
 ·rw[if_neg (by omega),if_neg (by omega),List.getElem?_eq_none (by rw[w9,q8i];omega)]
set_option maxHeartbeats 1000000 in
set_option maxRecDepth 20000 in
theorem v0g (k:Nat)(h1:1≤k)(h2:k≤64):AF Tryz.prog x7y [i64 k] [] (v9 (.tup [.msl 0 1 0 k,i64 0]) [.row z0 1 (z4 ((List.range k).map (u0 idA k)))]):=by
 refine AF.mono (R:=fun r H'=>∃ z,z=(List.range k).map (u0 idA k)∧r=.tup [.msl 0 1 0 (z4 z).length,i64 0]∧H'=[.row z0 1 (z4 z)]) ?_ (by rintro r H' ⟨z,rfl,rfl,rfl⟩;exact⟨by rw[Q2,List.length_map,List.length_range],rfl⟩)
 have hRg:∀ i,i<k→((List.range k).map (u0 idA k))[i]?=some (u0 idA k i):=fun i hi=>by rw[List.getElem?_map,List.getElem?_range hi];rfl
 have hRl:((List.range k).map (u0 idA k)).length=k:=by rw[List.length_map,List.length_range]
 generalize (List.range k).map (u0 idA k)=R at hRg hRl
 refine v8 hT x7z rfl rfl x8a rfl ?_
 refine q8 (q7 hT ?_)
 refine z8 ⟨⟨28,[(0,i64 k)]⟩,[]⟩ True (q8 (q7 hT ?_)) (fun _=>?_)
 ·refine y4 (fun h=>?_) (fun h=>?_)
  ·have h:=of_decide_eq_true (show decide ((k:Int)<1)=true from h)
   omega
  refine z2 (y4 (fun h=>?_) (fun h=>?_))
  ·have h:=of_decide_eq_true (show decide ((k:Int) > 64)=true from h)
   omega
  exact z5 ⟨q9 [] [0] rfl,trivial⟩
 refine z8 ⟨⟨28,[(0,i64 k),(4,.msl 0 1 0 0)]⟩,[.row z0 1 (z4 [])]⟩ True (q7 hT ?_) (fun _=>?_)
 ·exact⟨Wk.trans (X5 z0 1) (Wk.trans (q2h 4 0 1 0 rfl) (q9 [0] [0,4] rfl)),trivial⟩
 refine y6 (fun st=>∃ X,X=R∧st=⟨⟨28,[(4,.msl 0 1 0 (z4 X).length)]⟩,[.row z0 1 (z4 X)]⟩) (q8 (q7 hT ?_)) ?_
 ·refine z3 ?_
  refine y8 (fun c st=>∃ (i:Nat) (ji:Int) (X:List z7),c+i=k∧ji=i∧X=R.take i∧st=⟨⟨28,[(0,i64 k),(4,.msl 0 1 0 (z4 X).length),(5,i64 ji)]⟩,[.row z0 1 (z4 X)]⟩) k ⟨⟨28,_⟩,_⟩ (q9 [0] [0,4,5] rfl) ⟨0,0,[],by omega,rfl,rfl,rfl⟩ ?_
  rintro c st ⟨i,ji,X,hci,hji,hX,rfl⟩
  refine q8 (q8 (q7 hT ?_))
  refine z2 (y4 (fun h=>?_) (fun h=>?_))
  ·have h:=of_decide_eq_true (show decide (ji<(k:Int))=true from h)
   have hi:i<k:=by omega
   refine z5 ?_
   have hrow:=v8j hi
   have hnew:R.take (i+1)=X++[u0 idA k i]:=by rw[List.take_add_one,hRg i hi,hX];rfl
   have hXl:(z4 X).length=i:=by rw[Q2,hX,List.length_take];omega
   have hbl:(bx (u0 idA k i)).length=k:=by rw[w9,q8i]
   generalize u0 idA k i=row at hrow hnew hbl
   refine y6 (fun st=>∃ X',X'=X++[row]∧st=⟨⟨28,[(0,i64 k),(4,.msl 0 1 0 (z4 X').length),(5,i64 ji)]⟩,[.row z0 1 (z4 X')]⟩) (z3 ?_) ?_
   ·refine y6 (fun st=>∃ Y,Y=List.replicate k [u8 0]∧st=⟨⟨28,[(0,i64 k),(4,.msl 0 1 0 (z4 X).length),(5,i64 ji),(6,.msl 1 1 0 k)]⟩,[.row z0 1 (z4 X),.row z1 1 Y]⟩) (q7 hT ?_) ?_
    ·refine⟨⟨rfl,by omega,by show (k:Int)*1≤_;omega,by omega⟩,?_⟩
     exact⟨_,q9 [0,1] [0,4,5,6] rfl,_,rfl,rfl⟩
    rintro _ ⟨Y,hY,rfl⟩
    have hg:Y[0+ji.toNat]?=some [u8 0]:=by rw[hY,List.getElem?_replicate,if_pos (by omega)]
    have hset:Y.set (0+ji.toNat) [u8 1]=bx row:=by rw[show 0+ji.toNat=i by omega,hY];exact hrow
    refine y6 (fun st=>∃ Y,Y=bx row∧st=⟨⟨28,[(0,i64 k),(4,.msl 0 1 0 (z4 X).length),(5,i64 ji),(6,.msl 1 1 0 k)]⟩,[.row z0 1 (z4 X),.row z1 1 Y]⟩) (q7 hT ?_) ?_
    ·refine⟨⟨by omega,by omega⟩,?_⟩
     refine v7 hg ?_
     exact⟨_,q9 [0,1] [0,4,5,6] rfl,_,hset,rfl⟩
    rintro _ ⟨_,rfl,rfl⟩
    refine Q1 (V3 6 1 k rfl hbl.symm rfl rfl) ?_
    refine q7 hT ?_
    refine⟨rfl,⟨by show ((z4 X).length+1)*24≤_;omega,by show (z4 X).length+1≤_;omega⟩,?_⟩
    refine⟨_,q9 [3] [0,4,5] rfl,_,rfl,?_⟩
    rw[J4];rfl
   ·rintro _ ⟨X',hX',rfl⟩
    refine q7 hT ?_
    exact⟨c - 1,by omega,_,q9 [0] [0,4,5] rfl,i+1,IntKind.i64.wrap (ji+1),X',by omega,by rw[y7 _ (by omega) (by omega)];omega,by rw[hnew];exact hX',rfl⟩
  ·have h:=of_decide_eq_false (show decide (ji<(k:Int))=false from h)
   rw[List.take_of_length_le (by omega)]at hX
   refine x9 ?_
   exact⟨_,q9 [0] [4] rfl,X,hX,rfl⟩
 rintro _ ⟨X,hX,rfl⟩
 refine q8 (q7 hT ?_)
 refine y5 ?_
 exact z9 [0] ⟨X,hX,rfl,rfl⟩ rfl
theorem v8k {rows cols:Nat}:∀ i,i<rows→((List.range rows).map (u0 (q3n cols) cols))[i]?=some (u0 (q3n cols) cols i):=fun i hi=>by rw[List.getElem?_map,List.getElem?_range hi];rfl
theorem v8m {A:Nat→Nat→UInt8}{c i j:Nat}(hj:j<c):(u0 A c i)[j]?=some (A i j):=by unfold u0;rw[List.getElem?_map,List.getElem?_range hj];rfl
set_option maxHeartbeats 1000000 in
set_option maxRecDepth 20000 in
theorem x4m (m k:Nat)(h1:1≤m)(h2:m≤64)(k1:1≤k)(k2:k≤64):AF Tryz.prog y3w [i64 m,i64 k] [] (v9 (.tup [.p (.sl 1 (z4 (q6e k m))),i64 0]) []):=by
 refine AF.mono (R:=fun r H'=>∃ z,z=q6e k m∧r=.tup [.p (.sl 1 (z4 z)),i64 0]∧H'=[]) ?_ (by rintro r H' ⟨z,rfl,rfl,rfl⟩;exact⟨rfl,rfl⟩)
 have hRg:∀ i,i<m→(q6e k m)[i]?=some (u0 (q3n k) k i):=v8k
 have hRl:=q2s k m
 generalize q6e k m=R at hRg hRl
 refine v8 hT y3x rfl rfl y3y rfl ?_
 refine q8 (q7 hT ?_)
 refine z8 ⟨⟨58,[(0,i64 m),(1,i64 k)]⟩,[]⟩ True (q8 (q7 hT ?_)) (fun _=>?_)
 ·refine y4 (fun h=>?_) (fun h=>?_)
  ·have h:=of_decide_eq_true (show decide ((m:Int)<1)=true from h)
   omega
  refine y4 (fun h=>?_) (fun h=>?_)
  ·have h:=of_decide_eq_true (show decide ((k:Int)<1)=true from h)
   omega
  refine y4 (fun h=>?_) (fun h=>?_)
  ·have h:=of_decide_eq_true (show decide ((m:Int) > 64)=true from h)
   omega
  refine z2 (y4 (fun h=>?_) (fun h=>?_))
  ·have h:=of_decide_eq_true (show decide ((k:Int) > 64)=true from h)
   omega
  exact z5 ⟨q9 [] [0,1] rfl,trivial⟩
 refine z8 ⟨⟨58,[(0,i64 m),(1,i64 k),(6,.msl 0 1 0 0)]⟩,[.row z0 1 (z4 [])]⟩ True (q7 hT ?_) (fun _=>?_)
 ·exact⟨Wk.trans (X5 z0 1) (Wk.trans (q2h 6 0 1 0 rfl) (q9 [0] [0,1,6] rfl)),trivial⟩
 refine y6 (fun st=>∃ X,X=R∧st=⟨⟨58,[(6,.msl 0 1 0 (z4 X).length)]⟩,[.row z0 1 (z4 X)]⟩) (q8 (q7 hT ?_)) ?_
 ·refine z3 ?_
  refine y8 (fun c st=>∃ (i:Nat) (ji:Int) (X:List z7),c+i=m∧ji=i∧X=R.take i∧st=⟨⟨58,[(0,i64 m),(1,i64 k),(6,.msl 0 1 0 (z4 X).length),(7,i64 ji)]⟩,[.row z0 1 (z4 X)]⟩) m ⟨⟨58,_⟩,_⟩ (q9 [0] [0,1,6,7] rfl) ⟨0,0,[],by omega,rfl,rfl,rfl⟩ ?_
  rintro c st ⟨i,ji,X,hci,hji,hX,rfl⟩
  refine q8 (q8 (q7 hT ?_))
  refine z2 (y4 (fun h=>?_) (fun h=>?_))
  ·have h:=of_decide_eq_true (show decide (ji<(m:Int))=true from h)
   have hi:i<m:=by omega
   refine z5 ?_
   have hnew:R.take (i+1)=X++[u0 (q3n k) k i]:=by rw[List.take_add_one,hRg i hi,hX];rfl
   have hXl:(z4 X).length=i:=by rw[Q2,hX,List.length_take];omega
   have hrg:=fun j hj=>v8m (A:=q3n k) (c:=k) (i:=i) (j:=j) hj
   have hrl:=q8i (q3n k) k i
   generalize u0 (q3n k) k i=row at hnew hrg hrl
   refine y6 (fun st=>∃ X',X'=X++[row]∧st=⟨⟨58,[(0,i64 m),(1,i64 k),(6,.msl 0 1 0 (z4 X').length),(7,i64 ji)]⟩,[.row z0 1 (z4 X')]⟩) (z3 ?_) ?_
   ·refine z8 ⟨⟨58,[(0,i64 m),(1,i64 k),(6,.msl 0 1 0 (z4 X).length),(7,i64 ji),(8,.msl 1 1 0 0)]⟩,[.row z0 1 (z4 X),.row z1 1 (bx [])]⟩ True (q7 hT ?_) (fun _=>?_)
    ·exact⟨Wk.trans (X5 z1 1) (Wk.trans (q2h 8 1 1 0 rfl) (q9 [0,1] [0,1,6,7,8] rfl)),trivial⟩
    refine y6 (fun st=>∃ Y,Y=row∧st=⟨⟨58,[(0,i64 m),(1,i64 k),(6,.msl 0 1 0 (z4 X).length),(7,i64 ji),(8,.msl 1 1 0 (bx Y).length)]⟩,[.row z0 1 (z4 X),.row z1 1 (bx Y)]⟩) (q8 (q7 hT ?_)) ?_
    ·refine z3 ?_
     refine y8 (fun c st=>∃ (j:Nat) (jj:Int) (Y:z7),c+j=k∧jj=j∧Y=row.take j∧st=⟨⟨58,[(0,i64 m),(1,i64 k),(6,.msl 0 1 0 (z4 X).length),(7,i64 ji),(8,.msl 1 1 0 (bx Y).length),(9,i64 jj)]⟩,[.row z0 1 (z4 X),.row z1 1 (bx Y)]⟩) k ⟨⟨58,_⟩,_⟩ (q9 [0,1] [0,1,6,7,8,9] rfl) ⟨0,0,[],by omega,rfl,rfl,rfl⟩ ?_
     rintro c st ⟨j,jj,Y,hcj,hjj,hY,rfl⟩
     refine q8 (q8 (q7 hT ?_))
     refine z2 (y4 (fun h=>?_) (fun h=>?_))
     ·have h:=of_decide_eq_true (show decide (jj<(k:Int))=true from h)
      have hj:j<k:=by omega
      refine z5 ?_
      have hne:UInt8.ofNat (k+i) ^^^ UInt8.ofNat j≠0:=fun e=>by
       have:=z2y (by omega) (by omega) (q5g e)
       omega
      have wA:=y9v (UInt8.ofNat (k+i)) (UInt8.ofNat j)
      have wD:=w8u 1 _ hne
      rw[Gf.one_mul]at wD
      have hrj:=hrg j hj
      have hcau:q3n k i j=Gf.inv (UInt8.ofNat (k+i) ^^^ UInt8.ofNat j):=rfl
      rw[hcau]at hrj
      have w1:IntKind.u8.wrap (IntKind.i64.wrap ((k:Int)+ji))=((UInt8.ofNat (k+i)).toNat:Int):=by rw[hji,y7 _ (by omega) (by omega),← q0p];rfl
      have w2:IntKind.u8.wrap jj=((UInt8.ofNat j).toNat:Int):=by rw[hjj,← q0p]
      have wA:AF Tryz.prog y0a [.p (.raw (.int .u8 (IntKind.u8.wrap (IntKind.i64.wrap ((k:Int)+ji))))),.p (.raw (.int .u8 (IntKind.u8.wrap jj)))] [] (v9 (.p (u8 (UInt8.ofNat (k+i) ^^^ UInt8.ofNat j))) []):=by rw[w1,w2];exact wA
      generalize UInt8.ofNat (k+i) ^^^ UInt8.ofNat j=s at wA wD hrj
      generalize Gf.inv s=v at wD hrj
      have hYl:(bx Y).length=j:=by rw[w9,hY,List.length_take];omega
      have hnewY:row.take (j+1)=Y++[v]:=by rw[List.take_add_one,hrj,hY];rfl
      refine y6 (fun st=>∃ Y',Y'=Y++[v]∧st=⟨⟨58,[(0,i64 m),(1,i64 k),(6,.msl 0 1 0 (z4 X).length),(7,i64 ji),(8,.msl 1 1 0 (bx Y').length),(9,i64 jj)]⟩,[.row z0 1 (z4 X),.row z1 1 (bx Y')]⟩) (z3 (q8 (q7 hT ?_))) ?_
      ·refine y9 (w7 wA _ rfl rfl) ?_
       refine z8 ⟨⟨58,[(0,i64 m),(1,i64 k),(6,.msl 0 1 0 (z4 X).length),(7,i64 ji),(8,.msl 1 1 0 (bx Y).length),(9,i64 jj),(11,.p (u8 v))]⟩,[.row z0 1 (z4 X),.row z1 1 (bx Y)]⟩ True (q7 hT ?_) (fun _=>?_)
       ·refine y9 (w7 wD _ rfl rfl) ?_
        exact⟨q9 [0,1] [0,1,6,7,8,9,11] rfl,trivial⟩
       refine q7 hT ?_
       refine⟨rfl,⟨by show ((bx Y).length+1)*1≤_;omega,by show (bx Y).length+1≤_;omega⟩,?_⟩
       refine⟨_,q9 [0,3] [0,1,6,7,8,9] rfl,_,rfl,?_⟩
       rw[q1n];rfl
      ·rintro _ ⟨Y',hY',rfl⟩
       refine q7 hT ?_
       exact⟨c - 1,by omega,_,q9 [0,1] [0,1,6,7,8,9] rfl,j+1,IntKind.i64.wrap (jj+1),Y',by omega,by rw[y7 _ (by omega) (by omega)];omega,by rw[hnewY];exact hY',rfl⟩
     ·have h:=of_decide_eq_false (show decide (jj<(k:Int))=false from h)
      rw[List.take_of_length_le (by omega)]at hY
      refine x9 ?_
      exact⟨_,q9 [0,1] [0,1,6,7,8] rfl,Y,hY,rfl⟩
    rintro _ ⟨Y,rfl,rfl⟩
    refine Q1 (V3 8 1 _ rfl rfl rfl rfl) ?_
    refine q7 hT ?_
    refine⟨rfl,⟨by show ((z4 X).length+1)*24≤_;omega,by show (z4 X).length+1≤_;omega⟩,?_⟩
    refine⟨_,q9 [3] [0,1,6,7] rfl,_,rfl,?_⟩
    rw[J4];rfl
   ·rintro _ ⟨X',hX',rfl⟩
    refine q7 hT ?_
    exact⟨c - 1,by omega,_,q9 [0] [0,1,6,7] rfl,i+1,IntKind.i64.wrap (ji+1),X',by omega,by rw[y7 _ (by omega) (by omega)];omega,by rw[hnew];exact hX',rfl⟩
  ·have h:=of_decide_eq_false (show decide (ji<(m:Int))=false from h)
   rw[List.take_of_length_le (by omega)]at hX
   refine x9 ?_
   exact⟨_,q9 [0] [6] rfl,X,hX,rfl⟩
 rintro _ ⟨X,hX,rfl⟩
 refine Q1 (V3 6 0 _ rfl rfl rfl rfl) ?_
 refine q8 (q7 hT ?_)
 refine y5 ?_
 exact z9 [] ⟨X,hX,rfl,rfl⟩ rfl
theorem getD_some {B:List z7}{j:Nat}{s:z7}(h:B[j]?=some s):B.getD j []=s:=by rw[List.getD_eq_getElem?_getD,h];rfl
set_option maxHeartbeats 1000000 in
set_option maxRecDepth 20000 in
theorem w4m (k m:Nat)(k1:1≤k)(m1:1≤m)(hkm:k+m≤64):AF Tryz.prog x3h [i64 k,i64 m] [] (v9 (.tup [.p (.sl 1 (z4 (W9 k m))),i64 0]) []):=by
 refine AF.mono (R:=fun r H'=>∃ z,z=z4 (W9 k m)∧r=.tup [.p (.sl 1 z),i64 0]∧H'=[]) ?_ (by rintro r H' ⟨z,rfl,rfl,rfl⟩;exact⟨rfl,rfl⟩)
 have wo:=v0g k k1 (by omega)
 have wc:=x4m m k m1 (by omega) k1 (by omega)
 have hz:z4 ((List.range k).map (u0 idA k))++z4 (q6e k m)=z4 (W9 k m):=by unfold W9;rw[J4]
 have hol:((List.range k).map (u0 idA k)).length=k:=by rw[List.length_map,List.length_range]
 have hcl:=q2s k m
 generalize z4 (W9 k m)=Z at hz
 generalize (List.range k).map (u0 idA k)=O at wo hz hol
 generalize q6e k m=C at wc hz hcl
 have hocl:=Q2 O
 have hccl:=Q2 C
 refine v8 hT x3i rfl rfl x3j rfl ?_
 refine q8 (q7 hT ?_)
 refine z8 ⟨⟨47,[(0,i64 k),(1,i64 m)]⟩,[]⟩ True (q8 (q7 hT ?_)) (fun _=>?_)
 ·refine y4 (fun h=>?_) (fun h=>?_)
  ·have h:=of_decide_eq_true (show decide ((k:Int)<1)=true from h)
   omega
  refine y4 (fun h=>?_) (fun h=>?_)
  ·have h:=of_decide_eq_true (show decide ((k:Int) > 64)=true from h)
   omega
  refine y4 (fun h=>?_) (fun h=>?_)
  ·have h:=of_decide_eq_true (show decide ((m:Int) > 64)=true from h)
   omega
  refine z2 (y4 (fun h=>?_) (fun h=>?_))
  ·have h:=of_decide_eq_true (show decide (IntKind.i64.wrap ((k:Int)+m) > 64)=true from h)
   rw[y7 _ (by omega) (by omega)]at h
   omega
  exact z5 ⟨q9 [] [0,1] rfl,trivial⟩
 refine z8 ⟨⟨47,[(0,i64 k),(1,i64 m),(6,.msl 0 1 0 k)]⟩,[.row z0 1 (z4 O)]⟩ True (q7 hT ?_) (fun _=>?_)
 ·refine y9 wo ?_
  exact⟨q9 [0] [0,1,6] rfl,trivial⟩
 refine y6 (fun st=>∃ Y,Y=Z∧st=⟨⟨47,[(6,.msl 0 1 0 Y.length)]⟩,[.row z0 1 Y]⟩) (q8 (q7 hT ?_)) ?_
 ·refine z2 (y4 (fun h=>?_) (fun h=>?_))
  ·refine q8 (q7 hT ?_)
   refine y9 (w7 wc _ rfl rfl) ?_
   refine q7 hT ?_
   refine⟨by omega,⟨by show (((z4 O).length:Nat)+(z4 C).length)*24≤_;omega,by omega⟩,?_⟩
   exact⟨_,q9 [1] [6] rfl,_,hz,rfl⟩
  ·have h:=of_decide_eq_false (show decide ((m:Int) > 0)=false from h)
   omega
 rintro _ ⟨Y,hY,rfl⟩
 refine Q1 (V3 6 0 _ rfl rfl rfl rfl) ?_
 refine q8 (q7 hT ?_)
 refine y5 ?_
 exact z9 [] ⟨Y,hY,rfl,rfl⟩ rfl
end Go.Proofs.YtinfbclgkghgaaaGreat.AL
namespace Go.Proofs.YtinfbclgkghgaaaGreat.AL
open Go Go.Proofs
set_option maxHeartbeats 2000000 in
set_option maxRecDepth 20000 in
theorem w4n (A B:List z7)(q c:Nat)(h1:1≤A.length)(h2:A.length≤64)(q1:1≤q)(q2:q≤64)(c1:1≤c)(c2:c≤4096)(hA:∀ s∈A,s.length=q)(hB:B.length=q)(hBc:∀ s∈B,s.length=c) :
 AFm Tryz.prog 1 x7i [.p (.sl 1 (z4 A)),.msl 0 1 0 q] [.row z0 1 (z4 B)] (v9 (.tup [.p (.sl 1 (z4 (A.map fun a=>x7 a B c q))),i64 0]) [.row z0 1 (z4 B)]):=by
 refine AFm.mono (R:=fun r H'=>∃ z,z=A.map (fun a=>x7 a B c q)∧r=.tup [.p (.sl 1 (z4 z)),i64 0]∧H'=[.row z0 1 (z4 B)]) ?_ (by rintro r H' ⟨z,rfl,rfl,rfl⟩;exact⟨rfl,rfl⟩)
 have hRg:∀ i a,A[i]?=some a→(A.map fun a=>x7 a B c q)[i]?=some (x7 a B c q):=fun i a h=>by rw[List.getElem?_map,h];rfl
 have hRl:(A.map fun a=>x7 a B c q).length=A.length:=List.length_map _
 generalize (A.map fun a=>x7 a B c q)=R at hRg hRl
 have wA:=z9i A q h1 h2 q1 (by omega) hA
 have wB0:=z9i B c (by omega) (by omega) c1 c2 hBc
 have hAl:=Q2 A
 have hBl:=Q2 B
 have wB:=q8x wB0 0 (H:=[.row z0 1 (z4 B)]) (args:=[.msl 0 1 0 q]) (t:=z0) (sz:=1) (xs:=z4 B) rfl ⟨.inr (.inl ⟨congrArg (AV.msl 0 1 0) (show q=(z4 B).length by omega),rfl⟩),trivial⟩ rfl (fun k hk=>by simp at hk)
 have a0:=List.getElem?_eq_getElem (show 0<A.length by omega)
 have a0l:=hA _ (List.getElem_mem (show 0<A.length by omega))
 generalize A[0]=ra0 at a0 a0l
 have ax0:(z4 A)[(0:Int).toNat]?=some [bP ra0]:=Q4 a0
 have b0:=List.getElem?_eq_getElem (show 0<B.length by omega)
 have b0l:=hBc _ (List.getElem_mem (show 0<B.length by omega))
 generalize B[0]=rb0 at b0 b0l
 have bx0:(z4 B)[0+(0:Int).toNat]?=some [bP rb0]:=Q4 b0
 have hal0:=w9 ra0
 have hbl0:=w9 rb0
 refine Q5 1 hT x7j rfl rfl x7k rfl rfl ?_
 refine q8 (q7 hT ?_)
 refine q8 (q7 hT ?_)
 refine y9 (w7 wA _ rfl rfl) ?_
 refine q8 (q7 hT ?_)
 refine y9 wB ?_
 refine z8 ⟨⟨81,[(0,.p (.sl 1 (z4 A))),(1,.msl 0 1 0 q)]⟩,[.row z0 1 (z4 B)]⟩ True (q8 (q7 hT ?_)) (fun _=>?_)
 ·refine⟨by decide,v7 ax0 ?_⟩
  refine z2 (y4 (fun h=>?_) (fun h=>?_))
  ·have h:((((bx ra0).length:Nat):Int) != (q:Int))=true:=h
   rw[bne_iff_ne]at h
   omega
  exact z5 ⟨q9 [0] [0,1] rfl,trivial⟩
 refine z8 ⟨⟨81,[(0,.p (.sl 1 (z4 A))),(1,.msl 0 1 0 q),(8,.msl 1 1 0 0)]⟩,[.row z0 1 (z4 B),.row z0 1 (z4 [])]⟩ True (q7 hT ?_) (fun _=>?_)
 ·exact⟨Wk.trans (X5 z0 1) (Wk.trans (q2h 8 1 1 0 rfl) (q9 [0,1] [0,1,8] rfl)),trivial⟩
 refine y6 (fun st=>∃ X,X=R∧st=⟨⟨81,[(8,.msl 1 1 0 (z4 X).length)]⟩,[.row z0 1 (z4 B),.row z0 1 (z4 X)]⟩) (q8 (q7 hT ?_)) ?_
 ·refine z3 ?_
  refine y8 (fun n st=>∃ (i:Nat) (ji:Int) (X:List z7),n+i=A.length∧ji=i∧X=R.take i∧st=⟨⟨81,[(0,.p (.sl 1 (z4 A))),(1,.msl 0 1 0 q),(8,.msl 1 1 0 (z4 X).length),(9,i64 ji)]⟩,[.row z0 1 (z4 B),.row z0 1 (z4 X)]⟩) A.length ⟨⟨81,_⟩,_⟩ (q9 [0,1] [0,1,8,9] rfl) ⟨0,0,[],by omega,rfl,rfl,rfl⟩ ?_
  rintro n st ⟨i,ji,X,hni,hji,hX,rfl⟩
  refine q8 (q8 (q7 hT ?_))
  refine z2 (y4 (fun h=>?_) (fun h=>?_))
  ·have h:=of_decide_eq_true (show decide (ji<(((z4 A).length:Nat):Int))=true from h)
   have hi:i<A.length:=by omega
   refine z5 ?_
   have ha:=List.getElem?_eq_getElem hi
   have hal:=hA _ (List.getElem_mem hi)
   generalize A[i]=a at ha hal
   have hap:(z4 A)[ji.toNat]?=some [bP a]:=by rw[hji,Int.toNat_natCast];exact Q4 ha
   have hnew:R.take (i+1)=X++[x7 a B c q]:=by rw[List.take_add_one,hRg i a ha,hX];rfl
   have hXl:(z4 X).length=i:=by rw[Q2,hX,List.length_take];omega
   have hrl:=Q9 a hBc (k:=q) (by omega)
   have hrg:∀ p,p<c→(x7 a B c q)[p]?=some (q0y a (fun j=>(B.getD j []).getD p 0) q):=fun p hp=>by
    rw[← z7a hBc hp q (by omega)]
    exact Q6 (by omega)
   generalize x7 a B c q=row at hnew hrg hrl
   have hbal:=w9 a
   refine y6 (fun st=>∃ X',X'=X++[row]∧st=⟨⟨81,[(0,.p (.sl 1 (z4 A))),(1,.msl 0 1 0 q),(8,.msl 1 1 0 (z4 X').length),(9,i64 ji)]⟩,[.row z0 1 (z4 B),.row z0 1 (z4 X')]⟩) (z3 ?_) ?_
   ·refine z8 ⟨⟨81,[(0,.p (.sl 1 (z4 A))),(1,.msl 0 1 0 q),(8,.msl 1 1 0 (z4 X).length),(9,i64 ji),(10,.msl 2 1 0 0)]⟩,[.row z0 1 (z4 B),.row z0 1 (z4 X),.row z1 1 (bx [])]⟩ True (q7 hT ?_) (fun _=>?_)
    ·exact⟨Wk.trans (X5 z1 1) (Wk.trans (q2h 10 2 1 0 rfl) (q9 [0,1,2] [0,1,8,9,10] rfl)),trivial⟩
    refine y6 (fun st=>∃ Y,Y=row∧st=⟨⟨81,[(0,.p (.sl 1 (z4 A))),(1,.msl 0 1 0 q),(8,.msl 1 1 0 (z4 X).length),(9,i64 ji),(10,.msl 2 1 0 (bx Y).length)]⟩,[.row z0 1 (z4 B),.row z0 1 (z4 X),.row z1 1 (bx Y)]⟩) (q8 (q7 hT ?_)) ?_
    ·refine z3 ?_
     refine y8 (fun n st=>∃ (p:Nat) (jp:Int) (Y:z7),n+p=c∧jp=p∧Y=row.take p∧st=⟨⟨81,[(0,.p (.sl 1 (z4 A))),(1,.msl 0 1 0 q),(8,.msl 1 1 0 (z4 X).length),(9,i64 ji),(10,.msl 2 1 0 (bx Y).length),(11,i64 jp)]⟩,[.row z0 1 (z4 B),.row z0 1 (z4 X),.row z1 1 (bx Y)]⟩) c ⟨⟨81,_⟩,_⟩ (q9 [0,1,2] [0,1,8,9,10,11] rfl) ⟨0,0,[],by omega,rfl,rfl,rfl⟩ ?_
     rintro n st ⟨p,jp,Y,hnp,hjp,hY,rfl⟩
     refine q8 (q8 (q7 hT ?_))
     refine⟨⟨by decide,by omega⟩,?_⟩
     refine v7 bx0 ?_
     refine z2 (y4 (fun h=>?_) (fun h=>?_))
     ·have h:=of_decide_eq_true (show decide (jp<(((bx rb0).length:Nat):Int))=true from h)
      have hp:p<c:=by omega
      refine z5 ?_
      have hrp:=hrg p hp
      have hd0:q0y a (fun j=>(B.getD j []).getD p 0) 0=0:=rfl
      have hds:∀ j,q0y a (fun j=>(B.getD j []).getD p 0) (j+1)=q0y a (fun j=>(B.getD j []).getD p 0) j ^^^ Gf.mul (a.getD j 0) ((B.getD j []).getD p 0):=fun j=>rfl
      generalize q0y a (fun j=>(B.getD j []).getD p 0)=dk at hrp hd0 hds
      have hYl:(bx Y).length=p:=by rw[w9,hY,List.length_take];omega
      have hnewY:row.take (p+1)=Y++[dk q]:=by rw[List.take_add_one,hrp,hY];rfl
      refine y6 (fun st=>∃ Y',Y'=Y++[dk q]∧st=⟨⟨81,[(0,.p (.sl 1 (z4 A))),(1,.msl 0 1 0 q),(8,.msl 1 1 0 (z4 X).length),(9,i64 ji),(10,.msl 2 1 0 (bx Y').length),(11,i64 jp)]⟩,[.row z0 1 (z4 B),.row z0 1 (z4 X),.row z1 1 (bx Y')]⟩) (z3 (q8 (q7 hT ?_))) ?_
      ·refine y6 (fun st=>∃ v,v=dk q∧st=⟨⟨81,[(0,.p (.sl 1 (z4 A))),(1,.msl 0 1 0 q),(8,.msl 1 1 0 (z4 X).length),(9,i64 ji),(10,.msl 2 1 0 (bx Y).length),(11,i64 jp),(12,.p (u8 v))]⟩,[.row z0 1 (z4 B),.row z0 1 (z4 X),.row z1 1 (bx Y)]⟩) (q8 (q7 hT ?_)) ?_
       ·refine z3 ?_
        refine y8 (fun n st=>∃ (j:Nat) (jj:Int) (v:UInt8),n+j=q∧jj=j∧v=dk j∧st=⟨⟨81,[(0,.p (.sl 1 (z4 A))),(1,.msl 0 1 0 q),(8,.msl 1 1 0 (z4 X).length),(9,i64 ji),(10,.msl 2 1 0 (bx Y).length),(11,i64 jp),(12,.p (u8 v)),(13,i64 jj)]⟩,[.row z0 1 (z4 B),.row z0 1 (z4 X),.row z1 1 (bx Y)]⟩) q ⟨⟨81,_⟩,_⟩ (q9 [0,1,2] [0,1,8,9,10,11,12,13] rfl) ⟨0,0,0,by omega,rfl,hd0.symm,rfl⟩ ?_
        rintro n st ⟨j,jj,v,hnj,hjj,hv,rfl⟩
        refine q8 (q8 (q7 hT ?_))
        refine z2 (y4 (fun h=>?_) (fun h=>?_))
        ·have h:=of_decide_eq_true (show decide (jj<(q:Int))=true from h)
         have hj:j<B.length:=by omega
         refine z5 ?_
         have hb:=List.getElem?_eq_getElem hj
         have hbl:=hBc _ (List.getElem_mem hj)
         generalize B[j]=rb at hb hbl
         have hbp:(z4 B)[0+jj.toNat]?=some [bP rb]:=by rw[Nat.zero_add,hjj,Int.toNat_natCast];exact Q4 hb
         have hbrl:=w9 rb
         have hdj:=hds j
         rw[getD_some hb]at hdj
         have haj:(bx a)[jj.toNat]?=some [u8 (a.getD j 0)]:=by rw[hjj,Int.toNat_natCast];exact u9 (Q6 (by omega))
         have hrj:(bx rb)[jp.toNat]?=some [u8 (rb.getD p 0)]:=by rw[hjp,Int.toNat_natCast];exact u9 (Q6 (by omega))
         have wM:=y9w (a.getD j 0) (rb.getD p 0)
         have wS:=y9v v (Gf.mul (a.getD j 0) (rb.getD p 0))
         have hv2:dk (j+1)=v ^^^ Gf.mul (a.getD j 0) (rb.getD p 0):=by rw[hdj,hv]
         generalize a.getD j 0=x at haj wM wS hv2
         generalize rb.getD p 0=y at hrj wM wS hv2
         generalize Gf.mul x y=xy at wM wS hv2
         refine y6 (fun st=>∃ v',v'=v ^^^ xy∧st=⟨⟨81,[(0,.p (.sl 1 (z4 A))),(1,.msl 0 1 0 q),(8,.msl 1 1 0 (z4 X).length),(9,i64 ji),(10,.msl 2 1 0 (bx Y).length),(11,i64 jp),(12,.p (u8 v')),(13,i64 jj)]⟩,[.row z0 1 (z4 B),.row z0 1 (z4 X),.row z1 1 (bx Y)]⟩) (z3 (q8 ?_)) ?_
         ·refine x6 [] [] hT z6 (by rfl) ?_
          refine⟨by omega,v7 hap ?_⟩
          refine⟨by omega,v7 haj ?_⟩
          refine⟨⟨by omega,by omega⟩,?_⟩
          refine v7 hbp ?_
          refine⟨by omega,v7 hrj ?_⟩
          refine⟨_,w7 wM _ rfl rfl,?_⟩
          refine q7 hT ?_
          refine y9 (w7 wS _ rfl rfl) ?_
          exact⟨_,q9 [0,1,2] [0,1,8,9,10,11,12,13] rfl,_,rfl,rfl⟩
         ·rintro _ ⟨v',hv',rfl⟩
          refine q7 hT ?_
          exact⟨n - 1,by omega,_,q9 [0,1,2] [0,1,8,9,10,11,12,13] rfl,j+1,IntKind.i64.wrap (jj+1),v',by omega,by rw[y7 _ (by omega) (by omega)];omega,by rw[hv2];exact hv',rfl⟩
        ·have h:=of_decide_eq_false (show decide (jj<(q:Int))=false from h)
         refine x9 ?_
         exact⟨_,q9 [0,1,2] [0,1,8,9,10,11,12] rfl,v,by rw[hv,show j=q by omega],rfl⟩
       rintro _ ⟨v,rfl,rfl⟩
       refine q7 hT ?_
       refine⟨rfl,⟨by show ((bx Y).length+1)*1≤_;omega,by show (bx Y).length+1≤_;omega⟩,?_⟩
       refine⟨_,q9 [0,1,4] [0,1,8,9,10,11] rfl,_,rfl,?_⟩
       rw[q1n];rfl
      ·rintro _ ⟨Y',hY',rfl⟩
       refine q7 hT ?_
       exact⟨n - 1,by omega,_,q9 [0,1,2] [0,1,8,9,10,11] rfl,p+1,IntKind.i64.wrap (jp+1),Y',by omega,by rw[y7 _ (by omega) (by omega)];omega,by rw[hnewY];exact hY',rfl⟩
     ·have h:=of_decide_eq_false (show decide (jp<(((bx rb0).length:Nat):Int))=false from h)
      rw[List.take_of_length_le (by omega)]at hY
      refine x9 ?_
      exact⟨_,q9 [0,1,2] [0,1,8,9,10] rfl,Y,hY,rfl⟩
    rintro _ ⟨Y,rfl,rfl⟩
    refine Q1 (V3 10 2 _ rfl rfl rfl rfl) ?_
    refine q7 hT ?_
    refine⟨rfl,⟨by show ((z4 X).length+1)*24≤_;omega,by show (z4 X).length+1≤_;omega⟩,?_⟩
    refine⟨_,q9 [0,4] [0,1,8,9] rfl,_,rfl,?_⟩
    rw[J4];rfl
   ·rintro _ ⟨X',hX',rfl⟩
    refine q7 hT ?_
    exact⟨n - 1,by omega,_,q9 [0,1] [0,1,8,9] rfl,i+1,IntKind.i64.wrap (ji+1),X',by omega,by rw[y7 _ (by omega) (by omega)];omega,by rw[hnew];exact hX',rfl⟩
  ·have h:=of_decide_eq_false (show decide (ji<(((z4 A).length:Nat):Int))=false from h)
   rw[List.take_of_length_le (by omega)]at hX
   refine x9 ?_
   exact⟨_,q9 [0,1] [8] rfl,X,hX,rfl⟩
 rintro _ ⟨X,hX,rfl⟩
 refine Q1 (V3 8 1 _ rfl rfl rfl rfl) ?_
 refine q8 (q7 hT ?_)
 refine y5 ?_
 exact z9 [0] ⟨X,hX,rfl,rfl⟩ rfl
set_option maxRecDepth 20000 in
theorem y8g (data:List z7)(m c:Nat)(k1:1≤data.length)(m1:1≤m)(hkm:data.length+m≤64)(c1:1≤c)(c2:c≤4096)(hc:∀ s∈data,s.length=c) :
 AFm Tryz.prog 1 z0u [.msl 0 1 0 data.length,i64 m] [.row z0 1 (z4 data)] (v9 (.tup [.p (.sl 1 (z4 (q4b data m c))),i64 0]) [.row z0 1 (z4 data)]):=by
 obtain⟨k,hk⟩:∃ k,k=data.length:=⟨_,rfl⟩
 have wr:=w4m k m (by omega) m1 (by omega)
 have wm0:=z9i data c k1 (by omega) c1 c2 hc
 have hdl:=Q2 data
 have wm:=q8x wm0 0 (H:=[.row z0 1 (z4 data)]) (args:=[.msl 0 1 0 k]) (t:=z0) (sz:=1) (xs:=z4 data) rfl ⟨.inr (.inl ⟨congrArg (AV.msl 0 1 0) (show k=(z4 data).length by omega),rfl⟩),trivial⟩ rfl (fun k hk=>by simp at hk)
 rw[← hk]
 have wx:=w4n (q6e k m) data k c (by rw[q2s];exact m1) (by rw[q2s];omega) (by omega) (by omega) c1 c2 y5t hk.symm hc
 have hE:q4b data m c=(q6e k m).map fun a=>x7 a data c k:=by unfold q4b;rw[← hk]
 rw[← hE]at wx
 have hrl:=z2x k m
 have hrc:=Q2 (W9 k m)
 have hsl:((z4 (W9 k m)).take (((z4 (W9 k m)).length:Nat):Int).toNat).drop ((k:Nat):Int).toNat=z4 (q6e k m):=by
  simp only[Int.toNat_natCast]
  rw[List.take_length,x0g]
  unfold W9
  rw[List.drop_left' (by rw[List.length_map,List.length_range])]
 rw[← hsl]at wx
 generalize q4b data m c=E at wx ⊢
 generalize z4 (W9 k m)=R at wr wx hrc
 refine Q5 1 hT y3h rfl rfl y3i rfl rfl ?_
 refine q8 (q7 hT ?_)
 refine q8 (q7 hT ?_)
 refine y9 wm ?_
 refine z8 ⟨⟨34,[(0,.msl 0 1 0 k),(1,i64 m),(6,bl true),(7,.p (.sl 1 R)),(8,i64 0)]⟩,[.row z0 1 (z4 data)]⟩ True (q7 hT ?_) (fun _=>?_)
 ·refine y9 (w7 wr _ rfl rfl) ?_
  exact⟨q9 [0] [0,1,6,7,8] rfl,trivial⟩
 refine q8 (q8 (q7 hT ?_))
 refine z2 ?_
 refine z5 ?_
 refine q8 (q8 (q7 hT ?_))
 refine z2 (y4 (fun h=>?_) (fun h=>?_))
 ·have h:((m:Int)==0)=true:=h
  rw[beq_iff_eq]at h
  omega
 refine z5 ?_
 refine q8 (q7 hT ?_)
 refine⟨⟨by omega,by omega,Int.le_refl _⟩,?_⟩
 refine y9 (u6 [0] wx rfl rfl rfl) ?_
 refine y5 ?_
 exact z9 [0] ⟨rfl,rfl⟩ rfl
end Go.Proofs.YtinfbclgkghgaaaGreat.AL
namespace Go.Proofs.YtinfbclgkghgaaaGreat.AL
open Go Go.Proofs
theorem J5 {g:GeoV}(h:g.may=true):g.fits=true:=by unfold GeoV.may at h;rw[Bool.and_eq_true]at h;exact h.1
def GeoV.groups (g:GeoV):Int:=match g.may with|true=>1+g.w+2*g.s|false=>0
theorem w0q (g:GeoV)(h:g.fits=true):AF Tryz.prog z0v [g.av] [] (v9 (i64 (1+g.w+2*g.s)) []):=by
 obtain⟨h1,h2,h3,h4,h5,h6,h7,h8⟩:=U2 h
 refine v8 hT y3t rfl rfl y3u rfl ?_
 refine q8 (q7 hT ?_)
 refine Q1 (Q3 0 g.pv rfl rfl) ?_
 refine q8 (q7 hT ?_)
 refine y5 ?_
 rw[show i64 (1+g.w+2*g.s)=i64 (IntKind.i64.wrap (IntKind.i64.wrap (1+g.w)+IntKind.i64.wrap (2*g.s))) by
  rw[y7 (1+g.w) (by omega) (by omega),y7 (2*g.s) (by omega) (by omega),y7 _ (by omega) (by omega)]]
 exact z9 [] ⟨rfl,rfl⟩ rfl
theorem w4p (g:GeoV):AF Tryz.prog x3c [g.av] [] (v9 (i64 g.groups) []):=by
 have wo:AF Tryz.prog x6z [g.av,.clo (.func z0v) []] [] (v9 (i64 g.groups) []):=by
  refine v8 hT x7a rfl rfl x7b rfl ?_
  refine q8 (q7 hT ?_)
  refine Q1 (Q3 0 g.pv rfl rfl) ?_
  unfold GeoV.groups
  refine q8 (q8 (q7 hT ?_))
  refine y9 (w7 (x4b g) _ rfl rfl) ?_
  refine z2 (y4 (fun h=>?_) (fun h=>?_))
  ·have h:(!g.may)=true:=h
   rw[Bool.not_eq_true']at h
   rw[h]
   refine q8 (q7 hT ?_)
   refine y5 ?_
   exact z9 [] ⟨rfl,rfl⟩ rfl
  ·have h:(!g.may)=false:=h
   rw[Bool.not_eq_false']at h
   rw[h]
   have hf:=J5 h
   refine z5 ?_
   refine q8 (q7 hT ?_)
   refine y9 (w7 (w0q g hf) _ rfl rfl) ?_
   refine y5 ?_
   exact z9 [] ⟨rfl,rfl⟩ rfl
 refine v8 hT x3d rfl rfl x3e rfl ?_
 refine q8 (q7 hT ?_)
 refine Q1 (Q3 0 g.pv rfl rfl) ?_
 refine q8 (q7 hT ?_)
 refine y9 (w7 wo _ rfl rfl) ?_
 refine y5 ?_
 exact z9 [] ⟨rfl,rfl⟩ rfl
def z1p (first:Int)(n k:Nat):List (List PV):=(List.range n).map fun j=>([.raw (.int .i64 (if j<k then first+j else 0))]:List PV)
theorem z7b (first:Int)(n k:Nat):(z1p first n k).length=n:=by unfold z1p;rw[List.length_map,List.length_range]
theorem q8p {first:Int}{n k j:Nat}(h:j<n):(z1p first n k)[j]?=some [.raw (.int .i64 (if j<k then first+j else 0))]:=by
 unfold z1p;rw[List.getElem?_map,List.getElem?_range h];rfl
theorem v5x {first:Int}{n k:Nat}(h:k<n):(z1p first n k).set k [.raw (.int .i64 (first+k))]=z1p first n (k+1):=by
 refine List.ext_getElem? fun j=>?_
 rw[List.getElem?_set]
 by_cases hj:j<n
 ·rw[z7b]
  by_cases e:k=j
  ·subst e
   rw[if_pos rfl,if_pos h,q8p h,if_pos (by omega)]
  ·rw[if_neg e,q8p hj,q8p hj]
   by_cases h2:j<k
   ·rw[if_pos h2,if_pos (by omega)]
   ·rw[if_neg h2,if_neg (by omega)]
 ·rw[if_neg (by omega),List.getElem?_eq_none (by rw[z7b];omega),List.getElem?_eq_none (by rw[z7b];omega)]
theorem v0h (first:Int)(n:Nat):z1p first n 0=List.replicate n [.raw (.int .i64 0)]:=by
 refine List.ext_getElem? fun j=>?_
 rw[List.getElem?_replicate]
 by_cases hj:j<n
 ·rw[q8p hj,if_neg (by omega),if_pos hj]
 ·rw[List.getElem?_eq_none (by rw[z7b];omega),if_neg hj]
theorem y8h (first:Int)(j:Nat)(h0:0≤first)(h1:first≤100000)(hj:j≤1000):AF Tryz.prog q1k [i64 j,.p (.box [.raw (.int .i64 first)])] [] (v9 (i64 (first+j)) []):=by
 refine v8 hT y0r rfl rfl y0s rfl ?_
 refine q8 (q7 hT ?_)
 refine q8 (q7 hT ?_)
 refine y5 ?_
 rw[show i64 (first+j)=i64 (IntKind.i64.wrap (first+j)) by rw[y7 _ (by omega) (by omega)]]
 exact z9 [] ⟨rfl,rfl⟩ rfl
set_option maxHeartbeats 1000000 in
set_option maxRecDepth 20000 in
theorem v8n (first:Int)(n:Nat)(h0:0≤first)(h1:first≤100000)(n1:1≤n)(n2:n≤1000) :
 AF Tryz.prog w7x [i64 n,.clo (.func q1k) [.p (.box [.raw (.int .i64 first)])]] [] (v9 (.msl 0 1 0 n) [.row q4e 1 (z1p first n n)]):=by
 have hz:=v0h first n
 have w:=fun j hj=>y8h first j h0 h1 hj
 refine v8 hT w7y rfl rfl w7z rfl ?_
 refine q8 (q7 hT ?_)
 refine y6 (fun st=>∃ X,X=z1p first n 0∧st=⟨⟨22,[(1,.clo (.func q1k) [.p (.box [.raw (.int .i64 first)])]),(5,.msl 0 1 0 n)]⟩,[.row q4e 1 X]⟩) (q7 hT ?_) ?_
 ·refine⟨⟨rfl,by omega,⟨by show (n:Int)*8≤_;omega,by omega⟩⟩,?_⟩
  exact⟨_,q9 [0] [1,5] rfl,_,hz.symm,rfl⟩
 rintro _ ⟨X,hX,rfl⟩
 refine y6 (fun st=>∃ X,X=z1p first n n∧st=⟨⟨22,[(5,.msl 0 1 0 n)]⟩,[.row q4e 1 X]⟩) (q8 (q7 hT ?_)) ?_
 ·refine z3 ?_
  refine y8 (fun m s=>∃ (k:Nat) (j:Int) (X:_),m+k=n∧j=k∧X=z1p first n k∧s=⟨⟨22,[(1,.clo (.func q1k) [.p (.box [.raw (.int .i64 first)])]),(5,.msl 0 1 0 n),(10,i64 n),(11,i64 j)]⟩,[.row q4e 1 X]⟩) n ⟨⟨22,_⟩,_⟩ (q9 [0] [1,5,10,11] rfl) ⟨0,0,X,by omega,rfl,hX,rfl⟩ ?_
  clear hz
  rintro m s ⟨k,j,X,hmk,hj,hX,rfl⟩
  refine q8 (q7 hT ?_)
  refine q8 (z2 (y4 (fun h=>?_) (fun h=>?_)))
  ·have h:=of_decide_eq_true (show decide (j<(n:Int))=true from h)
   have hk:k<n:=by omega
   refine z5 ?_
   have w:=w k (by omega)
   rw[← hj]at w
   have hgx:X[0+j.toNat]?=some [.raw (.int .i64 0)]:=by
    rw[show 0+j.toNat=k by omega,hX,q8p hk,if_neg (by omega)]
   have hset:X.set (0+j.toNat) [.raw (.int .i64 (first+j))]=z1p first n (k+1):=by
    rw[show 0+j.toNat=k by omega,hX,hj];exact v5x hk
   generalize first+j=v at w hset
   refine y6 (fun st=>∃ X,X=z1p first n (k+1)∧st=⟨⟨22,[(1,.clo (.func q1k) [.p (.box [.raw (.int .i64 first)])]),(5,.msl 0 1 0 n),(10,i64 n),(11,i64 j)]⟩,[.row q4e 1 X]⟩) (z3 ?_) ?_
   ·refine q8 (q7 hT ?_)
    refine q7 hT ?_
    refine y9 (w7 w _ rfl rfl) ?_
    refine⟨⟨by omega,by omega⟩,?_⟩
    refine v7 hgx ?_
    exact⟨_,q9 [0] [1,5,10,11] rfl,_,hset,rfl⟩
   ·rintro _ ⟨X,rfl,rfl⟩
    refine q7 hT ?_
    exact⟨m - 1,by omega,_,q9 [0] [1,5,10,11] rfl,k+1,IntKind.i64.wrap (j+1),_,by omega,by rw[y7 _ (by omega) (by omega)];omega,rfl,rfl⟩
  ·have h:=of_decide_eq_false (show decide (j<(n:Int))=false from h)
   rw[show k=n by omega]at hX
   refine x9 ?_
   exact⟨_,q9 [0] [5] rfl,_,hX,rfl⟩
 rintro _ ⟨X,rfl,rfl⟩
 refine q8 (q7 hT ?_)
 refine y5 ?_
 exact z9 [0] ⟨rfl,rfl⟩ rfl
def GeoV.at_ (g:GeoV)(area stripe:Int):Int:=4+2*g.w+(area*g.s+stripe)*(g.k+g.m)
set_option maxHeartbeats 1000000 in
set_option maxRecDepth 20000 in
theorem w0r (g:GeoV)(t:Int)(hg:g.may=true)(t0:0≤t)(t1:t<2*g.s)(n:Nat)(hn:g.k+g.m=n)(first:Int)(hf:4+2*g.w+t*(g.k+g.m)=first) :
 AF Tryz.prog y7d [g.av,i64 (1+g.w+t)] [] (v9 (.msl 0 1 0 n) [.row q4e 1 (z1p first n n)]):=by
 obtain⟨h1,h2,h3,h4,h5,h6,h7,h8⟩:=U2 (J5 hg)
 have hm:=Int.mul_le_mul (show t≤64 by omega) (show g.k+g.m≤24 by omega) (by omega) (by omega)
 have hm0:0≤t*(g.k+g.m):=Int.mul_nonneg t0 (by omega)
 obtain⟨i,hi⟩:∃ i,i=1+g.w+t:=⟨_,rfl⟩
 rw[← hi]
 have wg:=w4p g
 rw[show g.groups=1+g.w+2*g.s by unfold GeoV.groups;rw[hg]]at wg
 have wr:=v8n first n (by omega) (by omega) (by omega) (by omega)
 have wl:AF Tryz.prog z5v [g.av] [] (v9 (i64 (4+2*g.w)) []):=by
  refine v8 hT z5w rfl rfl z5x rfl ?_
  refine q8 (q7 hT ?_)
  refine Q1 (Q3 0 g.pv rfl rfl) ?_
  refine q8 (q7 hT ?_)
  refine y5 ?_
  rw[show i64 (4+2*g.w)=i64 (IntKind.i64.wrap (4+IntKind.i64.wrap (2*g.w))) by rw[y7 (2*g.w) (by omega) (by omega),y7 _ (by omega) (by omega)]]
  exact z9 [] ⟨rfl,rfl⟩ rfl
 have ww:AF Tryz.prog y3j [g.av] [] (v9 (i64 n) []):=by
  refine v8 hT y3k rfl rfl y3m rfl ?_
  refine q8 (q7 hT ?_)
  refine Q1 (Q3 0 g.pv rfl rfl) ?_
  refine q8 (q7 hT ?_)
  refine y5 ?_
  rw[show i64 n=i64 (IntKind.i64.wrap (g.k+g.m)) by rw[y7 _ (by omega) (by omega),hn]]
  exact z9 [] ⟨rfl,rfl⟩ rfl
 refine v8 hT y7e rfl rfl y7f rfl ?_
 refine q8 (q7 hT ?_)
 refine z8 ⟨⟨41,[(2,.p (.box g.pv)),(3,.p (.box [.raw (.int .i64 i)]))]⟩,[]⟩ True (z3 ?_) (fun _=>?_)
 ·refine Q1 (Q3 0 g.pv rfl rfl) ?_
  refine Q1 (Q3 1 [.raw (.int .i64 i)] rfl rfl) ?_
  refine q8 ?_
  refine x6 [] [] hT z6 (by rfl) ?_
  refine y4 (fun h=>?_) (fun h=>?_)
  ·have h:=of_decide_eq_true (show decide (i<0)=true from h)
   omega
  refine⟨_,w7 wg _ rfl rfl,?_⟩
  refine z2 (y4 (fun h=>?_) (fun h=>?_))
  ·have h:=of_decide_eq_true (show decide (i≥1+g.w+2*g.s)=true from h)
   omega
  refine q8 (q7 hT ?_)
  refine z2 (y4 (fun h=>?_) (fun h=>?_))
  ·have h:(i==0)=true:=h
   rw[beq_iff_eq]at h
   omega
  refine q8 (q7 hT ?_)
  refine z2 (y4 (fun h=>?_) (fun h=>?_))
  ·have h:=of_decide_eq_true (show decide (i≤g.w)=true from h)
   omega
  exact z5 ⟨q9 [] [2,3] rfl,trivial⟩
 refine y6 (fun st=>∃ x,x=first∧st=⟨⟨41,[(2,.p (.box g.pv)),(5,.p (.box [.raw (.int .i64 x)]))]⟩,[]⟩) ?_ ?_
 ·refine x6 [11,12] [] hT z6 (by rfl) ?_
  refine⟨_,w7 wl _ rfl rfl,?_⟩
  refine⟨_,w7 ww _ rfl rfl,?_⟩
  repeat first|refine⟨rfl,?_⟩|refine⟨⟨_,w7 wl _ rfl rfl,rfl⟩,?_⟩|refine⟨⟨_,w7 ww _ rfl rfl,rfl⟩,?_⟩
  refine⟨_,Wk.trans (Q3 0 [.raw (.int .i64 _)] rfl rfl) (q9 [] [2,5] rfl),_,?_,rfl⟩
  rw[y7 (i - 1) (by omega) (by omega),y7 (i - 1 - g.w) (by omega) (by omega),show i - 1 - g.w=t by omega,← hn,y7 (t*(g.k+g.m)) (by omega) (by omega),y7 _ (by omega) (by omega)]
  exact hf
 rintro _ ⟨x,rfl,rfl⟩
 refine q8 (q7 hT ?_)
 refine y9 (w7 ww _ rfl rfl) ?_
 refine y9 (q1z wr _ rfl) ?_
 refine y5 ?_
 exact z9 [0] ⟨rfl,rfl⟩ rfl
def W5 (g:GeoV)(area stripe:Int):Int × Int:=match g.may&&inR area 0 1&&(inR stripe 0 31&&decide (stripe<g.s)) with
 |true=>(g.at_ area stripe,0)
 |false=>(0,1)
def W6 (g:GeoV)(area stripe:Int):Prop:=g.may=true∧0≤area∧area≤1∧0≤stripe∧stripe<g.s
theorem q1m {g:GeoV}{area stripe:Int}(h:W6 g area stripe):W5 g area stripe=(g.at_ area stripe,0):=by
 obtain⟨h1,h2,h3,h4,h5⟩:=h
 obtain⟨_,_,_,h6,_⟩:=U2 (J5 h1)
 unfold W5 inR
 rw[h1,decide_eq_true (show area≥0 from h2),decide_eq_true (show area≤1 from h3),decide_eq_true (show stripe≥0 from h4),decide_eq_true (show stripe≤31 by omega),decide_eq_true h5];rfl
theorem q5h {g:GeoV}{area stripe:Int}(h:¬ W6 g area stripe):W5 g area stripe=(0,1):=by
 unfold W5
 cases e:g.may&&inR area 0 1&&(inR stripe 0 31&&decide (stripe<g.s)) with
 |false=>rfl
 |true=>
  unfold inR at e
  simp only[Bool.and_eq_true,decide_eq_true_eq]at e
  exact absurd ⟨e.1.1,e.1.2.1,e.1.2.2,e.2.1.1,e.2.2⟩ h
set_option maxHeartbeats 1000000 in
set_option maxRecDepth 20000 in
theorem q4s (g:GeoV)(area stripe:Int):AF Tryz.prog x2i [g.av,i64 area,i64 stripe] [] (v9 (.tup [i64 (W5 g area stripe).1,i64 (W5 g area stripe).2]) []):=by
 refine AF.mono (R:=fun r H'=>∃ z,z=W5 g area stripe∧r=.tup [i64 z.1,i64 z.2]∧H'=[]) ?_ (by rintro r H' ⟨z,rfl,rfl,rfl⟩;exact⟨rfl,rfl⟩)
 have wm:=x4b g
 refine v8 hT x2j rfl rfl x2k rfl ?_
 refine q8 (q7 hT ?_)
 refine z8 ⟨⟨43,[(1,i64 area),(2,i64 stripe),(3,.p (.box g.pv))]⟩,[]⟩ (W6 g area stripe) ?_ (fun hok=>?_)
 ·refine Q1 (Q3 0 g.pv rfl rfl) ?_
  refine y6 (fun st=>∃ b,(b=true→¬ W6 g area stripe)∧(b=false→W6 g area stripe)∧st=⟨⟨43,[(1,i64 area),(2,i64 stripe),(3,.p (.box g.pv)),(28,bl b)]⟩,[]⟩) (q7 hT ?_) ?_
  ·refine y9 (w7 wm _ rfl rfl) ?_
   unfold W6
   refine y4 (fun h=>?_) (fun h=>?_)
   ·have h:(!g.may)=true:=h
    rw[Bool.not_eq_true']at h
    exact⟨_,q9 [] [1,2,3,28] rfl,true,fun _ e=>(by rw[h]at e;exact absurd e.1 (by decide)),fun e=>(by cases e),rfl⟩
   have h0:g.may=true:=by
    have h:(!g.may)=false:=h
    rwa [Bool.not_eq_false']at h
   refine y4 (fun h=>?_) (fun h=>?_)
   ·have h1:=of_decide_eq_true (show decide (area<0)=true from h)
    exact⟨_,q9 [] [1,2,3,28] rfl,true,fun _ e=>by omega,fun e=>(by cases e),rfl⟩
   have h1:=of_decide_eq_false (show decide (area<0)=false from h)
   refine y4 (fun h=>?_) (fun h=>?_)
   ·have h2:=of_decide_eq_true (show decide (area≥2)=true from h)
    exact⟨_,q9 [] [1,2,3,28] rfl,true,fun _ e=>by omega,fun e=>(by cases e),rfl⟩
   have h2:=of_decide_eq_false (show decide (area≥2)=false from h)
   refine y4 (fun h=>?_) (fun h=>?_)
   ·have h3:=of_decide_eq_true (show decide (stripe<0)=true from h)
    exact⟨_,q9 [] [1,2,3,28] rfl,true,fun _ e=>by omega,fun e=>(by cases e),rfl⟩
   have h3:=of_decide_eq_false (show decide (stripe<0)=false from h)
   refine⟨_,q9 [] [1,2,3,28] rfl,decide (stripe≥g.s),fun e=>?_,fun e=>?_,rfl⟩
   ·have:=of_decide_eq_true e
    omega
   ·have:=of_decide_eq_false e
    exact⟨h0,by omega,by omega,by omega,by omega⟩
  ·rintro _ ⟨b,hb1,hb2,rfl⟩
   refine z2 (y4 (fun h=>?_) (fun h=>?_))
   ·refine q8 (q7 hT ?_)
    refine y5 ?_
    exact z9 [] ⟨(0,1),(q5h (hb1 h)).symm,rfl,rfl⟩ rfl
   ·exact z5 ⟨q9 [] [1,2,3] rfl,hb2 h⟩
 have hz:=q1m hok
 obtain⟨hm,a0,a1,s0,s1⟩:=hok
 obtain⟨h1,h2,h3,h4,h5,h6,h7,h8⟩:=U2 (J5 hm)
 obtain⟨n,hn⟩:∃ n:Nat,g.k+g.m=n:=⟨(g.k+g.m).toNat,by omega⟩
 have e1:0≤area*g.s∧area*g.s≤g.s:=by
  rcases (show area=0∨area=1 by omega) with rfl|rfl <;> omega
 obtain⟨t,ht⟩:∃ t,t=area*g.s+stripe:=⟨_,rfl⟩
 have wM:=w0r g t hm (by omega) (by omega) n hn _ rfl
 have hfst:g.at_ area stripe=4+2*g.w+t*(g.k+g.m):=by unfold GeoV.at_;rw[ht]
 rw[hfst]at hz
 generalize 4+2*g.w+t*(g.k+g.m)=first at *
 have hg0:(z1p first n n)[((0:Nat):Int).toNat]?=some [.raw (.int .i64 first)]:=by
  show (z1p first n n)[0]?=_
  rw[q8p (by omega),if_pos (by omega)]
  simp
 generalize z1p first n n=R at *
 have hwr:IntKind.i64.wrap (IntKind.i64.wrap (IntKind.i64.wrap (1+g.w)+IntKind.i64.wrap (area*g.s))+stripe)=1+g.w+t:=by
  rw[y7 (1+g.w) (by omega) (by omega),y7 (area*g.s) (by omega) (by omega),y7 (1+g.w+area*g.s) (by omega) (by omega),y7 _ (by omega) (by omega)]
  omega
 rw[← hwr]at wM
 refine q8 (q7 hT ?_)
 refine y9 (q1z wM _ rfl) ?_
 refine⟨⟨by omega,by omega⟩,?_⟩
 refine v7 hg0 ?_
 refine y5 ?_
 exact z9 [] ⟨(first,0),hz.symm,rfl,rfl⟩ rfl
def U5 (l:List Int):Bool:=l.all fun n=>decide (0≤n)&&decide (n≤4294967295)
def y6e (l:List Int):List (List PV):=l.map fun n=>([.raw (.int .i64 n)]:List PV)
theorem v5y (l:List Int):(y6e l).length=l.length:=List.length_map _
theorem v5z {l:List Int}{i:Nat}{n:Int}(h:l[i]?=some n):(y6e l)[i]?=some [.raw (.int .i64 n)]:=by rw[y6e,List.getElem?_map,h];rfl
set_option maxHeartbeats 1000000 in
set_option maxRecDepth 20000 in
theorem z9j (l:List Int)(hl:l.length≤64):AF Tryz.prog x6m [.p (.sl 1 (y6e l))] [] (v9 (bl (U5 l)) []):=by
 refine AF.mono (R:=fun r H'=>∃ z,z=U5 l∧r=bl z∧H'=[]) ?_ (by rintro r H' ⟨z,rfl,rfl,rfl⟩;exact⟨rfl,rfl⟩)
 have hxl:=v5y l
 unfold U5
 refine v8 hT x6n rfl rfl x6p rfl ?_
 refine q8 (q7 hT ?_)
 refine z8 ⟨⟨18,[]⟩,[]⟩ (U5 l=true) (q8 (q7 hT ?_)) (fun hw=>?_)
 ·refine z3 ?_
  refine y8 (fun n s=>∃ (k:Nat) (j:Int),n+k=l.length∧j=k∧(∀ i n,i<k→l[i]?=some n→0≤n∧n≤4294967295)∧s=⟨⟨18,[(5,.p (.sl 1 (y6e l))),(6,i64 (y6e l).length),(7,i64 j)]⟩,[]⟩) l.length ⟨⟨18,_⟩,_⟩ (q9 [] [5,6,7] rfl) ⟨0,0,rfl,rfl,fun i n h=>by omega,rfl⟩ ?_
  rintro n s ⟨k,j,hnk,hj,hall,rfl⟩
  refine q8 (q7 hT ?_)
  refine q8 (z2 (y4 (fun h=>?_) (fun h=>?_)))
  ·have h:=of_decide_eq_true (show decide (j<(((y6e l).length:Nat):Int))=true from h)
   have hk:k<l.length:=by omega
   refine z5 ?_
   have hx:=List.getElem?_eq_getElem hk
   have hmem:=List.getElem_mem hk
   generalize l[k]=x at hx hmem
   have hxp:(y6e l)[j.toNat]?=some [.raw (.int .i64 x)]:=by rw[hj,Int.toNat_natCast];exact v5z hx
   refine z8 ⟨⟨18,[(5,.p (.sl 1 (y6e l))),(6,i64 (y6e l).length),(7,i64 j)]⟩,[]⟩ (0≤x∧x≤4294967295) (z3 (q8 (q7 hT ?_))) (fun hxr=>?_)
   ·refine⟨by omega,v7 hxp ?_⟩
    have hno:¬ (0≤x∧x≤4294967295)→∃ z,z=(l.all fun n=>decide (0≤n)&&decide (n≤4294967295))∧bl false=bl z∧([]:List ABlk)=[]:=fun hn=>by
     refine⟨false,?_,rfl,rfl⟩
     refine(List.all_eq_false.mpr ⟨x,hmem,?_⟩).symm
     simp only[Bool.and_eq_true,decide_eq_true_eq]
     exact hn
    refine q8 (q7 hT ?_)
    refine y4 (fun h=>?_) (fun h=>?_)
    ·have h1:=of_decide_eq_true (show decide (x<0)=true from h)
     refine z2 ?_
     refine q8 (q7 hT ?_)
     refine y5 ?_
     exact z9 [] (hno (by omega)) rfl
    have h1:=of_decide_eq_false (show decide (x<0)=false from h)
    refine z2 (y4 (fun h=>?_) (fun h=>?_))
    ·have h2:=of_decide_eq_true (show decide (x > 4294967295)=true from h)
     refine q8 (q7 hT ?_)
     refine y5 ?_
     exact z9 [] (hno (by omega)) rfl
    ·have h2:=of_decide_eq_false (show decide (x > 4294967295)=false from h)
     exact z5 ⟨q9 [] [5,6,7] rfl,by omega,by omega⟩
   ·refine q7 hT ?_
    refine⟨n - 1,by omega,_,q9 [] [5,6,7] rfl,k+1,IntKind.i64.wrap (j+1),by omega,by rw[y7 _ (by omega) (by omega)];omega,fun i n hi hn=>?_,rfl⟩
    by_cases e:i=k
    ·subst e
     rw[hx]at hn
     obtain rfl:=Option.some.inj hn
     exact hxr
    ·exact hall i n (by omega) hn
  ·have h:=of_decide_eq_false (show decide (j<(((y6e l).length:Nat):Int))=false from h)
   refine x9 ?_
   refine⟨q9 [] [] rfl,List.all_eq_true.mpr fun x hx=>?_⟩
   obtain⟨i,hi,rfl⟩:=List.getElem_of_mem hx
   have:=hall i _ (by omega) (List.getElem?_eq_getElem hi)
   rw[decide_eq_true this.1,decide_eq_true this.2];rfl
 refine q8 (q7 hT ?_)
 refine y5 ?_
 exact z9 [] ⟨true,hw.symm,rfl,rfl⟩ rfl
end Go.Proofs.YtinfbclgkghgaaaGreat.AL
namespace Go.Proofs.YtinfbclgkghgaaaGreat.AL
open Go Go.Proofs
def Dev.tryK:Nat→Dev→Int→z7→Int × Dev
 |0,D,_,_=>(22,D)
 |n+1,D,a,s=>match (D.once a s).1.2 != 0 with
  |true=>((D.once a s).1.2,(D.once a s).2)
  |false=>match (D.once a s).1.1 with
   |true=>(0,(D.once a s).2)
   |false=>Dev.tryK n (D.once a s).2 a s
def Dev.one (D:Dev)(a:Int)(s:z7):Int × Dev:=Dev.tryK 4 D a s
def v0i (e m:Int):Int:=match e==0 with|true=>IntKind.i64.wrap (m+1)|false=>m
theorem y2e {D:Dev}{b:Nat}(h:D.Ok b)(a:Int)(s:z7):(D.once a s).2.Ok (b+1):=by
 unfold Dev.once
 split
 ·exact h.write a s
 split
 ·exact(h.write a s).flush
 ·unfold Dev.hhas
  split
  ·exact(h.write a s).flush.read a
  ·exact(h.write a s).flush.read a
theorem w6t:∀ (n:Nat) {D:Dev} {b:Nat},D.Ok b→∀ (a:Int) (s:z7),(Dev.tryK n D a s).2.Ok (b+n)
 |0,D,b,h,a,s=>h
 |n+1,D,b,h,a,s=>by
  unfold Dev.tryK
  split
  ·exact(y2e h a s).mono (by omega)
  split
  ·exact(y2e h a s).mono (by omega)
  ·rw[show b+(n+1)=b+1+n by omega]
   exact w6t n (y2e h a s) a s
theorem v8p {D:Dev}{b:Nat}(h:D.Ok b)(a:Int)(s:z7):(D.one a s).2.Ok (b+4):=w6t 4 h a s
theorem v6a {D:Dev}{a:Int}{s:z7}(h:(D.once a s).1.1=true):(D.once a s).1.2=0:=by
 unfold Dev.once at h ⊢
 split at h
 ·simp at h
 split at h
 ·simp at h
 ·unfold Dev.hhas at h ⊢
  split at h
  ·simp at h
  ·have h:((((D.write a s).2.flush.2.read a).1.2==0)&&_)=true:=h
   rw[Bool.and_eq_true]at h
   have:=h.1
   simpa using this
theorem v6b (D:Dev)(m a:Int)(s:z7)(b:Nat)(hD:D.Ok b)(hb:b+4<1000000):AFm Tryz.prog 2 q9w [.ref 0 0,w6i a s] (hH D m) (v9 (i64 (D.one a s).1) (hH (D.one a s).2 (v0i (D.one a s).1 m))):=by
 refine Q5 2 hT y1e rfl rfl y1f rfl rfl ?_
 refine q8 (q7 hT ?_)
 refine Q1 (Q3 4 [.raw (.int .i64 a),bP s] rfl rfl) ?_
 refine y6 (fun s1=>∃ E,D.one a s=(22,E)∧s1=⟨⟨29,[]⟩,hH E m⟩) (q8 (q7 hT ?_)) ?_
 ·refine z3 ?_
  refine y8 (fun n s1=>∃ (i:Nat) (j:Int) (E:Dev),n+i=4∧j=i∧E.Ok (b+i)∧D.one a s=Dev.tryK n E a s∧s1=⟨⟨29,[(0,.ref 0 0),(3,.p (.box [.raw (.int .i64 a),bP s])),(7,i64 j)]⟩,hH E m⟩) 4 ⟨⟨29,_⟩,[_,_,_,_]⟩ (q9 [0,1,2,3] [0,3,7] rfl) ⟨0,0,D,rfl,rfl,hD,rfl,rfl⟩ ?_
  rintro n s1 ⟨i,j,E,hni,rfl,hE,hone,rfl⟩
  refine q8 (q7 hT ?_)
  refine q8 (z2 (y4 (fun h=>?_) (fun h=>?_)))
  ·have hi:i<4:=by
    have:=of_decide_eq_true (show decide ((i:Int)<4)=true from h)
    omega
   obtain⟨n,rfl⟩:∃ k,n=k+1:=⟨n - 1,by omega⟩
   have w:=w9c E m a s (b+i) hE (by omega)
   have ok:=y2e hE a s
   have herr:=@v6a E a s
   unfold Dev.tryK at hone
   generalize E.once a s=Y at w ok hone herr
   obtain⟨⟨y1,y2⟩,E2⟩:=Y
   refine z5 ?_
   refine z8 ⟨⟨29,[(0,.ref 0 0),(3,.p (.box [.raw (.int .i64 a),bP s])),(7,i64 i)]⟩,hH E2 m⟩ (y2=0∧y1=false) (z3 (q8 (q7 hT ?_))) ?_
   ·refine y9 (u6 [0,1,2,3] w rfl rfl rfl) ?_
    refine z3 ?_
    refine q8 (q7 hT ?_)
    refine z2 (y4 (fun h1=>?_) (fun h1=>?_))
    ·have h1:(y2 != 0)=true:=h1
     have e:D.one a s=(y2,E2):=by rw[hone];simp only;rw[h1]
     refine q8 (q7 hT ?_)
     refine y5 ?_
     rw[e]
     have hm:v0i y2 m=m:=by unfold v0i;rw[show (y2==0)=false by simpa using h1]
     rw[hm]
     exact z9 [0,1,4,5] ⟨rfl,rfl⟩ rfl
    ·have h1:(y2 != 0)=false:=h1
     refine q8 (q7 hT ?_)
     refine z2 (y4 (fun h2=>?_) (fun h2=>?_))
     ·have h2:y1=true:=h2
      have e:D.one a s=(0,E2):=by rw[hone];simp only;rw[h1,h2]
      refine q8 (q7 hT ?_)
      refine q8 (q7 hT ?_)
      refine y5 ?_
      rw[e]
      exact z9 [0,1,4,5] ⟨rfl,rfl⟩ rfl
     ·exact z5 ⟨q9 [0,1,4,5] [0,3,7] rfl,by simpa using h1,h2⟩
   ·rintro⟨h1,h2⟩
    have e:D.one a s=Dev.tryK n E2 a s:=by rw[hone];simp only;rw[show (y2 != 0)=false by simpa using h1,h2]
    refine q7 hT ?_
    refine⟨n,by omega,_,q9 [0,1,2,3] [0,3,7] rfl,i+1,IntKind.i64.wrap ((i:Int)+1),E2,by omega,?_,by rw[← Nat.add_assoc];exact ok,e,rfl⟩
    rw[y7 _ (by omega) (by omega)];rfl
  ·have hi:¬ (i:Int)<4:=of_decide_eq_false h
   have hn0:n=0:=by omega
   subst hn0
   refine x9 ?_
   exact⟨_,q9 [0,1,2,3] [] rfl,E,hone,rfl⟩
 ·rintro _ ⟨E,e,rfl⟩
  refine q8 (q7 hT ?_)
  refine y5 ?_
  rw[e]
  exact z9 [0,1,2,3] ⟨rfl,rfl⟩ rfl
end Go.Proofs.YtinfbclgkghgaaaGreat.AL
namespace Go.Proofs.YtinfbclgkghgaaaGreat.AL
open Go Go.Proofs
structure Put9 where
 at_:Int
 s:z7
def Put9.pv (x:Put9):List PV:=[.raw (.int .i64 x.at_),bP x.s]
def px (l:List Put9):List (List PV):=l.map Put9.pv
theorem y6f (l:List Put9):(px l).length=l.length:=by simp[px]
theorem v6c {l:List Put9}{i:Nat}{c:Put9}(h:l[i]?=some c):(px l)[i]?=some c.pv:=by rw[px,List.getElem?_map,h];rfl
def q6b (g:Dev→Int→Int→z7→Int × (Dev × Int)):List Put9→Dev→Int→Int × (Dev × Int)
 |[],D,m=>(0,(D,m))
 |x :: r,D,m=>match (g D m x.at_ x.s).1 != 0 with
  |true=>g D m x.at_ x.s
  |false=>q6b g r (g D m x.at_ x.s).2.1 (g D m x.at_ x.s).2.2
theorem y6g (g:Dev→Int→Int→z7→Int × (Dev × Int))(x:Put9)(r:List Put9)(D:Dev)(m:Int):q6b g (x :: r) D m=match (g D m x.at_ x.s).1 != 0 with
 |true=>g D m x.at_ x.s
 |false=>q6b g r (g D m x.at_ x.s).2.1 (g D m x.at_ x.s).2.2:=rfl
def v9h (f:FuncId)(g:Dev→Int→Int→z7→Int × (Dev × Int)):Prop:=∀ (D:Dev) (m a:Int) (s:z7) (b:Nat),D.Ok b→b+4<1000000 →
 AFm Tryz.prog 2 f [.ref 0 0,w6i a s] (hH D m) (v9 (i64 (g D m a s).1) (hH (g D m a s).2.1 (g D m a s).2.2))∧(g D m a s).2.1.Ok (b+4)
theorem v0j {f:FuncId}{g:Dev→Int→Int→z7→Int × (Dev × Int)}(hg:v9h f g)(l:List Put9)(D:Dev)(m:Int)(b:Nat)(hD:D.Ok b)(hb:b+4*l.length<1000000) :
 AFm Tryz.prog 2 x7t [.p (.sl 2 (px l)),.mth (.func f) [.ref 0 0]] (hH D m) (v9 (i64 (q6b g l D m).1) (hH (q6b g l D m).2.1 (q6b g l D m).2.2)):=by
 refine Q5 2 hT x7u rfl rfl x7v rfl rfl ?_
 refine q8 (q7 hT ?_)
 refine y6 (fun s1=>∃ E k,q6b g l D m=(0,(E,k))∧s1=⟨⟨21,[]⟩,hH E k⟩) (q8 (q7 hT ?_)) ?_
 ·refine z3 ?_
  refine y8 (fun n s1=>∃ (i:Nat) (j:Int) (E:Dev) (k:Int),n+i=l.length∧j=i∧E.Ok (b+4*i)∧q6b g l D m=q6b g (l.drop i) E k∧s1=⟨⟨21,[(1,.mth (.func f) [.ref 0 0]),(8,.p (.sl 2 (px l))),(9,i64 l.length),(10,i64 j)]⟩,hH E k⟩) l.length ⟨⟨21,_⟩,[_,_,_,_]⟩ (q9 [0,1,2,3] [1,8,9,10] rfl) ⟨0,0,D,m,rfl,rfl,hD,rfl,by rw[← y6f l];rfl⟩ ?_
  rintro n s1 ⟨i,j,E,k,hni,rfl,hE,he,rfl⟩
  refine q8 (q7 hT ?_)
  refine q8 (z2 (y4 (fun h=>?_) (fun h=>?_)))
  ·have hi:i<l.length:=by
    have:=of_decide_eq_true (show decide ((i:Int)<(l.length:Int))=true from h)
    omega
   have hx:=List.getElem?_eq_getElem hi
   have hdr:l.drop i=l[i] :: l.drop (i+1):=List.drop_eq_getElem_cons hi
   generalize l[i]=x at hx hdr
   have hxp:(px l)[((i:Nat):Int).toNat]?=some x.pv:=by rw[Int.toNat_natCast];exact v6c hx
   obtain⟨w,ok⟩:=hg E k x.at_ x.s (b+4*i) hE (by omega)
   rw[hdr,y6g]at he
   generalize g E k x.at_ x.s=Y at w ok he
   obtain⟨e,E2,k2⟩:=Y
   refine z5 ?_
   refine z8 ⟨⟨21,[(1,.mth (.func f) [.ref 0 0]),(8,.p (.sl 2 (px l))),(9,i64 l.length),(10,i64 i)]⟩,hH E2 k2⟩ (e=0) (z3 (q8 (q7 hT ?_))) ?_
   ·refine⟨Int.natCast_nonneg _,v7 hxp ?_⟩
    refine q8 (q7 hT ?_)
    refine y9 (u6 [0,1,2,3] w rfl rfl rfl) ?_
    refine q8 (q7 hT ?_)
    refine z2 (y4 (fun h1=>?_) (fun h1=>?_))
    ·have h1:(e != 0)=true:=h1
     have e1:q6b g l D m=(e,(E2,k2)):=by rw[he];simp only;rw[h1]
     refine q8 (q7 hT ?_)
     refine y5 ?_
     rw[e1]
     exact z9 [0,1,5,6] ⟨rfl,rfl⟩ rfl
    ·have h1:(e != 0)=false:=h1
     exact z5 ⟨q9 [0,1,5,6] [1,8,9,10] rfl,by simpa using h1⟩
   ·intro h1
    have e1:q6b g l D m=q6b g (l.drop (i+1)) E2 k2:=by rw[he];simp only;rw[show (e != 0)=false by simpa using h1]
    refine q7 hT ?_
    refine⟨n - 1,by omega,_,q9 [0,1,2,3] [1,8,9,10] rfl,i+1,IntKind.i64.wrap ((i:Int)+1),E2,k2,by omega,?_,by rw[show b+4*(i+1)=b+4*i+4 by omega];exact ok,e1,rfl⟩
    rw[y7 _ (by omega) (by omega)];rfl
  ·have hi:¬ (i:Int)<(l.length:Int):=of_decide_eq_false h
   have hil:i=l.length:=by omega
   subst hil
   rw[List.drop_length]at he
   refine x9 ?_
   exact⟨_,q9 [0,1,2,3] [] rfl,E,k,he,rfl⟩
 ·rintro _ ⟨E,k,e,rfl⟩
  refine q8 (q7 hT ?_)
  refine y5 ?_
  rw[e]
  exact z9 [0,1,2,3] ⟨rfl,rfl⟩ rfl
def w4q (D:Dev)(m a:Int)(s:z7):Int × (Dev × Int):=((D.one a s).1,((D.one a s).2,v0i (D.one a s).1 m))
theorem v0k:v9h q9w w4q:=fun D m a s b hD hb=>⟨v6b D m a s b hD hb,v8p hD a s⟩
def Dev.all9 (D:Dev)(l:List Put9):Int × Dev:=((q6b w4q l D 0).1,(q6b w4q l D 0).2.1)
theorem v6d (D:Dev)(l:List Put9)(b:Nat)(hD:D.Ok b)(hb:b+4*l.length<1000000):AFm Tryz.prog 1 w2s [.ref 0 0,.p (.sl 2 (px l))] (Y4 D) (v9 (i64 (D.all9 l).1) (Y4 (D.all9 l).2)):=by
 have w:=v0j v0k l D 0 b hD hb
 unfold Dev.all9
 generalize q6b w4q l D 0=Y at w
 obtain⟨e,E,k⟩:=Y
 refine Q5 1 hT w2t rfl rfl w2u rfl rfl ?_
 refine q8 (q7 hT ?_)
 refine q8 (q7 hT ?_)
 refine y9 (u6 [3,0,1,2] w rfl rfl rfl) ?_
 refine y5 ?_
 exact z9 [0,4,5] ⟨rfl,rfl⟩ rfl
end Go.Proofs.YtinfbclgkghgaaaGreat.AL
namespace Go.Proofs.YtinfbclgkghgaaaGreat.AL
open Go Go.Proofs
theorem x0k {hit:Wr→Bool}:∀ {l:List Wr} {x:Wr},q4f hit l=some x→x∈l
 |[],x,h=>by simp[q4f]at h
 |y :: r,x,h=>by
  unfold q4f at h
  cases h1:q4f hit r with
  |some z=>rw[h1]at h;obtain rfl:=Option.some.inj h;exact List.mem_cons_of_mem _ (x0k h1)
  |none=>
   rw[h1]at h
   cases h2:hit y with
   |true=>rw[h2]at h;obtain rfl:=Option.some.inj h;exact List.mem_cons_self ..
   |false=>rw[h2]at h;simp at h
theorem v0m {D:Dev}{b:Nat}(h:D.Ok b)(a:Int):(D.read a).1.1.length≤256:=by
 unfold Dev.read
 split
 ·exact Nat.zero_le _
 ·split
  ·exact Nat.zero_le _
  ·show (D.readAt a).2.length≤_
   unfold Dev.readAt
   split
   ·rename_i x hx
    exact Nat.le_of_eq (h.ws x (x0k hx))
   ·split
    ·rename_i c hc
     split
     ·exact Nat.zero_le _
     ·exact Nat.le_of_eq (h.cs c (List.mem_of_getElem? hc))
    ·exact Nat.zero_le _
abbrev v8q:List PV:=[.raw (.slice none 0 0)]
theorem x0m (l:List z7)(s:z7):z4 (l++[s])=z4 l++[[bP s]]:=by simp[z4]
end Go.Proofs.YtinfbclgkghgaaaGreat.AL
