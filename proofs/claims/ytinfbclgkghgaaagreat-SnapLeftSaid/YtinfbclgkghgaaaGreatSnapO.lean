/- A part of the proof. -/
import Derived.Test.YtinfbclgkghgaaaGreatSnapN
/- Plain: elimination of rows whose kernel is trivial comes to the unit. -/
namespace Go.Proofs.YtinfbclgkghgaaaGreat.AL
open Go Go.Proofs
def q1w (a:y7)(x:Nat→UInt8):Nat→UInt8
 |0=>0
 |n+1=>q1w a x n ^^^ Gf.mul (a.getD n 0) (x n)
theorem y7k {to row:y7}(q:UInt8)(h:to.length=row.length)(n:Nat):(Y7 to row q).getD n 0=to.getD n 0 ^^^ Gf.mul q (row.getD n 0):=by
 unfold Y7
 rw[List.getD_eq_getElem?_getD,List.getElem?_zipWith,List.getD_eq_getElem?_getD,List.getD_eq_getElem?_getD]
 by_cases hn:n<to.length
 ·rw[List.getElem?_eq_getElem hn,List.getElem?_eq_getElem (h ▸ hn)];rfl
 ·rw[List.getElem?_eq_none (by omega),List.getElem?_eq_none (by omega)]
  show (0:UInt8)=0 ^^^ Gf.mul q 0
  rw[Gf.mul_zero];rfl
theorem y7m (z:UInt8)(t:y7)(n:Nat):(V4 z t).getD n 0=Gf.mul z (t.getD n 0):=by
 unfold V4
 rw[List.getD_eq_getElem?_getD,List.getElem?_map,List.getD_eq_getElem?_getD]
 cases t[n]? with
 |none=>show (0:UInt8)=Gf.mul z 0;rw[Gf.mul_zero]
 |some v=>exact Gf.mul_comm _ _
theorem u1g (a b c d:UInt8):a ^^^ b ^^^ (c ^^^ d)=a ^^^ c ^^^ (b ^^^ d):=by
 rw[UInt8.xor_assoc,UInt8.xor_assoc,← UInt8.xor_assoc b,UInt8.xor_comm b c,UInt8.xor_assoc c]
theorem q8c {a b:UInt8}(h:a ^^^ b=0):a=b:=by
 have:a ^^^ b ^^^ b=b:=by rw[h,UInt8.zero_xor]
 rwa [UInt8.xor_assoc,UInt8.xor_self,UInt8.xor_zero]at this
theorem y3k {to row:y7}(q:UInt8)(h:to.length=row.length)(x:Nat→UInt8):∀ n,q1w (Y7 to row q) x n=q1w to x n ^^^ Gf.mul q (q1w row x n)
 |0=>by show (0:UInt8)=0 ^^^ Gf.mul q 0;rw[Gf.mul_zero];rfl
 |n+1=>by
  show q1w _ x n ^^^ Gf.mul ((Y7 to row q).getD n 0) (x n)=_
  rw[y3k q h x n,y7k q h,Gf.xor_mul,u1g,Gf.mul_assoc,← Gf.mul_xor];rfl
theorem z0n (z:UInt8)(t:y7)(x:Nat→UInt8):∀ n,q1w (V4 z t) x n=Gf.mul z (q1w t x n)
 |0=>by show (0:UInt8)=Gf.mul z 0;rw[Gf.mul_zero]
 |n+1=>by
  show q1w _ x n ^^^ Gf.mul ((V4 z t).getD n 0) (x n)=_
  rw[z0n z t x n,y7m,Gf.mul_assoc,← Gf.mul_xor];rfl
theorem z2e {a:y7}{i:Nat}(x:Nat→UInt8):∀ {n},(∀ j,j<n→a.getD j 0=if i=j then 1 else 0)→q1w a x n=if i<n then x i else 0
 |0,_=>by rw[if_neg (by omega)];rfl
 |n+1,h=>by
  show q1w a x n ^^^ Gf.mul (a.getD n 0) (x n)=_
  rw[z2e x (n:=n) fun j hj=>h j (by omega),h n (by omega)]
  by_cases e:i=n
  ·subst e
   rw[if_pos rfl,if_neg (by omega),if_pos (by omega),Gf.one_mul,UInt8.zero_xor]
  ·rw[if_neg e,Gf.zero_mul,UInt8.xor_zero]
   by_cases hi:i<n
   ·rw[if_pos hi,if_pos (by omega)]
   ·rw[if_neg hi,if_neg (by omega)]
theorem w0n {a:y7}{x:Nat→UInt8}{c:Nat}:∀ {n},c≤n→(∀ j,c≤j→j<n→x j=0)→q1w a x n=q1w a x c
 |0,h,_=>by rw[show c=0 by omega]
 |n+1,h,hz=>by
  by_cases e:c=n+1
  ·rw[e]
  ·show q1w a x n ^^^ Gf.mul (a.getD n 0) (x n)=_
   rw[w0n (n:=n) (by omega) fun j h1 h2=>hz j h1 (by omega),hz n (by omega) (by omega),Gf.mul_zero,UInt8.xor_zero]
theorem x1t {to row:y7}(h:to.length=row.length):Y7 to row 0=to:=by
 refine List.ext_getElem? fun n=>?_
 unfold Y7
 rw[List.getElem?_zipWith]
 by_cases hn:n<to.length
 ·rw[List.getElem?_eq_getElem hn,List.getElem?_eq_getElem (h ▸ hn)]
  show some (to[n] ^^^ Gf.mul 0 _)=_
  rw[Gf.zero_mul,UInt8.xor_zero]
 ·rw[List.getElem?_eq_none (by omega)]
theorem v9k (M:W8)(c p:Nat):swp M c p c=M p:=by unfold swp;rw[Nat.beq_refl]
theorem y7n (M:W8)(c p i:Nat):swp M c p i=M (if i=c then p else if i=p then c else i):=by
 unfold swp
 cases h:Nat.beq i c with
 |true=>rw[if_pos (Nat.eq_of_beq_eq_true h)]
 |false=>
  rw[if_neg (Nat.ne_of_beq_eq_false h)]
  cases h:Nat.beq i p with
  |true=>rw[if_pos (Nat.eq_of_beq_eq_true h)]
  |false=>rw[if_neg (Nat.ne_of_beq_eq_false h)]
theorem v8j {r c p:Nat}(hc:c<r)(hp:p<r){M N:W8}{Q:y7→y7→Prop}(h:∀ i,i<r→Q (swp M c p i) (swp N c p i)):∀ i,i<r→Q (M i) (N i):=fun i hi=>by
 have:=h (if i=c then p else if i=p then c else i) (by split;exact hp;split;exact hc;exact hi)
 rw[y7n,y7n]at this
 have e:(if (if i=c then p else if i=p then c else i)=c then p else if (if i=c then p else if i=p then c else i)=p then c else (if i=c then p else if i=p then c else i))=i:=by
  by_cases a:i=c
  ·rw[if_pos a]
   by_cases b:p=c
   ·rw[if_pos b];omega
   ·rw[if_neg b,if_pos rfl];exact a.symm
  ·rw[if_neg a]
   by_cases b:i=p
   ·rw[if_pos b,if_pos rfl];exact b.symm
   ·rw[if_neg b,if_neg a,if_neg b]
 rwa [e]at this
theorem v5t {r c p:Nat}(hc:c<r)(hp:p<r){M N:W8}{Q:y7→y7→Prop}(h:∀ i,i<r→Q (M i) (N i)):∀ i,i<r→Q (swp M c p i) (swp N c p i):=fun i hi=>by
 rw[y7n,y7n]
 exact h _ (by split;exact hp;split;exact hc;exact hi)
theorem x5k (M:W8)(c:Nat)(v:y7)(i:Nat):Y0 M c v i=if i=c then v else M i:=by
 unfold Y0
 cases h:Nat.beq i c with
 |true=>rw[if_pos (Nat.eq_of_beq_eq_true h)]
 |false=>rw[if_neg (Nat.ne_of_beq_eq_false h)]
theorem w4g {r c k:Nat}(hk:k<r)(hc:c<r){G:W8 × W8}(h1:Y9 r G.1)(h2:Y9 r G.2)(i:Nat) :
 (Y4 c k G).1 i=(if i=k∧i≠c then Y7 (G.1 k) (G.1 c) ((G.1 k).getD c 0) else G.1 i)∧(Y4 c k G).2 i=(if i=k∧i≠c then Y7 (G.2 k) (G.2 c) ((G.1 k).getD c 0) else G.2 i):=by
 unfold Y4
 cases e1:Nat.beq k c with
 |true=>
  have:=Nat.eq_of_beq_eq_true e1
  rw[if_neg (by omega),if_neg (by omega)]
  exact⟨rfl,rfl⟩
 |false=>
  have hkc:=Nat.ne_of_beq_eq_false e1
  cases e2:((G.1 k).getD c 0 != 0) with
  |true=>
   show Y0 _ _ _ i=_∧Y0 _ _ _ i=_
   rw[x5k,x5k]
   by_cases h:i=k
   ·rw[if_pos h,if_pos h,if_pos ⟨h,by omega⟩,if_pos ⟨h,by omega⟩];exact⟨rfl,rfl⟩
   ·rw[if_neg h,if_neg h,if_neg (by omega),if_neg (by omega)];exact⟨rfl,rfl⟩
  |false=>
   have e2:(G.1 k).getD c 0=0:=by simpa using e2
   show G.1 i=_∧G.2 i=_
   rw[e2,x1t (by rw[h1 k hk,h1 c hc]),x1t (by rw[h2 k hk,h2 c hc])]
   by_cases h:i=k
   ·subst h
    rw[if_pos ⟨rfl,hkc⟩,if_pos ⟨rfl,hkc⟩];exact⟨rfl,rfl⟩
   ·rw[if_neg (by omega),if_neg (by omega)];exact⟨rfl,rfl⟩
theorem y3m {r c:Nat}(hc:c<r){G:W8 × W8}(h1:Y9 r G.1)(h2:Y9 r G.2):∀ n,n≤r→∀ i,
 (elS c G n).1 i=(if i<n∧i≠c then Y7 (G.1 i) (G.1 c) ((G.1 i).getD c 0) else G.1 i)∧(elS c G n).2 i=(if i<n∧i≠c then Y7 (G.2 i) (G.2 c) ((G.1 i).getD c 0) else G.2 i)
 |0,_,i=>by rw[if_neg (by omega),if_neg (by omega)];exact⟨rfl,rfl⟩
 |n+1,hn,i=>by
  obtain⟨l1,l2⟩:=q2j hc h1 h2 n (by omega)
  obtain⟨a,b⟩:=w4g (show n<r by omega) hc l1 l2 i
  obtain⟨n1,n2⟩:=y3m hc h1 h2 n (by omega) n
  obtain⟨c1,c2⟩:=y3m hc h1 h2 n (by omega) c
  obtain⟨i1,i2⟩:=y3m hc h1 h2 n (by omega) i
  rw[if_neg (by omega)]at n1 n2 c1 c2
  show (Y4 c n (elS c G n)).1 i=_∧(Y4 c n (elS c G n)).2 i=_
  rw[a,b,n1,n2,c1,c2]
  by_cases h:i=n∧i≠c
  ·rw[if_pos h,if_pos h,if_pos (by omega),if_pos (by omega),h.1];exact⟨rfl,rfl⟩
  ·rw[if_neg h,if_neg h,i1,i2]
   by_cases h':i<n∧i≠c
   ·rw[if_pos h',if_pos h',if_pos (by omega),if_pos (by omega)];exact⟨rfl,rfl⟩
   ·rw[if_neg h',if_neg h',if_neg (by omega),if_neg (by omega)];exact⟨rfl,rfl⟩
/-- One column: the rows behind it. -/
theorem w4h {r c p:Nat}(hc:c<r)(hp:p<r){G:W8 × W8}(h1:Y9 r G.1)(h2:Y9 r G.2)(hpv:q4f G.1 r c=p)(z:UInt8)(hz:z=Gf.inv ((G.1 p).getD c 0))(_hz1:Gf.mul ((G.1 p).getD c 0) z=1):∀ i,i<r →
 (q1n r c G).1 i=(if i=c then V4 z (swp G.1 c p c) else Y7 (swp G.1 c p i) (V4 z (swp G.1 c p c)) ((swp G.1 c p i).getD c 0)) ∧
 (q1n r c G).2 i=(if i=c then V4 z (swp G.2 c p c) else Y7 (swp G.2 c p i) (V4 z (swp G.2 c p c)) ((swp G.1 c p i).getD c 0)):=fun i hi=>by
 have s1:=V5 h1 hc hp
 have s2:=V5 h2 hc hp
 have e:J4 r c G=(swp G.1 c p,swp G.2 c p):=by unfold J4;rw[hpv,Int.toNat_natCast]
 have e2:q2y c (J4 r c G)=(Y0 (swp G.1 c p) c (V4 z (swp G.1 c p c)),Y0 (swp G.2 c p) c (V4 z (swp G.2 c p c))):=by
  rw[e,hz,← v9k G.1 c p];rfl
 have t1:=X7 s1 c (v:=V4 z (swp G.1 c p c)) (by rw[X4];exact s1 c hc)
 have t2:=X7 s2 c (v:=V4 z (swp G.2 c p c)) (by rw[X4];exact s2 c hc)
 unfold q1n
 rw[e2]
 have hr:=y3m hc (G:=(Y0 (swp G.1 c p) c (V4 z (swp G.1 c p c)),Y0 (swp G.2 c p) c (V4 z (swp G.2 c p c)))) t1 t2 r (Nat.le_refl _) i
 simp only[x5k,if_pos]at hr
 rw[hr.1,hr.2]
 by_cases h:i=c
 ·simp only[h,ne_eq,not_true,and_false,if_false,if_true,and_self]
 ·simp only[h,hi,ne_eq,not_false_eq_true,and_self,if_false,if_true]
def z0p (r:Nat)(M:W8)(x:Nat→UInt8):Prop:=∀ i,i<r→q1w (M i) x r=0
structure ElI (r:Nat) (L:List y7) (c:Nat) (G:W8 × W8):Prop where
 len1:Y9 r G.1
 len2:Y9 r G.2
 unit:∀ i,i<r→∀ j,j<c→(G.1 i).getD j 0=if i=j then 1 else 0
 ker:∀ x,z0p r G.1 x→z0p r (fun i=>L.getD i []) x
 val:∀ x y,(∀ i,i<r→q1w (L.getD i []) x r=y i)→∀ i,i<r→q1w (G.1 i) x r=q1w (G.2 i) y r
theorem w6k (M:W8)(c:Nat):∀ n i,¬ 0≤q7e M c n i→∀ p,i≤p→p<i+n→(M p).getD c 0=0
 |0,i,_,p,h1,h2=>by omega
 |n+1,i,h,p,h1,h2=>by
  unfold q7e at h
  cases hm:(M i).getD c 0 != 0 with
  |true=>rw[hm]at h;exact absurd (show (0:Int)≤i by omega) h
  |false=>
   rw[hm]at h
   by_cases e:i=p
   ·subst e;simpa using hm
   ·exact w6k M c n (i+1) h p (by omega) (by omega)
theorem w0p {r c:Nat}(hc:c<r){L:List y7}{G:W8 × W8}(hI:ElI r L c G)(hk:∀ x,z0p r (fun i=>L.getD i []) x→∀ j,j<r→x j=0):0≤q4f G.1 r c:=by
 by_cases h:0≤q4f G.1 r c
 ·exact h
 ·have hno:=w6k G.1 c (r - c) c h
  exfalso
  have hx:=hk (fun j=>if j=c then 1 else if j<c then (G.1 j).getD c 0 else 0) (hI.ker _ fun i hi=>by
   rw[w0n (c:=c+1) (by omega) fun j h1 h2=>by show (if j=c then (1:UInt8) else _)=0;rw[if_neg (by omega),if_neg (by omega)]]
   show q1w _ _ c ^^^ Gf.mul ((G.1 i).getD c 0) (if c=c then 1 else _)=0
   rw[if_pos rfl,Gf.mul_one,z2e _ (hI.unit i hi)]
   by_cases e:i<c
   ·rw[if_pos e,if_neg (by omega),if_pos e,UInt8.xor_self]
   ·rw[if_neg e,hno i (by omega) (by omega)];rfl) c hc
  rw[if_pos rfl]at hx
  exact absurd hx (by decide)
theorem el0 {r:Nat}{L:List y7}(hL:L.length=r)(hr:∀ s∈L,s.length=r):ElI r L 0 (gs0 r L) where
 len1:=fun i hi=>by
  show (L.getD i []).length=r
  rw[List.getD_eq_getElem?_getD,List.getElem?_eq_getElem (by omega)]
  exact hr _ (List.getElem_mem _)
 len2:=fun i _=>y7g _ _ _
 unit:=fun i _ j h=>by omega
 ker:=fun x h=>h
 val:=fun x y h i hi=>by
  rw[show q1w ((gs0 r L).1 i) x r=y i from h i hi,z2e (i:=i),if_pos hi]
  intro j hj
  show (Q3 idA r i).getD j 0=_
  unfold Q3 idA
  rw[List.getD_eq_getElem?_getD,List.getElem?_map,List.getElem?_range hj]
  show (match ((i:Int)==(j:Int)) with|true=>(1:UInt8)|false=>0)=_
  by_cases e:i=j
  ·rw[if_pos e,e];rw[show ((j:Int)==(j:Int))=true from beq_self_eq_true _]
  ·rw[if_neg e,show ((i:Int)==(j:Int))=false from beq_eq_false_iff_ne.mpr (by omega)]
theorem v8k {r c:Nat}(hc:c<r){L:List y7}{G:W8 × W8}(hI:ElI r L c G)(hp:0≤q4f G.1 r c):ElI r L (c+1) (q1n r c G):=by
 obtain⟨p,p1,p2,p3,p4⟩:=z3n hc hp
 obtain⟨z,hz⟩:∃ z,z=Gf.inv ((G.1 p).getD c 0):=⟨_,rfl⟩
 have hz1:Gf.mul ((G.1 p).getD c 0) z=1:=by rw[hz];exact Gf.mul_inv p4
 have hrow:=w4h hc p3 hI.len1 hI.len2 p1 z hz hz1
 have s1:=V5 hI.len1 hc p3
 have s2:=V5 hI.len2 hc p3
 have hz0:z≠0:=fun e=>by rw[e,Gf.mul_zero]at hz1;exact absurd hz1 (by decide)
 have hSc:=v9k G.1 c p
 have hu:∀ i,i<r→∀ j,j<c→(swp G.1 c p i).getD j 0=if i=j then 1 else 0:=fun i hi j hj=>by
  rw[y7n,hI.unit _ (by split;exact p3;split;exact hc;exact hi) j hj]
  by_cases e:i=c
  ·rw[if_pos e,if_neg (by omega),if_neg (by omega)]
  ·rw[if_neg e]
   by_cases e2:i=p
   ·rw[if_pos e2,if_neg (by omega),if_neg (by omega)]
   ·rw[if_neg e2]
 have hvs:∀ x y,(∀ i,i<r→q1w (L.getD i []) x r=y i)→∀ i,i<r→q1w (swp G.1 c p i) x r=q1w (swp G.2 c p i) y r:=fun x y h=>v5t (Q:=fun a b=>q1w a x r=q1w b y r) hc p3 (hI.val x y h)
 have hks:∀ x,z0p r (swp G.1 c p) x→z0p r (fun i=>L.getD i []) x:=fun x h=>hI.ker x (v8j (N:=G.1) (Q:=fun a _=>q1w a x r=0) hc p3 h)
 have hcc:(swp G.1 c p c).getD c 0=(G.1 p).getD c 0:=by rw[hSc]
 rw[← hcc]at hz1
 generalize swp G.1 c p=S at *
 generalize swp G.2 c p=T at *
 have lc:∀ i,i<r→(S i).length=(V4 z (S c)).length:=fun i hi=>by rw[X4,s1 i hi,s1 c hc]
 have lc2:∀ i,i<r→(T i).length=(V4 z (T c)).length:=fun i hi=>by rw[X4,s2 i hi,s2 c hc]
 refine⟨fun i hi=>?_,fun i hi=>?_,fun i hi j hj=>?_,fun x hx=>hks x ?_,fun x y h i hi=>?_⟩
 ·rw[(hrow i hi).1]
  split
  ·rw[X4];exact s1 c hc
  ·rw[q7d _ (lc i hi)];exact s1 i hi
 ·rw[(hrow i hi).2]
  split
  ·rw[X4];exact s2 c hc
  ·rw[q7d _ (lc2 i hi)];exact s2 i hi
 ·rw[(hrow i hi).1]
  by_cases e:i=c
  ·rw[if_pos e,y7m]
   by_cases ej:j=c
   ·rw[ej,if_pos e,Gf.mul_comm];exact hz1
   ·rw[hu c hc j (by omega),if_neg (by omega),if_neg (by omega),Gf.mul_zero]
  ·rw[if_neg e,y7k _ (lc i hi),y7m]
   by_cases ej:j=c
   ·rw[ej,if_neg e,Gf.mul_comm z,hz1,Gf.mul_one,UInt8.xor_self]
   ·rw[hu c hc j (by omega),if_neg (show c≠j by omega),Gf.mul_zero,Gf.mul_zero,UInt8.xor_zero]
    exact hu i hi j (by omega)
 ·have hc0:=hx c hc
  rw[(hrow c hc).1,if_pos rfl,z0n]at hc0
  have hc0:q1w (S c) x r=0:=by
   rcases Gf.mul_eq_zero hc0 with h|h
   ·exact absurd h hz0
   ·exact h
  intro i hi
  by_cases e:i=c
  ·rw[e];exact hc0
  ·have:=hx i hi
   rw[(hrow i hi).1,if_neg e,y3k _ (lc i hi),z0n,hc0,Gf.mul_zero,Gf.mul_zero,UInt8.xor_zero]at this
   exact this
 ·have hv:=hvs x y h
  rw[(hrow i hi).1,(hrow i hi).2]
  split
  ·rw[z0n,z0n,hv c hc]
  ·rw[y3k _ (lc i hi),y3k _ (lc2 i hi),z0n,z0n,hv c hc,hv i hi]
theorem x5m {r:Nat}{L:List y7}(hL:L.length=r)(hr:∀ s∈L,s.length=r)(hk:∀ x,z0p r (fun i=>L.getD i []) x→∀ j,j<r→x j=0):∀ c,c≤r→ElI r L c (gs r L c)
 |0,_=>el0 hL hr
 |c+1,hc=>v8k (by omega) (x5m hL hr hk c (by omega)) (w0p (by omega) (x5m hL hr hk c (by omega)) hk)
theorem v8m {r:Nat}{L:List y7}(hL:L.length=r)(hr:∀ s∈L,s.length=r)(hk:∀ x,z0p r (fun i=>L.getD i []) x→∀ j,j<r→x j=0):y0d r L=true:=by
 unfold y0d
 rw[List.all_eq_true]
 intro c hc
 have hc:=List.mem_range.mp hc
 exact decide_eq_true (w0p hc (x5m hL hr hk c (by omega)) hk)
theorem v0g {r:Nat}{L:List y7}(hL:L.length=r)(hr:∀ s∈L,s.length=r)(hk:∀ x,z0p r (fun i=>L.getD i []) x→∀ j,j<r→x j=0)(x y:Nat→UInt8)
 (h:∀ i,i<r→q1w (L.getD i []) x r=y i) (i:Nat) (hi:i<r):q1w ((gs r L r).2 i) y r=x i:=by
 have hI:=x5m hL hr hk r (Nat.le_refl _)
 rw[← hI.val x y h i hi,z2e x (hI.unit i hi),if_pos hi]
end Go.Proofs.YtinfbclgkghgaaaGreat.AL
namespace Go.Proofs.YtinfbclgkghgaaaGreat.AL
open Go Go.Proofs
theorem Gf.mlc (a b c:UInt8):Gf.mul a (Gf.mul b c)=Gf.mul b (Gf.mul a c):=by rw[← Gf.mul_assoc,Gf.mul_comm a b,Gf.mul_assoc]
theorem Gf.inv_ne (a:UInt8):Gf.inv a≠0:=Gf.pw_ne _
def z7w (x:UInt8→UInt8)(a:UInt8):List UInt8→UInt8
 |[]=>0
 |b :: B=>z7w x a B ^^^ Gf.mul (x b) (Gf.inv (a ^^^ b))
theorem w4i {a b:UInt8}(h:a≠b):a ^^^ b≠0:=fun e=>h (q8c e)
theorem y7p (a b c:UInt8):a ^^^ b=a ^^^ c ^^^ (c ^^^ b):=by rw[UInt8.xor_assoc,← UInt8.xor_assoc c,UInt8.xor_self,UInt8.zero_xor]
theorem v8n (u v:UInt8):(1 ^^^ u) ^^^ (1 ^^^ v)=u ^^^ v:=by rw[u1g,UInt8.xor_self,UInt8.zero_xor]
theorem v5u (X p q d U V:UInt8)(hU:Gf.mul p U=1)(hV:Gf.mul q V=1) :
 Gf.mul (p ^^^ d) (Gf.mul X U) ^^^ Gf.mul (q ^^^ d) (Gf.mul X V)=Gf.mul (p ^^^ q) (Gf.mul (Gf.mul (Gf.mul X d) V) U):=by
 rw[Gf.mlc (p ^^^ d),Gf.mlc (q ^^^ d),Gf.xor_mul p d U,Gf.xor_mul q d V,hU,hV,← Gf.mul_xor,v8n]
 rw[Gf.xor_mul p q,Gf.mlc p,hU,Gf.mul_one,Gf.mul_assoc (Gf.mul X d) V U,Gf.mlc q,← Gf.mul_assoc q,hV,Gf.one_mul,Gf.mul_assoc,Gf.mul_assoc,← Gf.mul_xor,← Gf.mul_xor,← Gf.mul_xor,UInt8.xor_comm U]
theorem w0q (x:UInt8→UInt8)(a a0 b0:UInt8):∀ B:List UInt8,(∀ b∈B,a≠b∧a0≠b) →
 Gf.mul (a ^^^ b0) (z7w x a B) ^^^ Gf.mul (a0 ^^^ b0) (z7w x a0 B)=Gf.mul (a ^^^ a0) (z7w (fun b=>Gf.mul (Gf.mul (x b) (b ^^^ b0)) (Gf.inv (a0 ^^^ b))) a B)
 |[],_=>by show Gf.mul _ 0 ^^^ Gf.mul _ 0=Gf.mul _ 0;rw[Gf.mul_zero,Gf.mul_zero,Gf.mul_zero];rfl
 |b :: B,h=>by
  obtain⟨h1,h2⟩:=h b (List.mem_cons_self ..)
  have ih:=w0q x a a0 b0 B fun b hb=>h b (List.mem_cons_of_mem _ hb)
  show Gf.mul _ (z7w x a B ^^^ _) ^^^ Gf.mul _ (z7w x a0 B ^^^ _)=Gf.mul _ (z7w _ a B ^^^ _)
  rw[Gf.mul_xor,Gf.mul_xor,u1g,ih,Gf.mul_xor]
  congr 1
  rw[y7p a b0 b,y7p a0 b0 b,y7p a a0 b,UInt8.xor_comm b a0]
  exact v5u _ _ _ _ _ _ (Gf.mul_inv (w4i h1)) (Gf.mul_inv (w4i h2))
theorem x1u (x:UInt8→UInt8)(a:UInt8):∀ B:List UInt8,(∀ b∈B,x b=0)→z7w x a B=0
 |[],_=>rfl
 |b :: B,h=>by
  show z7w x a B ^^^ Gf.mul (x b) _=0
  rw[x1u x a B fun b hb=>h b (List.mem_cons_of_mem _ hb),h b (List.mem_cons_self ..),Gf.zero_mul];rfl
theorem w0r:∀ (B A:List UInt8) (x:UInt8→UInt8),A.Nodup→B.Nodup→(∀ a∈A,∀ b∈B,a≠b)→B.length≤A.length→(∀ a∈A,z7w x a B=0)→∀ b∈B,x b=0
 |[],_,_,_,_,_,_,_,_,hb=>absurd hb (List.not_mem_nil)
 |b0 :: B,[],_,_,_,_,hl,_,_,_=>absurd hl (by simp)
 |b0 :: B,a0 :: A,x,hA,hB,hd,hl,hz,b,hb=>by
  obtain⟨hA1,hA2⟩:=List.nodup_cons.mp hA
  obtain⟨hB1,hB2⟩:=List.nodup_cons.mp hB
  have hx0:∀ a∈a0 :: A,x b0=Gf.mul (a ^^^ b0) (z7w x a B):=fun a ha=>by
   have h1:z7w x a B=Gf.mul (x b0) (Gf.inv (a ^^^ b0)):=q8c (hz a ha)
   rw[h1,Gf.mlc,Gf.mul_inv (w4i (hd a ha b0 (List.mem_cons_self ..))),Gf.mul_one]
  have hy:∀ b∈B,Gf.mul (Gf.mul (x b) (b ^^^ b0)) (Gf.inv (a0 ^^^ b))=0:=by
   refine w0r B A (fun b=>Gf.mul (Gf.mul (x b) (b ^^^ b0)) (Gf.inv (a0 ^^^ b))) hA2 hB2 (fun a ha b hb=>hd a (List.mem_cons_of_mem _ ha) b (List.mem_cons_of_mem _ hb)) (by simpa using hl) fun a ha=>?_
   have hdf:=w0q x a a0 b0 B fun b hb=>⟨hd a (List.mem_cons_of_mem _ ha) b (List.mem_cons_of_mem _ hb),hd a0 (List.mem_cons_self ..) b (List.mem_cons_of_mem _ hb)⟩
   rw[← hx0 a (List.mem_cons_of_mem _ ha),← hx0 a0 (List.mem_cons_self ..),UInt8.xor_self]at hdf
   rcases Gf.mul_eq_zero hdf.symm with h|h
   ·exact absurd (q8c h) (fun e=>hA1 (e ▸ ha))
   ·exact h
  have hx:∀ b∈B,x b=0:=fun b hb=>by
   rcases Gf.mul_eq_zero (hy b hb) with h|h
   ·rcases Gf.mul_eq_zero h with h|h
    ·exact h
    ·exact absurd (q8c h) (fun e=>hB1 (e ▸ hb))
   ·exact absurd h (Gf.inv_ne _)
  rcases List.mem_cons.mp hb with rfl|hb
  ·rw[hx0 a0 (List.mem_cons_self ..),x1u x a0 B hx,Gf.mul_zero]
  ·exact hx b hb
def q9j (S:List y7)(most:Nat):Nat→List Nat
 |0=>[]
 |i+1=>match decide ((X5 S most i).length<most)&&decide (0<(S.getD i []).length) with
  |true=>q9j S most i
  |false=>i :: q9j S most i
def z2f (S:List y7)(most k:Nat):Nat→List Nat
 |0=>[]
 |i+1=>match decide ((X5 S most (k+i)).length<most)&&decide (0<(S.getD (k+i) []).length) with
  |true=>(k+i) :: z2f S most k i
  |false=>z2f S most k i
def pkd (S:List y7)(most i:Nat):Bool:=decide ((X5 S most i).length<most)&&decide (0<(S.getD i []).length)
theorem q6d {S:List y7}{most i:Nat}(h:pkd S most i=true):X5 S most (i+1)=X5 S most i++[i]∧q9j S most (i+1)=q9j S most i:=by
 unfold pkd at h
 exact⟨by show (match _ with|true=>_|false=>_)=_;rw[h],by show (match _ with|true=>_|false=>_)=_;rw[h]⟩
theorem q7g {S:List y7}{most i:Nat}(h:pkd S most i=false):X5 S most (i+1)=X5 S most i∧q9j S most (i+1)=i :: q9j S most i:=by
 unfold pkd at h
 exact⟨by show (match _ with|true=>_|false=>_)=_;rw[h],by show (match _ with|true=>_|false=>_)=_;rw[h]⟩
theorem w4j {S:List y7}{most k i:Nat}(h:pkd S most (k+i)=true):z2f S most k (i+1)=(k+i) :: z2f S most k i:=by
 unfold pkd at h
 show (match _ with|true=>_|false=>_)=_;rw[h]
theorem w4k {S:List y7}{most k i:Nat}(h:pkd S most (k+i)=false):z2f S most k (i+1)=z2f S most k i:=by
 unfold pkd at h
 show (match _ with|true=>_|false=>_)=_;rw[h]
theorem w0s (S:List y7)(most:Nat):∀ i,(X5 S most i).length+(q9j S most i).length=i
 |0=>rfl
 |i+1=>by
  have ih:=w0s S most i
  cases h:pkd S most i with
  |true=>rw[(q6d h).1,(q6d h).2,List.length_append];show _+1+_=_;omega
  |false=>rw[(q7g h).1,(q7g h).2,List.length_cons];omega
theorem w0t (S:List y7)(most k:Nat):∀ i,(X5 S most (k+i)).length=(X5 S most k).length+(z2f S most k i).length
 |0=>rfl
 |i+1=>by
  have ih:=w0t S most k i
  rw[← Nat.add_assoc]
  cases h:pkd S most (k+i) with
  |true=>rw[(q6d h).1,w4j h,List.length_append,List.length_singleton,List.length_cons];omega
  |false=>rw[(q7g h).1,w4k h];exact ih
theorem z7x (S:List y7)(most k j:Nat)(h:j∈X5 S most k):∀ i,j∈X5 S most (k+i)
 |0=>h
 |i+1=>by
  rw[← Nat.add_assoc]
  cases e:pkd S most (k+i) with
  |true=>rw[(q6d e).1];exact List.mem_append.mpr (.inl (z7x S most k j h i))
  |false=>rw[(q7g e).1];exact z7x S most k j h i
theorem z2g (S:List y7)(most k j:Nat):∀ i,j∈z2f S most k i→j∈X5 S most (k+i)∧k≤j∧j<k+i
 |0,h=>absurd h (List.not_mem_nil)
 |i+1,h=>by
  rw[← Nat.add_assoc]
  cases e:pkd S most (k+i) with
  |true=>
   rw[w4j e]at h
   rw[(q6d e).1]
   rcases List.mem_cons.mp h with rfl|h
   ·exact⟨List.mem_append.mpr (.inr (List.mem_singleton.mpr rfl)),by omega,by omega⟩
   ·obtain⟨a,b,c⟩:=z2g S most k j i h
    exact⟨List.mem_append.mpr (.inl a),b,by omega⟩
  |false=>
   rw[w4k e]at h
   rw[(q7g e).1]
   obtain⟨a,b,c⟩:=z2g S most k j i h
   exact⟨a,b,by omega⟩
theorem y3n (S:List y7)(most j:Nat):∀ i,j∈q9j S most i→j<i
 |0,h=>absurd h (List.not_mem_nil)
 |i+1,h=>by
  cases e:pkd S most i with
  |true=>rw[(q6d e).2]at h;have:=y3n S most j i h;omega
  |false=>
   rw[(q7g e).2]at h
   rcases List.mem_cons.mp h with rfl|h
   ·omega
   ·have:=y3n S most j i h;omega
theorem x5n (S:List y7)(most j:Nat):∀ i,j<i→j∈X5 S most i∨j∈q9j S most i
 |0,h=>by omega
 |i+1,h=>by
  cases e:pkd S most i with
  |true=>
   rw[(q6d e).1,(q6d e).2]
   by_cases e:j=i
   ·subst e
    exact .inl (List.mem_append.mpr (.inr (List.mem_singleton.mpr rfl)))
   ·exact(x5n S most j i (by omega)).imp (fun h=>List.mem_append.mpr (.inl h)) id
  |false=>
   rw[(q7g e).1,(q7g e).2]
   by_cases e:j=i
   ·subst e
    exact .inr (List.mem_cons_self ..)
   ·exact(x5n S most j i (by omega)).imp id (List.mem_cons_of_mem _)
theorem y0h {i j:Nat}(hi:i<256)(hj:j<256)(h:UInt8.ofNat i=UInt8.ofNat j):i=j:=by
 have:=congrArg UInt8.toNat h
 rw[UInt8.toNat_ofNat',UInt8.toNat_ofNat',Nat.mod_eq_of_lt hi,Nat.mod_eq_of_lt hj]at this
 exact this
theorem y7q (S:List y7)(most:Nat):∀ i,i≤256→((q9j S most i).map UInt8.ofNat).Nodup
 |0,_=>List.nodup_nil
 |i+1,hi=>by
  have ih:=y7q S most i (by omega)
  cases e:pkd S most i with
  |true=>rw[(q6d e).2];exact ih
  |false=>
   rw[(q7g e).2]
   refine List.nodup_cons.mpr ⟨fun h=>?_,ih⟩
   rw[List.mem_map]at h
   obtain⟨j,hj,e⟩:=h
   have hlt:=y3n S most j i hj
   have:=y0h (by omega) (by omega) e
   omega
theorem y7r (S:List y7)(most k:Nat):∀ i,k+i≤256→((z2f S most k i).map UInt8.ofNat).Nodup
 |0,_=>List.nodup_nil
 |i+1,hi=>by
  have ih:=y7r S most k i (by omega)
  cases e:pkd S most (k+i) with
  |true=>
   rw[w4j e]
   refine List.nodup_cons.mpr ⟨fun h=>?_,ih⟩
   rw[List.mem_map]at h
   obtain⟨j,hj,e⟩:=h
   obtain⟨_,_,hlt⟩:=z2g S most k j i hj
   have:=y0h (by omega) (by omega) e
   omega
  |false=>rw[w4k e];exact ih
theorem w6m (S:List y7)(most:Nat)(row:y7)(x:Nat→UInt8)(a:UInt8):∀ n,n≤256→(∀ j,j<n→row.getD j 0=Gf.inv (a ^^^ UInt8.ofNat j))→(∀ j∈X5 S most n,x j=0) →
 q1w row x n=z7w (fun b=>x b.toNat) a ((q9j S most n).map UInt8.ofNat)
 |0,_,_,_=>rfl
 |n+1,hn,hr,hx=>by
  show q1w row x n ^^^ Gf.mul (row.getD n 0) (x n)=_
  have hx':∀ j∈X5 S most n,x j=0:=fun j hj=>hx j (z7x S most n j hj 1)
  rw[w6m S most row x a n (by omega) (fun j hj=>hr j (by omega)) hx',hr n (by omega)]
  cases e:pkd S most n with
  |true=>
   rw[(q6d e).1]at hx
   rw[(q6d e).2,hx n (List.mem_append.mpr (.inr (List.mem_singleton.mpr rfl))),Gf.mul_zero,UInt8.xor_zero]
  |false=>
   rw[(q7g e).2]
   show _=z7w _ a _ ^^^ Gf.mul (x (UInt8.ofNat n).toNat) _
   rw[show (UInt8.ofNat n).toNat=n by rw[UInt8.toNat_ofNat',Nat.mod_eq_of_lt (by omega)],Gf.mul_comm]
theorem w0u (A:Nat→Nat→UInt8){c i j:Nat}(hj:j<c):(Q3 A c i).getD j 0=A i j:=by
 unfold Q3
 rw[List.getD_eq_getElem?_getD,List.getElem?_map,List.getElem?_range hj];rfl
theorem w4m {k m i:Nat}(h:i<k):(J5 k m).getD i []=Q3 idA k i:=by
 unfold J5
 rw[List.getD_eq_getElem?_getD,List.getElem?_append_left (by rw[List.length_map,List.length_range];exact h),List.getElem?_map,List.getElem?_range h];rfl
theorem y7s {k m t:Nat}(h:t<m):(J5 k m).getD (k+t) []=Q3 (q7k k) k t:=by
 unfold J5 z5g
 rw[List.getD_eq_getElem?_getD,List.getElem?_append_right (by rw[List.length_map,List.length_range];omega),List.length_map,List.length_range,Nat.add_sub_cancel_left,List.getElem?_map,List.getElem?_range h];rfl
theorem u1h (i j:Nat):idA i j=if i=j then 1 else 0:=by
 unfold idA
 by_cases e:i=j
 ·rw[if_pos e,e,show ((j:Int)==(j:Int))=true from beq_self_eq_true _]
 ·rw[if_neg e,show ((i:Int)==(j:Int))=false from beq_eq_false_iff_ne.mpr (by omega)]
theorem w0v {k m i:Nat}(h:i<k)(x:Nat→UInt8):q1w ((J5 k m).getD i []) x k=x i:=by
 rw[w4m h,z2e x (i:=i) fun j hj=>by rw[w0u _ hj,u1h],if_pos h]
theorem x5p {S:List y7}{k m:Nat}(h:(X5 S k (k+m)).length=k):(byB S k m).length=k:=by unfold byB;rw[List.length_map,h]
theorem w6n {S:List y7}{k m:Nat}:∀ s∈byB S k m,s.length=k:=fun s hs=>by
 unfold byB at hs
 rw[List.mem_map]at hs
 obtain⟨i,hi,rfl⟩:=hs
 have hi:=(q3p S k (k+m) i hi).1
 rw[List.getD_eq_getElem?_getD,List.getElem?_eq_getElem (by rw[y0g];exact hi)]
 exact x1s _ (List.getElem_mem _)
theorem x1v {S:List y7}{k m:Nat}(hkm:k+m≤256)(hg:(X5 S k (k+m)).length=k)(x:Nat→UInt8)(hz:z0p k (fun i=>(byB S k m).getD i []) x):∀ j,j<k→x j=0:=by
 have hz:∀ i∈X5 S k (k+m),q1w ((J5 k m).getD i []) x k=0:=fun i hi=>by
  obtain⟨t,ht,rfl⟩:=List.getElem_of_mem hi
  have:=hz t (by omega)
  have e:(byB S k m).getD t []=(J5 k m).getD (X5 S k (k+m))[t] []:=by
   unfold byB
   rw[List.getD_eq_getElem?_getD,List.getElem?_map,List.getElem?_eq_getElem ht];rfl
  have this:q1w ((byB S k m).getD t []) x k=0:=this
  rw[e]at this
  exact this
 have hx0:∀ j∈X5 S k k,x j=0:=fun j hj=>by
  have:=hz j (z7x S k k j hj m)
  rwa [w0v (q3p S k k j hj).1]at this
 have hA:=y7r S k k m hkm
 have hB:=y7q S k k (by omega)
 have hl:((q9j S k k).map UInt8.ofNat).length≤((z2f S k k m).map UInt8.ofNat).length:=by
  have h1:=w0s S k k
  have h2:=w0t S k k m
  rw[List.length_map,List.length_map]
  omega
 have hd:∀ a∈(z2f S k k m).map UInt8.ofNat,∀ b∈(q9j S k k).map UInt8.ofNat,a≠b:=fun a ha b hb e=>by
  rw[List.mem_map]at ha hb
  obtain⟨i,hi,rfl⟩:=ha
  obtain⟨j,hj,rfl⟩:=hb
  obtain⟨_,h1,h2⟩:=z2g S k k i m hi
  have h3:=y3n S k j k hj
  have:=y0h (by omega) (by omega) e
  omega
 have hc:=w0r _ _ (fun b=>x b.toNat) hA hB hd hl fun a ha=>by
  rw[List.mem_map]at ha
  obtain⟨i,hi,rfl⟩:=ha
  obtain⟨h0,h1,h2⟩:=z2g S k k i m hi
  have:=hz i h0
  obtain⟨t,rfl⟩:∃ t,i=k+t:=⟨i - k,by omega⟩
  rw[y7s (by omega),w6m S k _ x (UInt8.ofNat (k+t)) k (by omega) (fun j hj=>by rw[w0u _ hj];rfl) hx0]at this
  exact this
 intro j hj
 rcases x5n S k j k hj with h|h
 ·exact hx0 j h
 ·have:=hc (UInt8.ofNat j) (List.mem_map_of_mem h)
  rwa [show (UInt8.ofNat j).toNat=j by rw[UInt8.toNat_ofNat',Nat.mod_eq_of_lt (by omega)]]at this
theorem u7z {S:List y7}{k m:Nat}(hkm:k+m≤256)(hg:(X5 S k (k+m)).length=k):y0d k (byB S k m)=true:=v8m (x5p hg) w6n (x1v hkm hg)
theorem y7t {a:y7}{B:List y7}{c p:Nat}(hB:∀ s∈B,s.length=c)(hp:p<c):∀ n,n≤B.length→(v9 a B c n).getD p 0=q1w a (fun j=>(B.getD j []).getD p 0) n
 |0,_=>by
  show (List.replicate c (0:UInt8)).getD p 0=0
  rw[List.getD_eq_getElem?_getD,List.getElem?_replicate,if_pos hp];rfl
 |n+1,hn=>by
  have hl:(B.getD n []).length=c:=by
   rw[List.getD_eq_getElem?_getD,List.getElem?_eq_getElem (by omega)]
   exact hB _ (List.getElem_mem _)
  show (Y7 (v9 a B c n) (B.getD n []) (a.getD n 0)).getD p 0=_
  rw[y7k _ (by rw[Z4 a hB (by omega),hl]),y7t hB hp n (by omega)];rfl
theorem v5v {a b:y7}(h:a.length=b.length)(hg:∀ p,p<a.length→a.getD p 0=b.getD p 0):a=b:=by
 refine List.ext_getElem h fun p h1 h2=>?_
 have:=hg p h1
 rwa [List.getD_eq_getElem?_getD,List.getD_eq_getElem?_getD,List.getElem?_eq_getElem h1,List.getElem?_eq_getElem h2]at this
theorem v5w {S:List y7}{k m c:Nat}(hkm:k+m≤256)(hS:∀ i∈X5 S k (k+m),(S.getD i []).length=c)(hg:(X5 S k (k+m)).length=k){data:List y7}(hd:data.length=k)(hc:∀ s∈data,s.length=c)
 (h:∀ i∈X5 S k (k+m),∀ p,p<c→(S.getD i []).getD p 0=q1w ((J5 k m).getD i []) (fun j=>(data.getD j []).getD p 0) k):q5s S k m c=data:=by
 have hbl:=x5p (S:=S) (m:=m) hg
 have hol:(ofB S k m).length=k:=by unfold ofB;rw[List.length_map,hg]
 have hor:∀ s∈ofB S k m,s.length=c:=fun s hs=>by
  unfold ofB at hs
  rw[List.mem_map]at hs
  obtain⟨i,hi,rfl⟩:=hs
  exact hS i hi
 have hil:(y0f (byB S k m)).length=k:=(y7j _).trans hbl
 unfold q5s
 refine List.ext_getElem (by rw[List.length_map,hil,hd]) fun i h1 h2=>?_
 rw[List.getElem_map]
 have hi:i<k:=by omega
 refine v5v (by rw[Z4 _ hor (by omega),hc _ (List.getElem_mem _)]) fun p hp=>?_
 rw[Z4 _ hor (by omega)]at hp
 rw[y7t hor hp k (by omega)]
 have hrow:(y0f (byB S k m))[i]'(by omega)=(gs k (byB S k m) k).2 i:=by
  simp only[q9f hbl,List.getElem_map,List.getElem_range]
 rw[hrow,v0g hbl w6n (x1v hkm hg) (fun j=>(data.getD j []).getD p 0) _ (fun t ht=>?_) i hi]
 ·show (data.getD i []).getD p 0=_
  rw[List.getD_eq_getElem?_getD (l:=data),List.getElem?_eq_getElem h2];rfl
 ·have hg2:t<(X5 S k (k+m)).length:=by omega
  have:=h _ (List.getElem_mem hg2) p hp
  have e1:(byB S k m).getD t []=(J5 k m).getD (X5 S k (k+m))[t] []:=by
   unfold byB
   rw[List.getD_eq_getElem?_getD,List.getElem?_map,List.getElem?_eq_getElem hg2];rfl
  have e2:(ofB S k m).getD t []=S.getD (X5 S k (k+m))[t] []:=by
   unfold ofB
   rw[List.getD_eq_getElem?_getD,List.getElem?_map,List.getElem?_eq_getElem hg2];rfl
  rw[e1,e2]
  exact this.symm
theorem z2h (data:List y7)(m c:Nat):(q7f data m c).length=m:=by unfold q7f;rw[List.length_map,q9g]
theorem v0h {data:List y7}{k m c i p:Nat}(hd:data.length=k)(hc:∀ s∈data,s.length=c)(hi:i<k+m)(hp:p<c):((data++q7f data m c).getD i []).getD p 0=q1w ((J5 k m).getD i []) (fun j=>(data.getD j []).getD p 0) k:=by
 by_cases h:i<k
 ·rw[w0v h,List.getD_eq_getElem?_getD (l:=data++_),List.getElem?_append_left (by omega),← List.getD_eq_getElem?_getD]
 ·obtain⟨t,rfl⟩:∃ t,i=k+t:=⟨i - k,by omega⟩
  rw[y7s (by omega),List.getD_eq_getElem?_getD (l:=data++_),List.getElem?_append_right (by omega),hd,Nat.add_sub_cancel_left]
  unfold q7f z5g
  rw[List.getElem?_map,List.getElem?_map,List.getElem?_range (by omega)]
  show (v9 (Q3 (q7k data.length) data.length t) data c data.length).getD p 0=_
  rw[y7t hc hp _ (Nat.le_refl _),hd]
theorem v0i {S:List y7}{k m c:Nat}(hkm:k+m≤256)(_hc0:0<c){data:List y7}(hd:data.length=k)(hc:∀ s∈data,s.length=c)
 (hS:∀ i,i<k+m→0<(S.getD i []).length→S.getD i []=(data++q7f data m c).getD i []) (hg:¬ (X5 S k (k+m)).length<k):q8p S k m c=(data++q7f data m c,0):=by
 have hg2:=(q9i S k (k+m)).2
 have hdat:q5s S k m c=data:=by
  have hl:∀ i,i<k+m→((data++q7f data m c).getD i []).length=c:=fun i hi=>by
   rw[List.getD_eq_getElem?_getD,List.getElem?_eq_getElem (by rw[List.length_append,z2h];omega)]
   have hm:=List.getElem_mem (l:=data++q7f data m c) (n:=i) (by rw[List.length_append,z2h];omega)
   rcases List.mem_append.mp hm with h|h
   ·exact hc _ h
   ·have h':_∈(z5g data.length m).map fun a=>v9 a data c data.length:=h
    rw[List.mem_map]at h'
    obtain⟨a,_,e⟩:=h'
    show List.length (_) =c
    exact e ▸ Z4 a hc (Nat.le_refl _)
  refine v5w hkm (fun i hi=>?_) (by omega) hd hc fun i hi p hp=>?_
  ·obtain⟨h1,h2⟩:=q3p S k (k+m) i hi
   rw[hS i h1 h2];exact hl i h1
  ·obtain⟨h1,h2⟩:=q3p S k (k+m) i hi
   rw[hS i h1 h2];exact v0h hd hc h1 hp
 unfold q8p
 rw[decide_eq_false hg,hdat]
end Go.Proofs.YtinfbclgkghgaaaGreat.AL
namespace Go.Proofs.YtinfbclgkghgaaaGreat.AL
open Go Go.Proofs
theorem W9 {g:GeoV}(h:g.may=true):g.fits=true:=by unfold GeoV.may at h;rw[Bool.and_eq_true]at h;exact h.1
def GeoV.groups (g:GeoV):Int:=match g.may with|true=>1+g.w+2*g.s|false=>0
theorem w0w (g:GeoV)(h:g.fits=true):AF Tryz.prog z1r [g.av] [] (Q0 (i64 (1+g.w+2*g.s)) []):=by
 obtain⟨h1,h2,h3,h4,h5,h6,h7,h8⟩:=V0 h
 refine u9 hT y5g rfl rfl y5h rfl ?_
 refine q8 (q7 hT ?_)
 refine Q8 (Q6 0 g.pv rfl rfl) ?_
 refine q8 (q7 hT ?_)
 refine x6 ?_
 rw[show i64 (1+g.w+2*g.s)=i64 (IntKind.i64.wrap (IntKind.i64.wrap (1+g.w)+IntKind.i64.wrap (2*g.s))) by
  rw[x9 (1+g.w) (by omega) (by omega),x9 (2*g.s) (by omega) (by omega),x9 _ (by omega) (by omega)]]
 exact y9 [] ⟨rfl,rfl⟩ rfl
theorem w4n (g:GeoV):AF Tryz.prog x4i [g.av] [] (Q0 (i64 g.groups) []):=by
 have wo:AF Tryz.prog x8d [g.av,.clo (.func z1r) []] [] (Q0 (i64 g.groups) []):=by
  refine u9 hT x8e rfl rfl x8f rfl ?_
  refine q8 (q7 hT ?_)
  refine Q8 (Q6 0 g.pv rfl rfl) ?_
  unfold GeoV.groups
  refine q8 (q8 (q7 hT ?_))
  refine x8 (u5 (x5e g) _ rfl rfl) ?_
  refine z6 (x7 (fun h=>?_) (fun h=>?_))
  ·have h:(!g.may)=true:=h
   rw[Bool.not_eq_true']at h
   rw[h]
   refine q8 (q7 hT ?_)
   refine x6 ?_
   exact y9 [] ⟨rfl,rfl⟩ rfl
  ·have h:(!g.may)=false:=h
   rw[Bool.not_eq_false']at h
   rw[h]
   have hf:=W9 h
   refine z9 ?_
   refine q8 (q7 hT ?_)
   refine x8 (u5 (w0w g hf) _ rfl rfl) ?_
   refine x6 ?_
   exact y9 [] ⟨rfl,rfl⟩ rfl
 refine u9 hT x4j rfl rfl x4k rfl ?_
 refine q8 (q7 hT ?_)
 refine Q8 (Q6 0 g.pv rfl rfl) ?_
 refine q8 (q7 hT ?_)
 refine x8 (u5 wo _ rfl rfl) ?_
 refine x6 ?_
 exact y9 [] ⟨rfl,rfl⟩ rfl
def z2i (first:Int)(n k:Nat):List (List PV):=(List.range n).map fun j=>([.raw (.int .i64 (if j<k then first+j else 0))]:List PV)
theorem z7y (first:Int)(n k:Nat):(z2i first n k).length=n:=by unfold z2i;rw[List.length_map,List.length_range]
theorem q9k {first:Int}{n k j:Nat}(h:j<n):(z2i first n k)[j]?=some [.raw (.int .i64 (if j<k then first+j else 0))]:=by
 unfold z2i;rw[List.getElem?_map,List.getElem?_range h];rfl
theorem v5x {first:Int}{n k:Nat}(h:k<n):(z2i first n k).set k [.raw (.int .i64 (first+k))]=z2i first n (k+1):=by
 refine List.ext_getElem? fun j=>?_
 rw[List.getElem?_set]
 by_cases hj:j<n
 ·rw[z7y]
  by_cases e:k=j
  ·subst e
   rw[if_pos rfl,if_pos h,q9k h,if_pos (by omega)]
  ·rw[if_neg e,q9k hj,q9k hj]
   by_cases h2:j<k
   ·rw[if_pos h2,if_pos (by omega)]
   ·rw[if_neg h2,if_neg (by omega)]
 ·rw[if_neg (by omega),List.getElem?_eq_none (by rw[z7y];omega),List.getElem?_eq_none (by rw[z7y];omega)]
theorem v0j (first:Int)(n:Nat):z2i first n 0=List.replicate n [.raw (.int .i64 0)]:=by
 refine List.ext_getElem? fun j=>?_
 rw[List.getElem?_replicate]
 by_cases hj:j<n
 ·rw[q9k hj,if_neg (by omega),if_pos hj]
 ·rw[List.getElem?_eq_none (by rw[z7y];omega),if_neg hj]
theorem y9x (first:Int)(j:Nat)(h0:0≤first)(h1:first≤100000)(hj:j≤1000):AF Tryz.prog q1q [i64 j,.p (.box [.raw (.int .i64 first)])] [] (Q0 (i64 (first+j)) []):=by
 refine u9 hT y2b rfl rfl y2c rfl ?_
 refine q8 (q7 hT ?_)
 refine q8 (q7 hT ?_)
 refine x6 ?_
 rw[show i64 (first+j)=i64 (IntKind.i64.wrap (first+j)) by rw[x9 _ (by omega) (by omega)]]
 exact y9 [] ⟨rfl,rfl⟩ rfl
set_option maxHeartbeats 1000000 in
set_option maxRecDepth 20000 in
theorem v8p (first:Int)(n:Nat)(h0:0≤first)(h1:first≤100000)(n1:1≤n)(n2:n≤1000) :
 AF Tryz.prog w8a [i64 n,.clo (.func q1q) [.p (.box [.raw (.int .i64 first)])]] [] (Q0 (.msl 0 1 0 n) [.row q0m 1 (z2i first n n)]):=by
 have hz:=v0j first n
 have w:=fun j hj=>y9x first j h0 h1 hj
 refine u9 hT w8b rfl rfl w8c rfl ?_
 refine q8 (q7 hT ?_)
 refine w6 (fun st=>∃ X,X=z2i first n 0∧st=⟨⟨22,[(1,.clo (.func q1q) [.p (.box [.raw (.int .i64 first)])]),(5,.msl 0 1 0 n)]⟩,[.row q0m 1 X]⟩) (q7 hT ?_) ?_
 ·refine⟨⟨rfl,by omega,⟨by show (n:Int)*8≤_;omega,by omega⟩⟩,?_⟩
  exact⟨_,q9 [0] [1,5] rfl,_,hz.symm,rfl⟩
 rintro _ ⟨X,hX,rfl⟩
 refine w6 (fun st=>∃ X,X=z2i first n n∧st=⟨⟨22,[(5,.msl 0 1 0 n)]⟩,[.row q0m 1 X]⟩) (q8 (q7 hT ?_)) ?_
 ·refine z7 ?_
  refine w7 (fun m s=>∃ (k:Nat) (j:Int) (X:_),m+k=n∧j=k∧X=z2i first n k∧s=⟨⟨22,[(1,.clo (.func q1q) [.p (.box [.raw (.int .i64 first)])]),(5,.msl 0 1 0 n),(10,i64 n),(11,i64 j)]⟩,[.row q0m 1 X]⟩) n ⟨⟨22,_⟩,_⟩ (q9 [0] [1,5,10,11] rfl) ⟨0,0,X,by omega,rfl,hX,rfl⟩ ?_
  clear hz
  rintro m s ⟨k,j,X,hmk,hj,hX,rfl⟩
  refine q8 (q7 hT ?_)
  refine q8 (z6 (x7 (fun h=>?_) (fun h=>?_)))
  ·have h:=of_decide_eq_true (show decide (j<(n:Int))=true from h)
   have hk:k<n:=by omega
   refine z9 ?_
   have w:=w k (by omega)
   rw[← hj]at w
   have hgx:X[0+j.toNat]?=some [.raw (.int .i64 0)]:=by
    rw[show 0+j.toNat=k by omega,hX,q9k hk,if_neg (by omega)]
   have hset:X.set (0+j.toNat) [.raw (.int .i64 (first+j))]=z2i first n (k+1):=by
    rw[show 0+j.toNat=k by omega,hX,hj];exact v5x hk
   generalize first+j=v at w hset
   refine w6 (fun st=>∃ X,X=z2i first n (k+1)∧st=⟨⟨22,[(1,.clo (.func q1q) [.p (.box [.raw (.int .i64 first)])]),(5,.msl 0 1 0 n),(10,i64 n),(11,i64 j)]⟩,[.row q0m 1 X]⟩) (z7 ?_) ?_
   ·refine q8 (q7 hT ?_)
    refine q7 hT ?_
    refine x8 (u5 w _ rfl rfl) ?_
    refine⟨⟨by omega,by omega⟩,?_⟩
    refine u7 hgx ?_
    exact⟨_,q9 [0] [1,5,10,11] rfl,_,hset,rfl⟩
   ·rintro _ ⟨X,rfl,rfl⟩
    refine q7 hT ?_
    exact⟨m - 1,by omega,_,q9 [0] [1,5,10,11] rfl,k+1,IntKind.i64.wrap (j+1),_,by omega,by rw[x9 _ (by omega) (by omega)];omega,rfl,rfl⟩
  ·have h:=of_decide_eq_false (show decide (j<(n:Int))=false from h)
   rw[show k=n by omega]at hX
   refine u0 ?_
   exact⟨_,q9 [0] [5] rfl,_,hX,rfl⟩
 rintro _ ⟨X,rfl,rfl⟩
 refine q8 (q7 hT ?_)
 refine x6 ?_
 exact y9 [0] ⟨rfl,rfl⟩ rfl
def GeoV.at_ (g:GeoV)(area stripe:Int):Int:=4+2*g.w+(area*g.s+stripe)*(g.k+g.m)
set_option maxHeartbeats 1000000 in
set_option maxRecDepth 20000 in
theorem w0x (g:GeoV)(t:Int)(hg:g.may=true)(t0:0≤t)(t1:t<2*g.s)(n:Nat)(hn:g.k+g.m=n)(first:Int)(hf:4+2*g.w+t*(g.k+g.m)=first) :
 AF Tryz.prog y8x [g.av,i64 (1+g.w+t)] [] (Q0 (.msl 0 1 0 n) [.row q0m 1 (z2i first n n)]):=by
 obtain⟨h1,h2,h3,h4,h5,h6,h7,h8⟩:=V0 (W9 hg)
 have hm:=Int.mul_le_mul (show t≤64 by omega) (show g.k+g.m≤24 by omega) (by omega) (by omega)
 have hm0:0≤t*(g.k+g.m):=Int.mul_nonneg t0 (by omega)
 obtain⟨i,hi⟩:∃ i,i=1+g.w+t:=⟨_,rfl⟩
 rw[← hi]
 have wg:=w4n g
 rw[show g.groups=1+g.w+2*g.s by unfold GeoV.groups;rw[hg]]at wg
 have wr:=v8p first n (by omega) (by omega) (by omega) (by omega)
 have wl:AF Tryz.prog z6w [g.av] [] (Q0 (i64 (4+2*g.w)) []):=by
  refine u9 hT z6x rfl rfl z6y rfl ?_
  refine q8 (q7 hT ?_)
  refine Q8 (Q6 0 g.pv rfl rfl) ?_
  refine q8 (q7 hT ?_)
  refine x6 ?_
  rw[show i64 (4+2*g.w)=i64 (IntKind.i64.wrap (4+IntKind.i64.wrap (2*g.w))) by rw[x9 (2*g.w) (by omega) (by omega),x9 _ (by omega) (by omega)]]
  exact y9 [] ⟨rfl,rfl⟩ rfl
 have ww:AF Tryz.prog y4y [g.av] [] (Q0 (i64 n) []):=by
  refine u9 hT y4z rfl rfl y5a rfl ?_
  refine q8 (q7 hT ?_)
  refine Q8 (Q6 0 g.pv rfl rfl) ?_
  refine q8 (q7 hT ?_)
  refine x6 ?_
  rw[show i64 n=i64 (IntKind.i64.wrap (g.k+g.m)) by rw[x9 _ (by omega) (by omega),hn]]
  exact y9 [] ⟨rfl,rfl⟩ rfl
 refine u9 hT y8y rfl rfl y8z rfl ?_
 refine q8 (q7 hT ?_)
 refine y8 ⟨⟨41,[(2,.p (.box g.pv)),(3,.p (.box [.raw (.int .i64 i)]))]⟩,[]⟩ True (z7 ?_) (fun _=>?_)
 ·refine Q8 (Q6 0 g.pv rfl rfl) ?_
  refine Q8 (Q6 1 [.raw (.int .i64 i)] rfl rfl) ?_
  refine q8 ?_
  refine w9 [] [] hT z8 (by rfl) ?_
  refine x7 (fun h=>?_) (fun h=>?_)
  ·have h:=of_decide_eq_true (show decide (i<0)=true from h)
   omega
  refine⟨_,u5 wg _ rfl rfl,?_⟩
  refine z6 (x7 (fun h=>?_) (fun h=>?_))
  ·have h:=of_decide_eq_true (show decide (i≥1+g.w+2*g.s)=true from h)
   omega
  refine q8 (q7 hT ?_)
  refine z6 (x7 (fun h=>?_) (fun h=>?_))
  ·have h:(i==0)=true:=h
   rw[beq_iff_eq]at h
   omega
  refine q8 (q7 hT ?_)
  refine z6 (x7 (fun h=>?_) (fun h=>?_))
  ·have h:=of_decide_eq_true (show decide (i≤g.w)=true from h)
   omega
  exact z9 ⟨q9 [] [2,3] rfl,trivial⟩
 refine w6 (fun st=>∃ x,x=first∧st=⟨⟨41,[(2,.p (.box g.pv)),(5,.p (.box [.raw (.int .i64 x)]))]⟩,[]⟩) ?_ ?_
 ·refine w9 [11,12] [] hT z8 (by rfl) ?_
  refine⟨_,u5 wl _ rfl rfl,?_⟩
  refine⟨_,u5 ww _ rfl rfl,?_⟩
  repeat first|refine⟨rfl,?_⟩|refine⟨⟨_,u5 wl _ rfl rfl,rfl⟩,?_⟩|refine⟨⟨_,u5 ww _ rfl rfl,rfl⟩,?_⟩
  refine⟨_,Wk.trans (Q6 0 [.raw (.int .i64 _)] rfl rfl) (q9 [] [2,5] rfl),_,?_,rfl⟩
  rw[x9 (i - 1) (by omega) (by omega),x9 (i - 1 - g.w) (by omega) (by omega),show i - 1 - g.w=t by omega,← hn,x9 (t*(g.k+g.m)) (by omega) (by omega),x9 _ (by omega) (by omega)]
  exact hf
 rintro _ ⟨x,rfl,rfl⟩
 refine q8 (q7 hT ?_)
 refine x8 (u5 ww _ rfl rfl) ?_
 refine x8 (q1t wr _ rfl) ?_
 refine x6 ?_
 exact y9 [0] ⟨rfl,rfl⟩ rfl
def V1 (g:GeoV)(area stripe:Int):Int × Int:=match g.may&&inR area 0 1&&(inR stripe 0 31&&decide (stripe<g.s)) with
 |true=>(g.at_ area stripe,0)
 |false=>(0,1)
def X9 (g:GeoV)(area stripe:Int):Prop:=g.may=true∧0≤area∧area≤1∧0≤stripe∧stripe<g.s
theorem q0t {g:GeoV}{area stripe:Int}(h:X9 g area stripe):V1 g area stripe=(g.at_ area stripe,0):=by
 obtain⟨h1,h2,h3,h4,h5⟩:=h
 obtain⟨_,_,_,h6,_⟩:=V0 (W9 h1)
 unfold V1 inR
 rw[h1,decide_eq_true (show area≥0 from h2),decide_eq_true (show area≤1 from h3),decide_eq_true (show stripe≥0 from h4),decide_eq_true (show stripe≤31 by omega),decide_eq_true h5];rfl
theorem q4g {g:GeoV}{area stripe:Int}(h:¬ X9 g area stripe):V1 g area stripe=(0,1):=by
 unfold V1
 cases e:g.may&&inR area 0 1&&(inR stripe 0 31&&decide (stripe<g.s)) with
 |false=>rfl
 |true=>
  unfold inR at e
  simp only[Bool.and_eq_true,decide_eq_true_eq]at e
  exact absurd ⟨e.1.1,e.1.2.1,e.1.2.2,e.2.1.1,e.2.2⟩ h
set_option maxHeartbeats 1000000 in
set_option maxRecDepth 20000 in
theorem q3f (g:GeoV)(area stripe:Int):AF Tryz.prog x3x [g.av,i64 area,i64 stripe] [] (Q0 (.tup [i64 (V1 g area stripe).1,i64 (V1 g area stripe).2]) []):=by
 refine AF.mono (R:=fun r H'=>∃ z,z=V1 g area stripe∧r=.tup [i64 z.1,i64 z.2]∧H'=[]) ?_ (by rintro r H' ⟨z,rfl,rfl,rfl⟩;exact⟨rfl,rfl⟩)
 have wm:=x5e g
 refine u9 hT x3y rfl rfl x3z rfl ?_
 refine q8 (q7 hT ?_)
 refine y8 ⟨⟨43,[(1,i64 area),(2,i64 stripe),(3,.p (.box g.pv))]⟩,[]⟩ (X9 g area stripe) ?_ (fun hok=>?_)
 ·refine Q8 (Q6 0 g.pv rfl rfl) ?_
  refine w6 (fun st=>∃ b,(b=true→¬ X9 g area stripe)∧(b=false→X9 g area stripe)∧st=⟨⟨43,[(1,i64 area),(2,i64 stripe),(3,.p (.box g.pv)),(28,bl b)]⟩,[]⟩) (q7 hT ?_) ?_
  ·refine x8 (u5 wm _ rfl rfl) ?_
   unfold X9
   refine x7 (fun h=>?_) (fun h=>?_)
   ·have h:(!g.may)=true:=h
    rw[Bool.not_eq_true']at h
    exact⟨_,q9 [] [1,2,3,28] rfl,true,fun _ e=>(by rw[h]at e;exact absurd e.1 (by decide)),fun e=>(by cases e),rfl⟩
   have h0:g.may=true:=by
    have h:(!g.may)=false:=h
    rwa [Bool.not_eq_false']at h
   refine x7 (fun h=>?_) (fun h=>?_)
   ·have h1:=of_decide_eq_true (show decide (area<0)=true from h)
    exact⟨_,q9 [] [1,2,3,28] rfl,true,fun _ e=>by omega,fun e=>(by cases e),rfl⟩
   have h1:=of_decide_eq_false (show decide (area<0)=false from h)
   refine x7 (fun h=>?_) (fun h=>?_)
   ·have h2:=of_decide_eq_true (show decide (area≥2)=true from h)
    exact⟨_,q9 [] [1,2,3,28] rfl,true,fun _ e=>by omega,fun e=>(by cases e),rfl⟩
   have h2:=of_decide_eq_false (show decide (area≥2)=false from h)
   refine x7 (fun h=>?_) (fun h=>?_)
   ·have h3:=of_decide_eq_true (show decide (stripe<0)=true from h)
    exact⟨_,q9 [] [1,2,3,28] rfl,true,fun _ e=>by omega,fun e=>(by cases e),rfl⟩
   have h3:=of_decide_eq_false (show decide (stripe<0)=false from h)
   refine⟨_,q9 [] [1,2,3,28] rfl,decide (stripe≥g.s),fun e=>?_,fun e=>?_,rfl⟩
   ·have:=of_decide_eq_true e
    omega
   ·have:=of_decide_eq_false e
    exact⟨h0,by omega,by omega,by omega,by omega⟩
  ·rintro _ ⟨b,hb1,hb2,rfl⟩
   refine z6 (x7 (fun h=>?_) (fun h=>?_))
   ·refine q8 (q7 hT ?_)
    refine x6 ?_
    exact y9 [] ⟨(0,1),(q4g (hb1 h)).symm,rfl,rfl⟩ rfl
   ·exact z9 ⟨q9 [] [1,2,3] rfl,hb2 h⟩
 have hz:=q0t hok
 obtain⟨hm,a0,a1,s0,s1⟩:=hok
 obtain⟨h1,h2,h3,h4,h5,h6,h7,h8⟩:=V0 (W9 hm)
 obtain⟨n,hn⟩:∃ n:Nat,g.k+g.m=n:=⟨(g.k+g.m).toNat,by omega⟩
 have e1:0≤area*g.s∧area*g.s≤g.s:=by
  rcases (show area=0∨area=1 by omega) with rfl|rfl <;> omega
 obtain⟨t,ht⟩:∃ t,t=area*g.s+stripe:=⟨_,rfl⟩
 have wM:=w0x g t hm (by omega) (by omega) n hn _ rfl
 have hfst:g.at_ area stripe=4+2*g.w+t*(g.k+g.m):=by unfold GeoV.at_;rw[ht]
 rw[hfst]at hz
 generalize 4+2*g.w+t*(g.k+g.m)=first at *
 have hg0:(z2i first n n)[((0:Nat):Int).toNat]?=some [.raw (.int .i64 first)]:=by
  show (z2i first n n)[0]?=_
  rw[q9k (by omega),if_pos (by omega)]
  simp
 generalize z2i first n n=R at *
 have hwr:IntKind.i64.wrap (IntKind.i64.wrap (IntKind.i64.wrap (1+g.w)+IntKind.i64.wrap (area*g.s))+stripe)=1+g.w+t:=by
  rw[x9 (1+g.w) (by omega) (by omega),x9 (area*g.s) (by omega) (by omega),x9 (1+g.w+area*g.s) (by omega) (by omega),x9 _ (by omega) (by omega)]
  omega
 rw[← hwr]at wM
 refine q8 (q7 hT ?_)
 refine x8 (q1t wM _ rfl) ?_
 refine⟨⟨by omega,by omega⟩,?_⟩
 refine u7 hg0 ?_
 refine x6 ?_
 exact y9 [] ⟨(first,0),hz.symm,rfl,rfl⟩ rfl
def V6 (l:List Int):Bool:=l.all fun n=>decide (0≤n)&&decide (n≤4294967295)
def y7u (l:List Int):List (List PV):=l.map fun n=>([.raw (.int .i64 n)]:List PV)
theorem v5y (l:List Int):(y7u l).length=l.length:=List.length_map _
theorem v5z {l:List Int}{i:Nat}{n:Int}(h:l[i]?=some n):(y7u l)[i]?=some [.raw (.int .i64 n)]:=by rw[y7u,List.getElem?_map,h];rfl
set_option maxHeartbeats 1000000 in
set_option maxRecDepth 20000 in
theorem z3p (l:List Int)(hl:l.length≤64):AF Tryz.prog x7r [.p (.sl 1 (y7u l))] [] (Q0 (bl (V6 l)) []):=by
 refine AF.mono (R:=fun r H'=>∃ z,z=V6 l∧r=bl z∧H'=[]) ?_ (by rintro r H' ⟨z,rfl,rfl,rfl⟩;exact⟨rfl,rfl⟩)
 have hxl:=v5y l
 unfold V6
 refine u9 hT x7s rfl rfl x7t rfl ?_
 refine q8 (q7 hT ?_)
 refine y8 ⟨⟨18,[]⟩,[]⟩ (V6 l=true) (q8 (q7 hT ?_)) (fun hw=>?_)
 ·refine z7 ?_
  refine w7 (fun n s=>∃ (k:Nat) (j:Int),n+k=l.length∧j=k∧(∀ i n,i<k→l[i]?=some n→0≤n∧n≤4294967295)∧s=⟨⟨18,[(5,.p (.sl 1 (y7u l))),(6,i64 (y7u l).length),(7,i64 j)]⟩,[]⟩) l.length ⟨⟨18,_⟩,_⟩ (q9 [] [5,6,7] rfl) ⟨0,0,rfl,rfl,fun i n h=>by omega,rfl⟩ ?_
  rintro n s ⟨k,j,hnk,hj,hall,rfl⟩
  refine q8 (q7 hT ?_)
  refine q8 (z6 (x7 (fun h=>?_) (fun h=>?_)))
  ·have h:=of_decide_eq_true (show decide (j<(((y7u l).length:Nat):Int))=true from h)
   have hk:k<l.length:=by omega
   refine z9 ?_
   have hx:=List.getElem?_eq_getElem hk
   have hmem:=List.getElem_mem hk
   generalize l[k]=x at hx hmem
   have hxp:(y7u l)[j.toNat]?=some [.raw (.int .i64 x)]:=by rw[hj,Int.toNat_natCast];exact v5z hx
   refine y8 ⟨⟨18,[(5,.p (.sl 1 (y7u l))),(6,i64 (y7u l).length),(7,i64 j)]⟩,[]⟩ (0≤x∧x≤4294967295) (z7 (q8 (q7 hT ?_))) (fun hxr=>?_)
   ·refine⟨by omega,u7 hxp ?_⟩
    have hno:¬ (0≤x∧x≤4294967295)→∃ z,z=(l.all fun n=>decide (0≤n)&&decide (n≤4294967295))∧bl false=bl z∧([]:List ABlk)=[]:=fun hn=>by
     refine⟨false,?_,rfl,rfl⟩
     refine(List.all_eq_false.mpr ⟨x,hmem,?_⟩).symm
     simp only[Bool.and_eq_true,decide_eq_true_eq]
     exact hn
    refine q8 (q7 hT ?_)
    refine x7 (fun h=>?_) (fun h=>?_)
    ·have h1:=of_decide_eq_true (show decide (x<0)=true from h)
     refine z6 ?_
     refine q8 (q7 hT ?_)
     refine x6 ?_
     exact y9 [] (hno (by omega)) rfl
    have h1:=of_decide_eq_false (show decide (x<0)=false from h)
    refine z6 (x7 (fun h=>?_) (fun h=>?_))
    ·have h2:=of_decide_eq_true (show decide (x > 4294967295)=true from h)
     refine q8 (q7 hT ?_)
     refine x6 ?_
     exact y9 [] (hno (by omega)) rfl
    ·have h2:=of_decide_eq_false (show decide (x > 4294967295)=false from h)
     exact z9 ⟨q9 [] [5,6,7] rfl,by omega,by omega⟩
   ·refine q7 hT ?_
    refine⟨n - 1,by omega,_,q9 [] [5,6,7] rfl,k+1,IntKind.i64.wrap (j+1),by omega,by rw[x9 _ (by omega) (by omega)];omega,fun i n hi hn=>?_,rfl⟩
    by_cases e:i=k
    ·subst e
     rw[hx]at hn
     obtain rfl:=Option.some.inj hn
     exact hxr
    ·exact hall i n (by omega) hn
  ·have h:=of_decide_eq_false (show decide (j<(((y7u l).length:Nat):Int))=false from h)
   refine u0 ?_
   refine⟨q9 [] [] rfl,List.all_eq_true.mpr fun x hx=>?_⟩
   obtain⟨i,hi,rfl⟩:=List.getElem_of_mem hx
   have:=hall i _ (by omega) (List.getElem?_eq_getElem hi)
   rw[decide_eq_true this.1,decide_eq_true this.2];rfl
 refine q8 (q7 hT ?_)
 refine x6 ?_
 exact y9 [] ⟨true,hw.symm,rfl,rfl⟩ rfl
end Go.Proofs.YtinfbclgkghgaaaGreat.AL
namespace Go.Proofs.YtinfbclgkghgaaaGreat.AL
open Go Go.Proofs
def Dev.tryK:Nat→Dev→Int→y7→Int × Dev
 |0,D,_,_=>(22,D)
 |n+1,D,a,s=>match (D.once a s).1.2 != 0 with
  |true=>((D.once a s).1.2,(D.once a s).2)
  |false=>match (D.once a s).1.1 with
   |true=>(0,(D.once a s).2)
   |false=>Dev.tryK n (D.once a s).2 a s
def Dev.one (D:Dev)(a:Int)(s:y7):Int × Dev:=Dev.tryK 4 D a s
def x5q (e m:Int):Int:=match e==0 with|true=>IntKind.i64.wrap (m+1)|false=>m
theorem y3p {D:Dev}{b:Nat}(h:D.Ok b)(a:Int)(s:y7):(D.once a s).2.Ok (b+1):=by
 unfold Dev.once
 split
 ·exact h.write a s
 split
 ·exact(h.write a s).flush
 ·unfold Dev.hhas
  split
  ·exact(h.write a s).flush.read a
  ·exact(h.write a s).flush.read a
theorem w6p:∀ (n:Nat) {D:Dev} {b:Nat},D.Ok b→∀ (a:Int) (s:y7),(Dev.tryK n D a s).2.Ok (b+n)
 |0,D,b,h,a,s=>h
 |n+1,D,b,h,a,s=>by
  unfold Dev.tryK
  split
  ·exact(y3p h a s).mono (by omega)
  split
  ·exact(y3p h a s).mono (by omega)
  ·rw[show b+(n+1)=b+1+n by omega]
   exact w6p n (y3p h a s) a s
theorem v8q {D:Dev}{b:Nat}(h:D.Ok b)(a:Int)(s:y7):(D.one a s).2.Ok (b+4):=w6p 4 h a s
theorem v6a {D:Dev}{a:Int}{s:y7}(h:(D.once a s).1.1=true):(D.once a s).1.2=0:=by
 unfold Dev.once at h ⊢
 split at h
 ·simp at h
 split at h
 ·simp at h
 ·unfold Dev.hhas at h ⊢
  split at h
  ·simp at h
  ·have h:((((D.write a s).2.flush.2.read a).1.2==0)&&_)=true:=h
   rw[Bool.and_eq_true]at h
   have:=h.1
   simpa using this
theorem v6b (D:Dev)(m a:Int)(s:y7)(b:Nat)(hD:D.Ok b)(hb:b+4<1000000):AFm Tryz.prog 2 z0x [.ref 0 0,w6e a s] (hH D m) (Q0 (i64 (D.one a s).1) (hH (D.one a s).2 (x5q (D.one a s).1 m))):=by
 refine Q9 2 hT y2q rfl rfl y2r rfl rfl ?_
 refine q8 (q7 hT ?_)
 refine Q8 (Q6 4 [.raw (.int .i64 a),bP s] rfl rfl) ?_
 refine w6 (fun s1=>∃ E,D.one a s=(22,E)∧s1=⟨⟨29,[]⟩,hH E m⟩) (q8 (q7 hT ?_)) ?_
 ·refine z7 ?_
  refine w7 (fun n s1=>∃ (i:Nat) (j:Int) (E:Dev),n+i=4∧j=i∧E.Ok (b+i)∧D.one a s=Dev.tryK n E a s∧s1=⟨⟨29,[(0,.ref 0 0),(3,.p (.box [.raw (.int .i64 a),bP s])),(7,i64 j)]⟩,hH E m⟩) 4 ⟨⟨29,_⟩,[_,_,_,_]⟩ (q9 [0,1,2,3] [0,3,7] rfl) ⟨0,0,D,rfl,rfl,hD,rfl,rfl⟩ ?_
  rintro n s1 ⟨i,j,E,hni,rfl,hE,hone,rfl⟩
  refine q8 (q7 hT ?_)
  refine q8 (z6 (x7 (fun h=>?_) (fun h=>?_)))
  ·have hi:i<4:=by
    have:=of_decide_eq_true (show decide ((i:Int)<4)=true from h)
    omega
   obtain⟨n,rfl⟩:∃ k,n=k+1:=⟨n - 1,by omega⟩
   have w:=w9e E m a s (b+i) hE (by omega)
   have ok:=y3p hE a s
   have herr:=@v6a E a s
   unfold Dev.tryK at hone
   generalize E.once a s=Y at w ok hone herr
   obtain⟨⟨y1,y2⟩,E2⟩:=Y
   refine z9 ?_
   refine y8 ⟨⟨29,[(0,.ref 0 0),(3,.p (.box [.raw (.int .i64 a),bP s])),(7,i64 i)]⟩,hH E2 m⟩ (y2=0∧y1=false) (z7 (q8 (q7 hT ?_))) ?_
   ·refine x8 (Q1 [0,1,2,3] w rfl rfl rfl) ?_
    refine z7 ?_
    refine q8 (q7 hT ?_)
    refine z6 (x7 (fun h1=>?_) (fun h1=>?_))
    ·have h1:(y2 != 0)=true:=h1
     have e:D.one a s=(y2,E2):=by rw[hone];simp only;rw[h1]
     refine q8 (q7 hT ?_)
     refine x6 ?_
     rw[e]
     have hm:x5q y2 m=m:=by unfold x5q;rw[show (y2==0)=false by simpa using h1]
     rw[hm]
     exact y9 [0,1,4,5] ⟨rfl,rfl⟩ rfl
    ·have h1:(y2 != 0)=false:=h1
     refine q8 (q7 hT ?_)
     refine z6 (x7 (fun h2=>?_) (fun h2=>?_))
     ·have h2:y1=true:=h2
      have e:D.one a s=(0,E2):=by rw[hone];simp only;rw[h1,h2]
      refine q8 (q7 hT ?_)
      refine q8 (q7 hT ?_)
      refine x6 ?_
      rw[e]
      exact y9 [0,1,4,5] ⟨rfl,rfl⟩ rfl
     ·exact z9 ⟨q9 [0,1,4,5] [0,3,7] rfl,by simpa using h1,h2⟩
   ·rintro⟨h1,h2⟩
    have e:D.one a s=Dev.tryK n E2 a s:=by rw[hone];simp only;rw[show (y2 != 0)=false by simpa using h1,h2]
    refine q7 hT ?_
    refine⟨n,by omega,_,q9 [0,1,2,3] [0,3,7] rfl,i+1,IntKind.i64.wrap ((i:Int)+1),E2,by omega,?_,by rw[← Nat.add_assoc];exact ok,e,rfl⟩
    rw[x9 _ (by omega) (by omega)];rfl
  ·have hi:¬ (i:Int)<4:=of_decide_eq_false h
   have hn0:n=0:=by omega
   subst hn0
   refine u0 ?_
   exact⟨_,q9 [0,1,2,3] [] rfl,E,hone,rfl⟩
 ·rintro _ ⟨E,e,rfl⟩
  refine q8 (q7 hT ?_)
  refine x6 ?_
  rw[e]
  exact y9 [0,1,2,3] ⟨rfl,rfl⟩ rfl
end Go.Proofs.YtinfbclgkghgaaaGreat.AL
namespace Go.Proofs.YtinfbclgkghgaaaGreat.AL
open Go Go.Proofs
structure Put9 where
 at_:Int
 s:y7
def Put9.pv (x:Put9):List PV:=[.raw (.int .i64 x.at_),bP x.s]
def px (l:List Put9):List (List PV):=l.map Put9.pv
theorem v6c (l:List Put9):(px l).length=l.length:=by simp[px]
theorem u1i {l:List Put9}{i:Nat}{c:Put9}(h:l[i]?=some c):(px l)[i]?=some c.pv:=by rw[px,List.getElem?_map,h];rfl
def q4m (g:Dev→Int→Int→y7→Int × (Dev × Int)):List Put9→Dev→Int→Int × (Dev × Int)
 |[],D,m=>(0,(D,m))
 |x :: r,D,m=>match (g D m x.at_ x.s).1 != 0 with
  |true=>g D m x.at_ x.s
  |false=>q4m g r (g D m x.at_ x.s).2.1 (g D m x.at_ x.s).2.2
theorem q7h (g:Dev→Int→Int→y7→Int × (Dev × Int))(x:Put9)(r:List Put9)(D:Dev)(m:Int):q4m g (x :: r) D m=match (g D m x.at_ x.s).1 != 0 with
 |true=>g D m x.at_ x.s
 |false=>q4m g r (g D m x.at_ x.s).2.1 (g D m x.at_ x.s).2.2:=rfl
def v9m (f:FuncId)(g:Dev→Int→Int→y7→Int × (Dev × Int)):Prop:=∀ (D:Dev) (m a:Int) (s:y7) (b:Nat),D.Ok b→b+4<1000000 →
 AFm Tryz.prog 2 f [.ref 0 0,w6e a s] (hH D m) (Q0 (i64 (g D m a s).1) (hH (g D m a s).2.1 (g D m a s).2.2))∧(g D m a s).2.1.Ok (b+4)
theorem v0k {f:FuncId}{g:Dev→Int→Int→y7→Int × (Dev × Int)}(hg:v9m f g)(l:List Put9)(D:Dev)(m:Int)(b:Nat)(hD:D.Ok b)(hb:b+4*l.length<1000000) :
 AFm Tryz.prog 2 x8r [.p (.sl 2 (px l)),.mth (.func f) [.ref 0 0]] (hH D m) (Q0 (i64 (q4m g l D m).1) (hH (q4m g l D m).2.1 (q4m g l D m).2.2)):=by
 refine Q9 2 hT x8s rfl rfl x8t rfl rfl ?_
 refine q8 (q7 hT ?_)
 refine w6 (fun s1=>∃ E k,q4m g l D m=(0,(E,k))∧s1=⟨⟨21,[]⟩,hH E k⟩) (q8 (q7 hT ?_)) ?_
 ·refine z7 ?_
  refine w7 (fun n s1=>∃ (i:Nat) (j:Int) (E:Dev) (k:Int),n+i=l.length∧j=i∧E.Ok (b+4*i)∧q4m g l D m=q4m g (l.drop i) E k∧s1=⟨⟨21,[(1,.mth (.func f) [.ref 0 0]),(8,.p (.sl 2 (px l))),(9,i64 l.length),(10,i64 j)]⟩,hH E k⟩) l.length ⟨⟨21,_⟩,[_,_,_,_]⟩ (q9 [0,1,2,3] [1,8,9,10] rfl) ⟨0,0,D,m,rfl,rfl,hD,rfl,by rw[← v6c l];rfl⟩ ?_
  rintro n s1 ⟨i,j,E,k,hni,rfl,hE,he,rfl⟩
  refine q8 (q7 hT ?_)
  refine q8 (z6 (x7 (fun h=>?_) (fun h=>?_)))
  ·have hi:i<l.length:=by
    have:=of_decide_eq_true (show decide ((i:Int)<(l.length:Int))=true from h)
    omega
   have hx:=List.getElem?_eq_getElem hi
   have hdr:l.drop i=l[i] :: l.drop (i+1):=List.drop_eq_getElem_cons hi
   generalize l[i]=x at hx hdr
   have hxp:(px l)[((i:Nat):Int).toNat]?=some x.pv:=by rw[Int.toNat_natCast];exact u1i hx
   obtain⟨w,ok⟩:=hg E k x.at_ x.s (b+4*i) hE (by omega)
   rw[hdr,q7h]at he
   generalize g E k x.at_ x.s=Y at w ok he
   obtain⟨e,E2,k2⟩:=Y
   refine z9 ?_
   refine y8 ⟨⟨21,[(1,.mth (.func f) [.ref 0 0]),(8,.p (.sl 2 (px l))),(9,i64 l.length),(10,i64 i)]⟩,hH E2 k2⟩ (e=0) (z7 (q8 (q7 hT ?_))) ?_
   ·refine⟨Int.natCast_nonneg _,u7 hxp ?_⟩
    refine q8 (q7 hT ?_)
    refine x8 (Q1 [0,1,2,3] w rfl rfl rfl) ?_
    refine q8 (q7 hT ?_)
    refine z6 (x7 (fun h1=>?_) (fun h1=>?_))
    ·have h1:(e != 0)=true:=h1
     have e1:q4m g l D m=(e,(E2,k2)):=by rw[he];simp only;rw[h1]
     refine q8 (q7 hT ?_)
     refine x6 ?_
     rw[e1]
     exact y9 [0,1,5,6] ⟨rfl,rfl⟩ rfl
    ·have h1:(e != 0)=false:=h1
     exact z9 ⟨q9 [0,1,5,6] [1,8,9,10] rfl,by simpa using h1⟩
   ·intro h1
    have e1:q4m g l D m=q4m g (l.drop (i+1)) E2 k2:=by rw[he];simp only;rw[show (e != 0)=false by simpa using h1]
    refine q7 hT ?_
    refine⟨n - 1,by omega,_,q9 [0,1,2,3] [1,8,9,10] rfl,i+1,IntKind.i64.wrap ((i:Int)+1),E2,k2,by omega,?_,by rw[show b+4*(i+1)=b+4*i+4 by omega];exact ok,e1,rfl⟩
    rw[x9 _ (by omega) (by omega)];rfl
  ·have hi:¬ (i:Int)<(l.length:Int):=of_decide_eq_false h
   have hil:i=l.length:=by omega
   subst hil
   rw[List.drop_length]at he
   refine u0 ?_
   exact⟨_,q9 [0,1,2,3] [] rfl,E,k,he,rfl⟩
 ·rintro _ ⟨E,k,e,rfl⟩
  refine q8 (q7 hT ?_)
  refine x6 ?_
  rw[e]
  exact y9 [0,1,2,3] ⟨rfl,rfl⟩ rfl
def y7v (D:Dev)(m a:Int)(s:y7):Int × (Dev × Int):=((D.one a s).1,((D.one a s).2,x5q (D.one a s).1 m))
theorem v0m:v9m z0x y7v:=fun D m a s b hD hb=>⟨v6b D m a s b hD hb,v8q hD a s⟩
def Dev.all9 (D:Dev)(l:List Put9):Int × Dev:=((q4m y7v l D 0).1,(q4m y7v l D 0).2.1)
theorem v6d (D:Dev)(l:List Put9)(b:Nat)(hD:D.Ok b)(hb:b+4*l.length<1000000):AFm Tryz.prog 1 w2v [.ref 0 0,.p (.sl 2 (px l))] (Z5 D) (Q0 (i64 (D.all9 l).1) (Z5 (D.all9 l).2)):=by
 have w:=v0k v0m l D 0 b hD hb
 unfold Dev.all9
 generalize q4m y7v l D 0=Y at w
 obtain⟨e,E,k⟩:=Y
 refine Q9 1 hT w2w rfl rfl w2x rfl rfl ?_
 refine q8 (q7 hT ?_)
 refine q8 (q7 hT ?_)
 refine x8 (Q1 [3,0,1,2] w rfl rfl rfl) ?_
 refine x6 ?_
 exact y9 [0,4,5] ⟨rfl,rfl⟩ rfl
end Go.Proofs.YtinfbclgkghgaaaGreat.AL
namespace Go.Proofs.YtinfbclgkghgaaaGreat.AL
open Go Go.Proofs
theorem x1w {hit:Wr→Bool}:∀ {l:List Wr} {x:Wr},q4k hit l=some x→x∈l
 |[],x,h=>by simp[q4k]at h
 |y :: r,x,h=>by
  unfold q4k at h
  cases h1:q4k hit r with
  |some z=>rw[h1]at h;obtain rfl:=Option.some.inj h;exact List.mem_cons_of_mem _ (x1w h1)
  |none=>
   rw[h1]at h
   cases h2:hit y with
   |true=>rw[h2]at h;obtain rfl:=Option.some.inj h;exact List.mem_cons_self ..
   |false=>rw[h2]at h;simp at h
theorem v0n {D:Dev}{b:Nat}(h:D.Ok b)(a:Int):(D.read a).1.1.length≤256:=by
 unfold Dev.read
 split
 ·exact Nat.zero_le _
 ·split
  ·exact Nat.zero_le _
  ·show (D.readAt a).2.length≤_
   unfold Dev.readAt
   split
   ·rename_i x hx
    exact Nat.le_of_eq (h.ws x (x1w hx))
   ·split
    ·rename_i c hc
     split
     ·exact Nat.zero_le _
     ·exact Nat.le_of_eq (h.cs c (List.mem_of_getElem? hc))
    ·exact Nat.zero_le _
abbrev v8r:List PV:=[.raw (.slice none 0 0)]
theorem x1x (l:List y7)(s:y7):y6 (l++[s])=y6 l++[[bP s]]:=by simp[y6]
end Go.Proofs.YtinfbclgkghgaaaGreat.AL
namespace Go.Proofs.YtinfbclgkghgaaaGreat.AL
open Go Go.Proofs
def q5t (n:Nat)(b:y7):y7:=b++List.replicate (n - b.length) 0
theorem q7i {n:Nat}{b:y7}(h:b.length≤n):(q5t n b).length=n:=by unfold q5t;rw[List.length_append,List.length_replicate];omega
theorem v6e {n:Nat}{b:y7}:W4 (List.replicate n [u8 0]) 0 (bx b)=bx (q5t n b):=by
 have hb:=u6 b
 unfold q5t W4
 rw[q2p,List.take_zero,List.nil_append,List.drop_replicate,Nat.zero_add,hb]
 unfold bx
 rw[List.map_replicate]
def w0y (P:y7)(i:Nat):y7:=(P.drop (228*i)).take 228
def q0g (P:y7)(k s:Nat):List y7:=(List.range k).map fun j=>w0y P (s*k+j)
theorem q3q (P:y7)(k s:Nat):(q0g P k s).length=k:=by unfold q0g;rw[List.length_map,List.length_range]
theorem y1e {P:y7}{k s j:Nat}(h:j<k):(q0g P k s)[j]?=some (w0y P (s*k+j)):=by
 unfold q0g;rw[List.getElem?_map,List.getElem?_range h];rfl
theorem v6f {P:y7}{i:Nat}(h:228*(i+1)≤P.length):(w0y P i).length=228:=by unfold w0y;rw[List.length_take,List.length_drop];omega
theorem q8d {P:y7}{k s:Nat}(h:228*((s+1)*k)≤P.length):∀ x∈q0g P k s,x.length=228:=fun x hx=>by
 unfold q0g at hx
 rw[List.mem_map]at hx
 obtain⟨j,hj,rfl⟩:=hx
 have hj:=List.mem_range.mp hj
 refine v6f (Nat.le_trans (Nat.mul_le_mul_left 228 ?_) h)
 rw[Nat.succ_mul];omega
abbrev u8a (b:Nat)(O:List Put9):ABlk:=.cells q0r [.msl b 2 0 (px O).length]
abbrev shJ (L:ABlk)(x:List Put9 × List ABlk):List ABlk:=.cells q0r [.p (.raw (.slice none 0 0))] :: .cells q0q [i64 0] :: u8a 4 x.1 :: L :: .row q8y 2 (px x.1) :: x.2
abbrev shK (L:ABlk)(O:List Put9):List ABlk:=[.cells q0r [.p (.raw (.slice none 0 0))],.cells q0q [i64 0],u8a 6 O,L,.dead,.dead,.row q8y 2 (px O)]
theorem v0p {q:RecK}{l:List AV}{O O':List Put9}{D:List y7}{s k:Nat}(hl:U5 4 l=true)
 (h:AYm Tryz.prog 4 3 [i64 s,.msl 5 1 0 k] (shJ (.lp q .ready none l) (O,[.row z5 1 (y6 D)])) (fun r H'=>r=bl true∧H'=shJ (.lp q .ready none l) (O',[]))) :
 AY Tryz.prog 3 [i64 s,.msl 5 1 0 k] (shJ (.lp q .ready none l) (O,[.row z5 1 (y6 D)])) (fun r H'=>r=bl true∧H'=shK (.lp q .ready none l) O'):=by
 have hid:∀ c,c<4→rho 6 [0,1,2,3,4,5] c=c:=fun c hc=>by
  rcases c with _|_|_|_|c
  ·rfl
  ·rfl
  ·rfl
  ·rfl
  ·omega
 have hid2:∀ c,c<4→q0v 6 [0,1,2,3] c=c:=fun c hc=>by
  rcases c with _|_|_|_|c
  ·rfl
  ·rfl
  ·rfl
  ·rfl
  ·omega
 refine u0i [0,1,2,3,4,5] h ⟨rfl,by decide,?_⟩ (show ∀ p∈[0,1,2,3,4,5],p<6 by decide) (by decide) rfl rfl ?_
 ·intro c k hk
  right
  rcases c with _|_|_|_|_|_|c
  ·obtain rfl:=Option.some.inj hk;exact⟨0,rfl,rfl⟩
  ·obtain rfl:=Option.some.inj hk;exact⟨1,rfl,rfl⟩
  ·obtain rfl:=Option.some.inj hk;exact⟨2,rfl,rfl⟩
  ·obtain rfl:=Option.some.inj hk
   refine⟨3,rfl,?_⟩
   show some (ABlk.lp q .ready none l)=some (ABlk.lp q .ready none (q2n (rho 6 [0,1,2,3,4,5]) l))
   rw[q3x hid l hl]
  ·obtain rfl:=Option.some.inj hk;exact⟨4,rfl,rfl⟩
  ·obtain rfl:=Option.some.inj hk;exact⟨5,rfl,rfl⟩
  ·simp at hk
 ·rintro r1 H1' ⟨rfl,rfl⟩
  refine⟨show 4≤5 by decide,rfl,?_⟩
  show [_,_,_,ABlk.lp q .ready none (q2n (q0v 6 [0,1,2,3]) l),_,_,_]=_
  rw[q3x hid2 l hl]
  rfl
set_option maxHeartbeats 2000000 in
set_option maxRecDepth 20000 in
theorem w4p (g:GeoV)(hg:g.may=true)(S k R:Nat)(hs:g.s=S)(hk:g.k=k)(hR:R=228*(S*k))(b:y7)(hb:b.length≤R)(q:RecK)(l:List AV)(hl:U5 4 l=true)(O:Nat→List Put9)
 (hy:∀ s,s<S→AYm Tryz.prog 4 3 [i64 s,.msl 5 1 0 k] (shJ (.lp q .ready none l) (O s,[.row z5 1 (y6 (q0g (q5t R b) k s))])) (fun r H'=>r=bl true∧H'=shJ (.lp q .ready none l) (O (s+1),[]))) :
 AFm Tryz.prog 4 q5y [.yld 3,.p (.box g.pv),.p (.box [bP b])] (shJ (.lp q .ready none l) (O 0,[])) (fun _ H'=>H'=shJ (.lp q .ready none l) (O S,[])):=by
 obtain⟨h1,h2,h3,h4,h5,h6,h7,h8⟩:=V0 (W9 hg)
 have hSk:S*k≤32*16:=Nat.mul_le_mul (by omega) (by omega)
 have wR:=z7s g
 rw[show g.room=(R:Int) by unfold GeoV.room;rw[hg,hs,hk,hR];show (S:Int)*k*228=_;rw[Nat.mul_comm];simp]at wR
 have hpl:=q7i hb
 have hps:=v6e (n:=R) (b:=b)
 have hbl:=u6 b
 generalize q5t R b=P at hy hpl hps
 refine Q9 4 hT y2d rfl rfl y2e rfl rfl ?_
 refine y8 ⟨⟨36,[(0,.yld 3),(1,.p (.box g.pv)),(2,.p (.box [bP b])),(4,.msl 5 1 0 R)]⟩,shJ (.lp q .ready none l) (O 0,[.row z4 1 (List.replicate R [u8 0])])⟩ True (q7 hT ?_) (fun _=>?_)
 ·refine x8 (u5 wR _ rfl rfl) ?_
  refine⟨⟨rfl,by omega,by show (R:Int)*1≤_;omega,by omega⟩,?_⟩
  exact⟨U2 3 [0,1,2,3,4,5] [0,1,2,4] _ rfl hl rfl rfl rfl,trivial⟩
 refine y8 ⟨⟨36,[(0,.yld 3),(1,.p (.box g.pv)),(4,bA P)]⟩,shJ (.lp q .ready none l) (O 0,[])⟩ True (q7 hT ?_) (fun _=>?_)
 ·refine⟨⟨?_,?_⟩,?_⟩
  ·show 0+R≤(List.replicate R _).length
   rw[List.length_replicate];omega
  ·show (bx b).length≤R
   omega
  have hSl:(W4 (List.replicate R [u8 0]) 0 (bx b)).length=R:=by rw[hps,u6,hpl]
  exact⟨Wk.trans (q0s 4 5 R hps hSl.symm rfl rfl) (U2 3 [0,1,2,3,4] [0,1,4] _ rfl hl rfl rfl rfl),trivial⟩
 refine q8 (q7 hT ?_)
 refine z7 ?_
 refine w7 (fun n st=>∃ (s:Nat) (js Sv:Int) (rest:y7) (o:List Put9),n+s=S∧js=s∧Sv=S∧rest=P.drop (228*(s*k))∧o=O s∧st=⟨⟨36,[(0,.yld 3),(1,.p (.box g.pv)),(4,bA rest),(14,i64 Sv),(15,i64 js)]⟩,shJ (.lp q .ready none l) (o,[])⟩) S ⟨⟨36,_⟩,_⟩ (U2 3 [0,1,2,3,4] [0,1,4,14,15] _ rfl hl rfl rfl rfl) ⟨0,0,g.s,P,O 0,by omega,rfl,hs,by rw[Nat.zero_mul,Nat.mul_zero,List.drop_zero],rfl,rfl⟩ ?_
 clear hps hbl hb
 rintro n st ⟨s,js,Sv,rest,o,hns,hjs,hSv,hrest,ho,rfl⟩
 refine q8 (q7 hT ?_)
 refine q8 (z6 (x7 (fun h=>?_) (fun h=>?_)))
 ·have h:=of_decide_eq_true (show decide (js<Sv)=true from h)
  have hsS:s<S:=by omega
  refine z9 ?_
  have hy:=hy s hsS
  rw[← ho]at hy
  have hroom:228*((s+1)*k)≤P.length:=by
   rw[hpl,hR]
   exact Nat.mul_le_mul_left 228 (Nat.mul_le_mul_right k hsS)
  have hDl:=q3q P k s
  have hDg:=fun j hj=>y1e (P:=P) (k:=k) (s:=s) (j:=j) hj
  generalize q0g P k s=D at hy hDl hDg
  refine w6 (fun st=>∃ rest,rest=P.drop (228*((s+1)*k))∧st=⟨⟨36,[(0,.yld 3),(1,.p (.box g.pv)),(4,bA rest),(14,i64 Sv),(15,i64 js)]⟩,shJ (.lp q .ready none l) (O (s+1),[])⟩) (z7 (q8 (q7 hT ?_))) ?_
  ·refine y8 ⟨⟨36,[(0,.yld 3),(1,.p (.box g.pv)),(4,bA rest),(5,i64 js),(6,.msl 5 1 0 0),(14,i64 Sv),(15,i64 js)]⟩,shJ (.lp q .ready none l) (o,[.row z5 1 (y6 [])])⟩ True (q7 hT ?_) (fun _=>?_)
   ·exact⟨Wk.trans (J9 z5 1) (Wk.trans (q9u 6 5 1 0 rfl) (U2 3 [0,1,2,3,4,5] [0,1,4,5,6,14,15] _ rfl hl rfl rfl rfl)),trivial⟩
   refine w6 (fun st=>∃ rest X,rest=P.drop (228*((s+1)*k))∧X=D∧st=⟨⟨36,[(0,.yld 3),(1,.p (.box g.pv)),(4,bA rest),(5,i64 js),(6,.msl 5 1 0 (y6 X).length),(14,i64 Sv),(15,i64 js)]⟩,shJ (.lp q .ready none l) (o,[.row z5 1 (y6 X)])⟩) (q8 (q7 hT ?_)) ?_
   ·refine z7 ?_
    refine w7 (fun n st=>∃ (j:Nat) (jj kv:Int) (rest:y7) (X:List y7),n+j=k∧jj=j∧kv=k∧rest=P.drop (228*(s*k+j))∧X=D.take j∧st=⟨⟨36,[(0,.yld 3),(1,.p (.box g.pv)),(4,bA rest),(5,i64 js),(6,.msl 5 1 0 (y6 X).length),(14,i64 Sv),(15,i64 js),(19,i64 kv),(20,i64 jj)]⟩,shJ (.lp q .ready none l) (o,[.row z5 1 (y6 X)])⟩) k ⟨⟨36,_⟩,_⟩ (U2 3 [0,1,2,3,4,5] [0,1,4,5,6,14,15,19,20] _ rfl hl rfl rfl rfl) ⟨0,0,g.k,rest,[],by omega,rfl,hk,hrest,rfl,rfl⟩ ?_
    rintro n st ⟨j,jj,kv,rest,X,hnj,hjj,hkv,hrest,hX,rfl⟩
    refine q8 (q7 hT ?_)
    refine q8 (z6 (x7 (fun h=>?_) (fun h=>?_)))
    ·have h:=of_decide_eq_true (show decide (jj<kv)=true from h)
     have hjk:j<k:=by omega
     refine z9 ?_
     have hroom2:228*(s*k+j+1)≤P.length:=by
      refine Nat.le_trans (Nat.mul_le_mul_left 228 ?_) hroom
      rw[Nat.succ_mul];omega
     have hrl:rest.length=P.length - 228*(s*k+j):=by rw[hrest,List.length_drop]
     have hrl2:=u6 rest
     have hXl:(y6 X).length=j:=by rw[Z7,hX,List.length_take];omega
     have e1:((bx rest).take (228:Int).toNat).drop (0:Int).toNat=bx (rest.take 228):=by rw[y3j];rfl
     have e2:((bx rest).take (((bx rest).length:Nat):Int).toNat).drop (228:Int).toNat=bx (rest.drop 228):=by rw[Int.toNat_natCast,List.take_length,x5c];rfl
     have hrow:[[PV.sl 1 (((bx rest).take (228:Int).toNat).drop (0:Int).toNat)]]=[[bP (rest.take 228)]]:=by rw[e1]
     have hs0:AV.p (.sl 1 (((bx rest).take (((bx rest).length:Nat):Int).toNat).drop (228:Int).toNat))=bA (rest.drop 228):=by rw[e2]
     have hc:rest.take 228=w0y P (s*k+j):=by unfold w0y;rw[hrest]
     have hX2:X++[rest.take 228]=D.take (j+1):=by rw[show D.take (j+1)=D.take j++D[j]?.toList from List.take_add_one,hDg j hjk,hX,hc];rfl
     refine w6 (fun st=>∃ rest' X',rest'=rest.drop 228∧X'=X++[rest.take 228]∧st=⟨⟨36,[(0,.yld 3),(1,.p (.box g.pv)),(4,bA rest'),(5,i64 js),(6,.msl 5 1 0 (y6 X').length),(14,i64 Sv),(15,i64 js),(19,i64 kv),(20,i64 jj)]⟩,shJ (.lp q .ready none l) (o,[.row z5 1 (y6 X')])⟩) (z7 ?_) ?_
     ·refine w9 [3,4] [] hT z8 (by rfl) ?_
      refine⟨⟨Int.le_refl _,by decide,by omega⟩,?_⟩
      refine⟨rfl,⟨?_,?_⟩,?_⟩
      ·show ((y6 X).length+1)*24≤_
       omega
      ·show (y6 X).length+1≤_
       omega
      refine⟨⟨by decide,by omega,Int.le_refl _⟩,?_⟩
      repeat first|refine⟨rfl,?_⟩
      refine⟨_,U2 3 [0,1,2,3,4,7] [0,1,4,5,6,14,15,19,20] _ rfl hl rfl rfl rfl,rest.drop 228,X++[rest.take 228],rfl,rfl,?_⟩
      rw[x1x,← hrow,← hs0];rfl
     ·rintro _ ⟨rest',X',rfl,rfl,rfl⟩
      refine q7 hT ?_
      exact⟨n - 1,by omega,_,U2 3 [0,1,2,3,4,5] [0,1,4,5,6,14,15,19,20] _ rfl hl rfl rfl rfl,j+1,IntKind.i64.wrap (jj+1),kv,_,_,by omega,by rw[x9 _ (by omega) (by omega)];omega,hkv,by rw[hrest,List.drop_drop];congr 1,hX2,rfl⟩
    ·have h:=of_decide_eq_false (show decide (jj<kv)=false from h)
     rw[List.take_of_length_le (by omega)]at hX
     have hjk:j=k:=by omega
     refine u0 ?_
     exact⟨_,U2 3 [0,1,2,3,4,5] [0,1,4,5,6,14,15] _ rfl hl rfl rfl rfl,rest,X,by rw[hrest,hjk,Nat.add_mul s 1 k,Nat.one_mul],hX,rfl⟩
   ·rintro _ ⟨rest,X,hrest,rfl,rfl⟩
    have hXl:(y6 X).length=k:=by rw[Z7,hDl]
    have hy:=v0p hl hy
    rw[← hjs,← hXl]at hy
    refine q8 (q7 hT ?_)
    refine⟨_,hy,?_⟩
    rintro r H' ⟨rfl,rfl⟩
    refine z6 ?_
    refine z9 ?_
    exact⟨_,U2 3 [0,1,2,3,6] [0,1,4,14,15] _ rfl hl rfl rfl rfl,rest,hrest,rfl⟩
  ·rintro _ ⟨rest,hrest,rfl⟩
   refine q7 hT ?_
   exact⟨n - 1,by omega,_,U2 3 [0,1,2,3,4] [0,1,4,14,15] _ rfl hl rfl rfl rfl,s+1,IntKind.i64.wrap (js+1),Sv,rest,O (s+1),by omega,by rw[x9 _ (by omega) (by omega)];omega,hSv,hrest,rfl,rfl⟩
 ·have h:=of_decide_eq_false (show decide (js<Sv)=false from h)
  rw[show s=S by omega]at ho
  rw[ho]
  refine u0 ?_
  exact⟨_,_,U2 3 [0,1,2,3,4] [0] _ rfl hl rfl rfl rfl,rfl⟩
theorem w0z (g:GeoV)(hg:g.may=true)(S k R:Nat)(hs:g.s=S)(hk:g.k=k)(hR:R=228*(S*k))(b:y7)(hb:b.length≤R)(q:RecK)(l:List AV)(hl:U5 4 l=true)(P:y7)(hP:q5t R b=P)(O:Nat→List Put9)(h0:O 0=[])
 (hy:∀ s,s<S→AYm Tryz.prog 4 3 [i64 s,.msl 5 1 0 k] (shJ (.lp q .ready none l) (O s,[.row z5 1 (y6 (q0g P k s))])) (fun r H'=>r=bl true∧H'=shJ (.lp q .ready none l) (O (s+1),[]))) :
 AFm Tryz.prog 4 q5y [.yld 3,.p (.box g.pv),.p (.box [bP b])] (shJ (.lp q .ready none l) ([],[])) (fun _ H'=>H'=shJ (.lp q .ready none l) (O S,[])):=by
 subst hP
 have:=w4p g hg S k R hs hk hR b hb q l hl O hy
 rwa [h0]at this
end Go.Proofs.YtinfbclgkghgaaaGreat.AL
namespace Go.Proofs.YtinfbclgkghgaaaGreat.AL
open Go Go.Proofs
theorem w1a (g:GeoV)(b:y7):AF Tryz.prog y9a [g.av,bA b] [] (Q0 (.clo (.func q5y) [.p (.box g.pv),.p (.box [bP b])]) []):=by
 refine u9 hT y9b rfl rfl y9c rfl ?_
 refine q8 (q7 hT ?_)
 refine Q8 (Q6 0 g.pv rfl rfl) ?_
 refine Q8 (Q6 1 [bP b] rfl rfl) ?_
 refine q8 (q7 hT ?_)
 refine x6 ?_
 exact y9 [] ⟨rfl,rfl⟩ rfl
theorem v0q {P:Program}{α β:Type}{M n:Nat}{q:RecK}{lf:List (Nat × AV)}{args:List AV}{J:ABlk→α→List ABlk}{Z:ABlk→β→List ABlk}{a:α}{Rnd:α→Prop}{Stp:Code→β→Prop}
 (hJ:∀ L a,(J L a)[M]?=some L∧∀ L',(J L a).set M L'=J L' a) (hZ:∀ L z,(Z L z)[M]?=some L∧∀ L',(Z L z).set M L'=Z L' z)
 (hlf:∀ t u,Y5 lf t=some u→t<n) (hps:∀ p∈q.ps.toList,p<n) (hpa:q.ps.size=args.length) (hbf:q5x (M+1) lf=true)
 (hround:∀ B l,U5 (M+1) l=true→∀ q2:RecK,AW P (some B) (M+1) q.assign ⟨⟨n,z5v lf q.ps.toList args⟩,J (.lp q2 .ready none l) a⟩
  (y0s (fun s1=>s1.H[M]?=some (.lp q2 .ready none l)∧AW P (some B) (M+1) q.body ⟨s1.fr,s1.H.set M (.lp q2 .busy none l)⟩ (w2n M J Z (.lp q2 .busy none l) Rnd Stp)) (fun _ _=>False))) :
 AYm P (M+1) M args (J (.lp q .ready none (V3 n lf)) a) (fun r H'=>(r=.p (.raw (.bool true))∧∃ a',Rnd a'∧H'=J (.lp q .ready none (V3 n lf)) a')∨(r=.p (.raw (.bool false))∧∃ c z,Stp c z∧H'=Z (.lp q .done (some c) (V3 n lf)) z)):=
 x1d hJ hZ hlf hps hpa hbf fun B l hl=>hround B l hl q
theorem v8s (L:ABlk)(Y:List Put9)(x:Put9)(r:List ABlk):shJ L (Y++[x],r)=.cells q0r [.p (.raw (.slice none 0 0))] :: .cells q0q [i64 0] :: .cells q0r [.msl 4 2 0 (px Y++[x.pv]).length] :: L :: .row q8y 2 (px Y++[x.pv]) :: r:=by
 show _ :: _ :: ABlk.cells q0r [.msl 4 2 0 (px (Y++[x])).length] :: _ :: .row q8y 2 (px (Y++[x])) :: _=_
 rw[show px (Y++[x])=px Y++[x.pv] by simp[px]]
def v6g (vol:Int)(g:GeoV)(area epoch no:Int)(all:List y7)(s i:Nat):Put9:=⟨g.at_ area s+i,(Blk.mk 4 vol (g.at_ area s+i) epoch no (all.getD i [])).sld.1⟩
def z0q (vol:Int)(g:GeoV)(area epoch no:Int)(all:List y7)(s:Nat):List Put9:=(List.range all.length).map (v6g vol g area epoch no all s)
def W0 (P:y7)(k m s:Nat):List y7:=q0g P k s++q7f (q0g P k s) m 228
def q2x (vol:Int)(g:GeoV)(area epoch no:Int)(P:y7)(k m:Nat):Nat→List Put9
 |0=>[]
 |s+1=>q2x vol g area epoch no P k m s++z0q vol g area epoch no (W0 P k m s) s
def putsB (vol:Int)(g:GeoV)(area epoch no:Int)(b:y7):List Put9 × Int:=match (V1 g area 0).2 != 0||!V6 [vol,epoch,no]with
 |true=>([],1)
 |false=>match decide ((b.length:Int) > g.room) with
  |true=>([],2)
  |false=>(q2x vol g area epoch no (q5t g.room.toNat b) g.k.toNat g.m.toNat g.s.toNat,0)
theorem q8e (P:y7)(k m s:Nat):(W0 P k m s).length=k+m:=by unfold W0;rw[List.length_append,q3q,z2h]
theorem y7w {vol:Int}{g:GeoV}{area epoch no:Int}{all:List y7}{s:Nat}:(z0q vol g area epoch no all s).length=all.length:=by unfold z0q;rw[List.length_map,List.length_range]
theorem q2k {vol:Int}{g:GeoV}{area epoch no:Int}{P:y7}{k m:Nat}:∀ s,(q2x vol g area epoch no P k m s).length=s*(k+m)
 |0=>(Nat.zero_mul _).symm
 |s+1=>by
  unfold q2x
  rw[List.length_append,q2k s,y7w,q8e,Nat.succ_mul]
theorem w6q {g:GeoV}(hg:g.may=true){area s:Int}(a0:0≤area)(a1:area≤1)(s0:0≤s)(s1:s<g.s):0≤g.at_ area s∧g.at_ area s+(g.k+g.m)≤100000:=by
 obtain⟨h1,h2,h3,h4,h5,h6,h7,h8⟩:=V0 (W9 hg)
 unfold GeoV.at_
 have e1:0≤area*g.s∧area*g.s≤g.s:=by
  rcases (show area=0∨area=1 by omega) with rfl|rfl <;> omega
 have hm:=Int.mul_le_mul (show area*g.s+s≤64 by omega) (show g.k+g.m≤24 by omega) (by omega) (by omega)
 have hm0:0≤(area*g.s+s)*(g.k+g.m):=Int.mul_nonneg (by omega) (by omega)
 omega
def z4k (vol:Int)(g:GeoV)(area epoch no:Int):List (Nat × AV):=[(6,.p (.box [.raw (.int .i64 vol)])),(7,.p (.box g.pv)),(8,.p (.box [.raw (.int .i64 area)])),(9,.p (.box [.raw (.int .i64 epoch)])),(10,.p (.box [.raw (.int .i64 no)])),(12,.ref 0 0),(13,.ref 1 0)]
set_option maxHeartbeats 4000000 in
set_option maxRecDepth 20000 in
theorem v0r (vol:Int)(g:GeoV)(area epoch no:Int)(b:y7)(hk4:g.k≤4)(hm3:g.m≤3)(_hb:b.length≤1000000) :
 AF Tryz.prog x7j [i64 vol,g.av,i64 area,i64 epoch,i64 no,bA b] [] (Q0 (.tup [.p (.sl 2 (px (putsB vol g area epoch no b).1)),i64 (putsB vol g area epoch no b).2]) []):=by
 refine AF.mono (R:=fun r H'=>∃ z,z=putsB vol g area epoch no b∧r=.tup [.p (.sl 2 (px z.1)),i64 z.2]∧H'=[]) ?_ (by rintro r H' ⟨z,rfl,rfl,rfl⟩;exact⟨rfl,rfl⟩)
 have hbl:=u6 b
 have wF:=q3f g area 0
 have wW:=z3p [vol,epoch,no] (by show 3≤64;decide)
 have wR:=z7s g
 have eZ:putsB vol g area epoch no b=match (V1 g area 0).2 != 0||!V6 [vol,epoch,no]with
  |true=>([],1)
  |false=>match decide ((b.length:Int) > g.room) with
   |true=>([],2)
   |false=>(q2x vol g area epoch no (q5t g.room.toNat b) g.k.toNat g.m.toNat g.s.toNat,0):=rfl
 generalize putsB vol g area epoch no b=Z at eZ
 have hfe:(V1 g area 0).2=0→X9 g area 0:=fun h=>by
  by_cases hf:X9 g area 0
  ·exact hf
  ·rw[q4g hf]at h;exact absurd h (by decide)
 generalize hF:V1 g area 0=F at wF eZ hfe
 refine u9 hT x7k rfl rfl x7m rfl ?_
 refine y8 ⟨⟨101,(5,bA b) :: z4k vol g area epoch no⟩,[.cells q0r [.p (.raw (.slice none 0 0))],.cells q0q [i64 0]]⟩ True (q7 hT ?_) (fun _=>?_)
 ·exact⟨Wk.trans (Q6 0 [.raw (.int .i64 vol)] rfl rfl) (Wk.trans (Q6 1 g.pv rfl rfl) (Wk.trans (Q6 2 [.raw (.int .i64 area)] rfl rfl) (Wk.trans (Q6 3 [.raw (.int .i64 epoch)] rfl rfl) (Wk.trans (Q6 4 [.raw (.int .i64 no)] rfl rfl) (q9 [5,6] [5,6,7,8,9,10,12,13] rfl))))),trivial⟩
 refine y8 ⟨⟨101,(5,bA b) :: z4k vol g area epoch no⟩,[.cells q0r [.p (.raw (.slice none 0 0))],.cells q0q [i64 0]]⟩ (X9 g area 0∧V6 [vol,epoch,no]=true∧¬ (b.length:Int) > g.room) (q8 (q7 hT ?_)) ?_
 ·refine x8 (u5 wF _ rfl rfl) ?_
  refine z7 ?_
  refine w6 (fun st=>∃ v,v=(F.2 != 0||!V6 [vol,epoch,no])∧st=⟨⟨101,(33,bl v) :: (5,bA b) :: z4k vol g area epoch no⟩,[.cells q0r [.p (.raw (.slice none 0 0))],.cells q0q [i64 0]]⟩) (q8 (q7 hT ?_)) ?_
  ·refine z6 (x7 (fun h=>?_) (fun h=>?_))
   ·refine z9 ?_
    exact⟨_,q9 [0,1] [33,5,6,7,8,9,10,12,13] rfl,(F.2 != 0),by rw[show (F.2 != 0)=true from h];rfl,rfl⟩
   ·refine X6 (fun k=>Nat.beq 3 k) hT ?_
    refine⟨⟨rfl,rfl⟩,?_⟩
    refine x8 (u5 wW _ rfl rfl) ?_
    exact⟨_,q9 [0,1] [33,5,6,7,8,9,10,12,13] rfl,!V6 [vol,epoch,no],by rw[show (F.2 != 0)=false from h];rfl,rfl⟩
  rintro _ ⟨v,hv,rfl⟩
  rw[← hv]at eZ
  refine z6 (x7 (fun h=>?_) (fun h=>?_))
  ·have h:v=true:=h
   rw[h]at eZ
   refine q8 (q7 hT ?_)
   refine Q8 (q0z 0 [.p (.sl 2 [])] rfl ⟨.inr (.inr (.inr ⟨2,rfl,rfl⟩)),trivial⟩) ?_
   refine x6 ?_
   exact y9 [] ⟨([],1),eZ.symm,rfl,rfl⟩ rfl
  ·have h:v=false:=h
   rw[h]at eZ hv
   have hv:(F.2 != 0)=false∧(!V6 [vol,epoch,no])=false:=by rw[← Bool.or_eq_false_iff];exact hv.symm
   refine q8 (q7 hT ?_)
   refine x8 (u5 wR _ rfl rfl) ?_
   refine z6 (x7 (fun h=>?_) (fun h=>?_))
   ·have h:decide ((((bx b).length:Nat):Int) > g.room)=true:=h
    rw[hbl]at h
    rw[h]at eZ
    refine q8 (q7 hT ?_)
    refine Q8 (q0z 0 [.p (.sl 2 [])] rfl ⟨.inr (.inr (.inr ⟨2,rfl,rfl⟩)),trivial⟩) ?_
    refine x6 ?_
    exact y9 [] ⟨([],2),eZ.symm,rfl,rfl⟩ rfl
   ·have h:decide ((((bx b).length:Nat):Int) > g.room)=false:=h
    rw[hbl]at h
    exact z9 ⟨q9 [0,1] [5,6,7,8,9,10,12,13] rfl,hfe (by have:=hv.1;simpa using this),by have:=hv.2;rwa [Bool.not_eq_false']at this,of_decide_eq_false h⟩
 rintro⟨hok,hw,hroom⟩
 have hF0:F.2=0:=by rw[← hF,q0t hok]
 rw[hF0,hw,decide_eq_false hroom]at eZ
 have eZ:Z=(q2x vol g area epoch no (q5t g.room.toNat b) g.k.toNat g.m.toNat g.s.toNat,0):=eZ
 obtain⟨hg,a0,a1,_,_⟩:=hok
 obtain⟨h1,h2,h3,h4,h5,h6,h7,h8⟩:=V0 (W9 hg)
 obtain⟨S,hS⟩:∃ n:Nat,g.s=n:=⟨g.s.toNat,by omega⟩
 obtain⟨k,hk⟩:∃ n:Nat,g.k=n:=⟨g.k.toNat,by omega⟩
 obtain⟨m,hm⟩:∃ n:Nat,g.m=n:=⟨g.m.toNat,by omega⟩
 obtain⟨R,hR⟩:∃ n:Nat,n=228*(S*k):=⟨_,rfl⟩
 have hroomR:g.room=(R:Int):=by unfold GeoV.room;rw[hg,hS,hk,hR];show (S:Int)*k*228=_;rw[Nat.mul_comm];simp
 rw[hroomR,hS,hk,hm,Int.toNat_natCast,Int.toNat_natCast,Int.toNat_natCast,Int.toNat_natCast]at eZ
 rw[hroomR]at hroom
 have hbR:b.length≤R:=by omega
 have wS:=w1a g b
 obtain⟨P,hPd⟩:∃ P,P=q5t R b:=⟨_,rfl⟩
 have hPl:=q7i hbR
 rw[← hPd]at eZ hPl
 clear wF wW wR hF hfe hF0 hbl hroom hw
 have hOl:=fun s=>q2k (vol:=vol) (g:=g) (area:=area) (epoch:=epoch) (no:=no) (P:=P) (k:=k) (m:=m) s
 have hOs:∀ s,q2x vol g area epoch no P k m (s+1)=q2x vol g area epoch no P k m s++z0q vol g area epoch no (W0 P k m s) s:=fun s=>rfl
 have hO0:q2x vol g area epoch no P k m 0=[]:=rfl
 generalize q2x vol g area epoch no P k m=O at eZ hOl hOs hO0
 refine q8 (q7 hT ?_)
 refine Q8 (Wk.trans (J9 q8y 2) (q0z 2 [.msl 3 2 0 0] rfl ⟨.inr (.inr (.inl ⟨3,2,0,rfl,rfl⟩)),trivial⟩)) ?_
 refine q8 (q8 (q7 hT ?_))
 refine x8 (u5 wS _ rfl rfl) ?_
 refine z7 ?_
 refine z5x 3 101 [0,1,2,4,3] [6,7,8,9,10,12,13,16,50] shJ (fun L (_:Unit)=>shJ L ([],[])) ([],[]) (fun x=>x=(O S,[])) (fun _ _=>False) rfl rfl (fun L _=>⟨rfl,fun _=>rfl⟩) (fun L _=>⟨rfl,fun _=>rfl⟩) rfl ?_ ?_ ?_
 ·refine AFm.mono (w0z g hg S k R hS hk hR b hbR _ _ (z7j (by rfl)) P hPd.symm O hO0 ?_) ?_
  ·intro s hsS
   refine AYm.mono (v0q (J:=shJ) (Z:=fun L (_:Unit)=>shJ L ([],[])) (a:=(O s,_)) (Rnd:=fun x=>x=(O (s+1),[])) (Stp:=fun _ _=>False) (fun L _=>⟨rfl,fun _=>rfl⟩) (fun L _=>⟨rfl,fun _=>rfl⟩) ?_ ?_ rfl rfl ?_) ?_
   ·exact fun t u ht=>z5w (ks:=[6,7,8,9,10,12,13,16,50]) rfl ht
   ·show ∀ p∈[51,52],p<101
    decide
   ·intro B l hl q
    have hR1:228*((s+1)*k)≤P.length:=by
     rw[hPl,hR]
     exact Nat.mul_le_mul_left 228 (Nat.mul_le_mul_right k hsS)
    have hDl:=q3q P k s
    have we:=y7h (q0g P k s) m 228 (by omega) (by omega) (by omega) (by omega) (by decide) (by decide) (q8d hR1)
    rw[hDl]at we
    have hsl:=q8e P k m s
    have hsh:W0 P k m s=q0g P k s++q7f (q0g P k s) m 228:=rfl
    have hEl:=z2h (q0g P k s) m 228
    have hO1:=hOs s
    have hOls:=hOl s
    have wF:=q3f g area (s:Int)
    obtain⟨A,hA⟩:∃ A,A=g.at_ area s:=⟨_,rfl⟩
    rw[q0t ⟨hg,a0,a1,by omega,by omega⟩,← hA]at wF
    have hAr:=w6q hg a0 a1 (show 0≤(s:Int) by omega) (by omega)
    rw[← hA]at hAr
    have hSP:∀ i,i<k+m→(z0q vol g area epoch no (W0 P k m s) s)[i]?=some ⟨A+i,(Blk.mk 4 vol (A+i) epoch no ((W0 P k m s).getD i [])).sld.1⟩:=fun i hi=>by
     unfold z0q
     rw[List.getElem?_map,List.getElem?_range (by omega),hA];rfl
    have hSPl:(z0q vol g area epoch no (W0 P k m s) s).length=k+m:=by rw[y7w,hsl]
    generalize z0q vol g area epoch no (W0 P k m s) s=SP at hO1 hSP hSPl
    generalize q7f (q0g P k s) m 228=E at we hsh hEl
    generalize q0g P k s=D at we hsh hDl ⊢
    generalize W0 P k m s=ALL at hsl hsh hSP
    have hsk:s*(k+m)≤32*7:=Nat.mul_le_mul (by omega) (by omega)
    generalize O s=o at hO1 hOls ⊢
    generalize O (s+1)=o1 at hO1
    have hDc:=Z7 D
    have hEc:=Z7 E
    refine q8 (q7 hT ?_)
    refine q7 hT ?_
    refine⟨rfl,?_⟩
    refine z7 ?_
    refine y8 ⟨⟨101,(16,.ref 2 0) :: (17,i64 s) :: (18,.msl 5 1 0 k) :: (19,.p (.sl 1 (y6 E))) :: (20,i64 0) :: z4k vol g area epoch no⟩,shJ (.lp q .busy none l) (o,[.row z5 1 (y6 D)])⟩ True (q7 hT ?_) (fun _=>?_)
    ·refine x8 (Q1 [5] (hm ▸ we) rfl rfl rfl) ?_
     exact⟨U2 3 [0,1,2,3,4,5] [16,17,18,19,20,6,7,8,9,10,12,13] _ rfl hl rfl rfl rfl,trivial⟩
    refine q8 (q8 (q7 hT ?_))
    refine z6 ?_
    refine z9 ?_
    refine y8 ⟨⟨101,(16,.ref 2 0) :: (18,.msl 5 1 0 k) :: (19,.p (.sl 1 (y6 E))) :: (21,i64 A) :: z4k vol g area epoch no⟩,shJ (.lp q .busy none l) (o,[.row z5 1 (y6 D)])⟩ True (q7 hT ?_) (fun _=>?_)
    ·refine x8 (u5 wF _ rfl rfl) ?_
     exact⟨U2 3 [0,1,2,3,4,5] [16,18,19,21,6,7,8,9,10,12,13] _ rfl hl rfl rfl rfl,trivial⟩
    refine w6 (fun st=>∃ X,X=ALL∧st=⟨⟨101,(16,.ref 2 0) :: (21,i64 A) :: (72,.msl 5 1 0 (y6 X).length) :: (73,i64 (y6 X).length) :: (74,i64 0) :: z4k vol g area epoch no⟩,shJ (.lp q .busy none l) (o,[.row z5 1 (y6 X)])⟩) (q7 hT ?_) ?_
    ·refine⟨by omega,⟨by show ((y6 D).length+(y6 E).length)*24≤_;omega,by omega⟩,?_⟩
     refine⟨_,U2 3 [0,1,2,3,4,6] [16,21,72,73,74,6,7,8,9,10,12,13] _ rfl hl rfl rfl rfl,ALL,rfl,?_⟩
     rw[hsh,q5r];rfl
    rintro _ ⟨X,rfl,rfl⟩
    have hXc:=Z7 X
    refine z7 ?_
    refine w7 (fun n st=>∃ (j:Nat) (jj:Int) (Y:List Put9),n+j=k+m∧jj=j∧Y=o++SP.take j∧st=⟨⟨101,(16,.ref 2 0) :: (21,i64 A) :: (72,.msl 5 1 0 (y6 X).length) :: (73,i64 (y6 X).length) :: (74,i64 jj) :: z4k vol g area epoch no⟩,shJ (.lp q .busy none l) (Y,[.row z5 1 (y6 X)])⟩) (k+m) ⟨⟨101,_⟩,_⟩ (Wk.refl _ _) ⟨0,0,o,by omega,rfl,by rw[List.take_zero,List.append_nil],rfl⟩ ?_
    clear we wF
    rintro n st ⟨j,jj,Y,hnj,hjj,hY,rfl⟩
    refine q8 (q7 hT ?_)
    refine q8 (z6 (x7 (fun h=>?_) (fun h=>?_)))
    ·have h:=of_decide_eq_true (show decide (jj<(((y6 X).length:Nat):Int))=true from h)
     have hjk:j<k+m:=by omega
     refine z9 ?_
     have hx:=List.getElem?_eq_getElem (show j<X.length by omega)
     have hSPj:=hSP j hjk
     rw[List.getD_eq_getElem?_getD,hx]at hSPj
     generalize X[j]=sh at hx hSPj
     have hSPj:SP[j]?=some ⟨A+j,(Blk.mk 4 vol (A+j) epoch no sh).sld.1⟩:=hSPj
     have hxp:(y6 X)[0+jj.toNat]?=some [bP sh]:=by rw[hjj,Int.toNat_natCast,Nat.zero_add];exact Z2 hx
     have hwr:IntKind.i64.wrap (A+jj)=A+j:=by rw[x9 _ (by omega) (by omega),hjj]
     have wb:=y6w (Blk.mk 4 vol (IntKind.i64.wrap (A+jj)) epoch no sh)
     rw[← hwr]at hSPj
     have hYl:Y.length≤s*(k+m)+(k+m):=by rw[hY,List.length_append,List.length_take];omega
     have hYc:=v6c Y
     have hY2:o++SP.take (j+1)=Y++[⟨IntKind.i64.wrap (A+jj),(Blk.mk 4 vol (IntKind.i64.wrap (A+jj)) epoch no sh).sld.1⟩]:=by
      rw[List.take_add_one,hSPj,hY,List.append_assoc];rfl
     generalize (Blk.mk 4 vol (IntKind.i64.wrap (A+jj)) epoch no sh).sld=sd at wb hY2
     refine w6 (fun st=>∃ Y',Y'=o++SP.take (j+1)∧st=⟨⟨101,(16,.ref 2 0) :: (21,i64 A) :: (72,.msl 5 1 0 (y6 X).length) :: (73,i64 (y6 X).length) :: (74,i64 jj) :: z4k vol g area epoch no⟩,shJ (.lp q .busy none l) (Y',[.row z5 1 (y6 X)])⟩) (z7 ?_) ?_
     ·refine y8 ⟨⟨101,(16,.ref 2 0) :: (21,i64 A) :: (23,i64 jj) :: (24,bA sh) :: (72,.msl 5 1 0 (y6 X).length) :: (73,i64 (y6 X).length) :: (74,i64 jj) :: z4k vol g area epoch no⟩,shJ (.lp q .busy none l) (Y,[.row z5 1 (y6 X)])⟩ True (q7 hT ?_) (fun _=>?_)
      ·refine⟨⟨by omega,by omega⟩,?_⟩
       refine u7 hxp ?_
       exact⟨U2 3 [0,1,2,3,4,5] [16,21,23,24,72,73,74,6,7,8,9,10,12,13] _ rfl hl rfl rfl rfl,trivial⟩
      refine y8 ⟨⟨101,(16,.ref 2 0) :: (21,i64 A) :: (23,i64 jj) :: (25,bA sd.1) :: (72,.msl 5 1 0 (y6 X).length) :: (73,i64 (y6 X).length) :: (74,i64 jj) :: z4k vol g area epoch no⟩,shJ (.lp q .busy none l) (Y,[.row z5 1 (y6 X)])⟩ True (q7 hT ?_) (fun _=>?_)
      ·refine x8 (u5 wb _ rfl rfl) ?_
       exact⟨U2 3 [0,1,2,3,4,5] [16,21,23,25,72,73,74,6,7,8,9,10,12,13] _ rfl hl rfl rfl rfl,trivial⟩
      refine q7 hT ?_
      refine⟨rfl,⟨by show ((px Y).length+1)*32≤_;omega,by show (px Y).length+1≤_;omega⟩,?_⟩
      refine⟨_,U2 3 [0,1,2,3,7,5] [16,21,72,73,74,6,7,8,9,10,12,13] _ rfl hl rfl rfl rfl,_,hY2.symm,?_⟩
      rw[v8s];rfl
     ·rintro _ ⟨Y',rfl,rfl⟩
      refine q7 hT ?_
      exact⟨n - 1,by omega,_,U2 3 [0,1,2,3,4,5] [16,21,72,73,74,6,7,8,9,10,12,13] _ rfl hl rfl rfl rfl,j+1,IntKind.i64.wrap (jj+1),_,by omega,by rw[x9 _ (by omega) (by omega)];omega,rfl,rfl⟩
    ·have h:=of_decide_eq_false (show decide (jj<(((y6 X).length:Nat):Int))=false from h)
     rw[List.take_of_length_le (by omega),← hO1]at hY
     rw[hY]
     refine u0 ?_
     exact⟨(o1,[]),⟨101,[]⟩,rfl,U2 3 [0,1,2,3,4] [] _ rfl hl rfl rfl rfl⟩
   ·rintro r H' (⟨hr,a',rfl,hH⟩|⟨hr,c,z,h3,hH⟩)
    ·exact⟨hr,hH⟩
    ·exact h3.elim
  ·rintro r H' rfl
   exact .inl ⟨_,rfl,rfl⟩
 ·rintro _ rfl
  refine q8 (q7 hT ?_)
  refine Q8 (U9 4 0 0 _ rfl rfl rfl rfl) ?_
  refine x6 ?_
  exact y9 [] ⟨(O S,0),eZ.symm,rfl,rfl⟩ rfl
 ·intro _ _ h;exact h.elim
end Go.Proofs.YtinfbclgkghgaaaGreat.AL
