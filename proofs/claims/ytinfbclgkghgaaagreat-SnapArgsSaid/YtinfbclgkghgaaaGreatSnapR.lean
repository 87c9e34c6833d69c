/- A part of the proof. -/
import Derived.Test.YtinfbclgkghgaaaGreatSnapQ
/- The law SnapArgs: what may not be is told so,and nothing is written. -/
namespace Go.Proofs.YtinfbclgkghgaaaGreat.AL
open Go Go.Proofs Go.Proofs.YtinfbclgkghgaaaGreat.AL.Crc
theorem v1g:AF Tryz.prog q8t [w6s] [] (Q0 (bl true) []):=by
 refine u9 hT q8u rfl rfl q8v rfl ?_
 refine q8 (q7 hT ?_)
 refine q8 (q7 hT ?_)
 refine x6 ?_
 exact y9 [] ⟨rfl,rfl⟩ rfl
set_option maxRecDepth 20000 in
theorem x6b (vol:Int)(g:GeoV)(area no:Int)(hok:X9 g area 0)(hw:V6 [vol,no]=true) :
 AF Tryz.prog y0y [w6s,i64 vol,g.av,i64 area,i64 no,i64 0] [] (Q0 (.tup [bA [],i64 21]) []):=by
 have wF:=q3f g area 0
 rw[q0t hok]at wF
 have wW:=z3p [vol,no] (by show 2≤64;decide)
 rw[hw]at wW
 have wR:=z7s g
 obtain⟨h1,h2,h3,h4,h5,h6,h7,h8⟩:=V0 (W9 hok.1)
 have hroom:0≤g.room:=by
  obtain⟨_,_,m3,_,_⟩:=q9e (W9 hok.1)
  unfold GeoV.room;rw[hok.1];show 0≤g.s*g.k*228;omega
 refine u9 hT y0z rfl rfl y1a rfl ?_
 refine y8 ⟨⟨114,[(0,w6s),(1,i64 vol),(3,i64 area),(4,i64 no),(5,i64 0),(8,.p (.box g.pv))]⟩,[]⟩ True (q7 hT ?_) (fun _=>?_)
 ·exact⟨Wk.trans (Q6 0 g.pv rfl rfl) (q9 [] [0,1,3,4,5,8] rfl),trivial⟩
 refine q8 (q8 (q7 hT ?_))
 refine x8 (u5 wF _ rfl rfl) ?_
 refine z7 (q8 (q8 (q7 hT ?_)))
 refine z6 ?_
 refine q8 (X6 (fun k=>Nat.beq 2 k) hT ?_)
 refine⟨⟨rfl,rfl⟩,?_⟩
 refine x8 (u5 wW _ rfl rfl) ?_
 refine z6 ?_
 refine q8 (q7 hT ?_)
 refine z6 ?_
 refine q7 hT ?_
 refine x8 (u5 wR _ rfl rfl) ?_
 refine z6 (x7 (fun h=>?_) (fun h=>?_))
 ·have h:=of_decide_eq_true (show decide (0 > g.room)=true from h)
  omega
 refine q8 (q7 hT ?_)
 refine x8 (u5 v1g _ rfl rfl) ?_
 refine z6 ?_
 refine q8 (q7 hT ?_)
 refine Q8 (q3y 12 1 rfl) ?_
 refine x6 ?_
 exact y9 [] ⟨rfl,rfl⟩ rfl
theorem x2m (f:Flt)(base:Nat)(D:Dev):∀ t,q1r f base [] D t=D
 |0=>rfl
 |t+1=>x2m f base D t
theorem x2n (s n:Nat):∀ i,q1s [] s n i=0
 |0=>rfl
 |i+1=>x2n s n i
/-- A whole snapshot is read. -/
theorem y8h {vol:Int}{g:GeoV}{area epoch no:Int}{k m S:Nat}(h:SnapG vol g area epoch no k m S){P:y7}(hP:P.length=228*(S*k)){E:Dev}{n:Nat}(hE:CleanP E g.secs n)(hW:WroteP vol g area epoch no P k m S E){long:Int}(l0:0≤long)(l1:long≤g.room) :
 ∃ E',CleanP E' g.secs n∧E'.cells=E.cells∧E.snapRead vol g area no long=((P.take long.toNat,0),E'):=by
 have hk:=fun s i hs hi=>y0n h hP hE hW (f:=⟨3,0,0,0,0,0,0,0,0⟩) (by decide) (by decide) (by decide) (by decide) (fun h=>absurd h (by decide)) [] (s:=s) (i:=i) hs hi
 have hf:=fun s hs=>y8c h hP hE hW (f:=⟨3,0,0,0,0,0,0,0,0⟩) (by decide) (by decide) (by decide) (by decide) (fun h=>absurd h (by decide)) [] (s:=s) hs
 rw[x2m]at hk hf
 obtain⟨E',r1,r2,r3⟩:=z0r h hP hE ⟨fun s i hs hi=>.inr (hk s i hs hi)⟩ l0 l1
 refine⟨E',r1,r2,?_⟩
 have hany:(List.range S).any (q9p vol g area no k m E)=false:=by
  rw[List.any_eq_false]
  intro s hs
  rw[hf s (List.mem_range.mp hs),x2n,decide_eq_false (by omega)]
  decide
 rw[r3,hany]
theorem v1h {vol:Int}{g:GeoV}{area epoch no:Int}{b:y7}(h:¬ X9 g area 0∨V6 [vol,epoch,no]=false):putsB vol g area epoch no b=([],1):=by
 unfold Go.Proofs.YtinfbclgkghgaaaGreat.AL.putsB
 rcases h with h|h
 ·rw[q4g h];rfl
 ·rw[h]
  cases (V1 g area 0).2 != 0 <;> rfl
theorem x2p {D:Dev}{vol:Int}{g:GeoV}{area no long:Int}(h:¬ X9 g area 0∨V6 [vol,no]=false∨long<0∨g.room<long):D.snapRead vol g area no long=(([],1),D):=by
 unfold Dev.snapRead
 rcases h with h|h|h|h
 ·rw[q4g h];rfl
 ·rw[h]
  cases (V1 g area 0).2 != 0 <;> rfl
 ·rw[decide_eq_true h]
  cases (V1 g area 0).2 != 0 <;> cases V6 [vol,no] <;> rfl
 ·rw[decide_eq_true (show long > g.room from h)]
  cases (V1 g area 0).2 != 0 <;> cases V6 [vol,no] <;> cases decide (long<0) <;> rfl
def w1m (area no:Int):Bool:=decide (area≥0)&&decide (area≤1)&&decide (no≥0)&&decide (no≤4294967295)
theorem v1i {area no:Int}(a0:0≤area)(a1:area≤1):w1m area no=X2 no:=by
 unfold w1m X2
 rw[decide_eq_true (show area≥0 from a0),decide_eq_true a1];rfl
theorem w7a {no:Int}:V6 [7,0,no]=X2 no∧V6 [7,no]=X2 no:=by
 unfold V6 X2
 constructor <;> simp
set_option maxHeartbeats 8000000 in
set_option maxRecDepth 20000 in
theorem v1j (g:GeoV)(area no long:Int):AF Tryz.prog z9b [g.av,i64 area,i64 no,i64 long] [] (Q0 (bl true) []):=by
 refine AF.mono (R:=fun r H'=>∃ z,z=true∧r=bl z∧H'=[]) ?_ (by rintro r H' ⟨b,rfl,rfl,rfl⟩;exact⟨rfl,rfl⟩)
 have wsm:=q8g g
 generalize hsm:z0s g=sm at wsm
 refine u9 hT z9c rfl rfl z9d rfl ?_
 refine y8 ⟨⟨144,[(1,i64 area),(2,i64 no),(3,i64 long),(4,.p (.box g.pv))]⟩,[]⟩ True (q7 hT ?_) (fun _=>?_)
 ·exact⟨Wk.trans (Q6 0 g.pv rfl rfl) (q9 [] [1,2,3,4] rfl),trivial⟩
 refine q8 (q7 hT ?_)
 refine x8 (u5 q8h _ rfl rfl) ?_
 refine q8 (q7 hT ?_)
 refine x8 (u5 wsm _ rfl rfl) ?_
 cases hb:q6k 7 g with
 |false=>
  refine q8 (q7 hT ?_)
  refine x8 (u5 (q7j 7 g hb) _ rfl rfl) ?_
  cases sm with
  |false=>
   refine q8 (q8 (q7 hT ?_))
   refine z6 ?_
   refine q8 (q7 hT ?_)
   refine x6 ?_
   exact y9 [] ⟨true,rfl,rfl,rfl⟩ rfl
  |true=>
   refine q8 (q8 (q7 hT ?_))
   refine z6 ?_
   refine q8 (q7 hT ?_)
   refine x6 ?_
   exact y9 [] ⟨true,rfl,rfl,rfl⟩ rfl
 |true=>
 cases sm with
 |false=>
  refine q8 (q7 hT ?_)
  refine x8 (q2d 7 g hb) ?_
  refine q8 (q8 (q7 hT ?_))
  refine z6 ?_
  refine q8 (q7 hT ?_)
  refine x6 ?_
  exact y9 [] ⟨true,rfl,rfl,rfl⟩ rfl
 |true=>
 refine q8 (q7 hT ?_)
 refine x8 (q2d 7 g hb) ?_
 obtain⟨hg,_⟩:=z2n hb
 obtain⟨c0,_⟩:=x5s 7 (by decide +kernel) g hg
 obtain⟨_,hs3,hk4,hm3⟩:=y8d hsm
 obtain⟨h1,h2,h3,h4,h5,h6,h7,h8⟩:=V0 (W9 hg)
 obtain⟨_,hq2,_⟩:=z8a hg
 generalize q5b 7 g=D0 at c0
 have wOps:=v6v D0
 have wW:=q4z D0 7 g area 0 no [] hk4 hm3 (by decide) g.secs c0.ok (by omega)
 refine y8 ⟨⟨144,[(1,i64 area),(2,i64 no),(3,i64 long),(4,.p (.box g.pv)),(11,.ref 0 0)]⟩,Z5 D0⟩ True (q8 (q7 hT ?_)) (fun _=>?_)
 ·refine z6 ?_
  exact z9 ⟨q9 [0,1,2] [1,2,3,4,11] rfl,trivial⟩
 refine q8 (q7 hT ?_)
 refine x8 (Q1 [0,1,2] wOps rfl rfl rfl) ?_
 have hmay:w1m area no=true→¬ ¬ X9 g area 0∧X2 no=true:=fun h=>by
  unfold w1m at h
  simp only[Bool.and_eq_true,decide_eq_true_eq]at h
  exact⟨fun q=>q ⟨hg,by omega,by omega,by omega,by omega⟩,by unfold X2;simp only[Bool.and_eq_true,decide_eq_true_eq];omega⟩
 have hnot:w1m area no=false→¬ X9 g area 0∨X2 no=false:=fun h=>by
  by_cases q:X9 g area 0
  ·right
   rw[v1i q.2.1 q.2.2.1]at h;exact h
  ·exact .inl q
 generalize hX:D0.snapWrite 7 g area 0 no []=X at wW
 obtain⟨e,D1⟩:=X
 have wW:AFm Tryz.prog 1 z6b [.ref 0 0,i64 7,g.av,i64 area,i64 0,i64 no,.p (.sl 1 [])] (Z5 D0) (Q0 (i64 e) (Z5 D1)):=wW
 refine y8 ⟨⟨144,[(1,i64 area),(2,i64 no),(3,i64 long),(4,.p (.box g.pv)),(11,.ref 0 0),(12,i64 D0.ops),(13,i64 e)]⟩,Z5 D1⟩ True (q7 hT ?_) (fun _=>?_)
 ·refine x8 (v7s (Q1 (args:=[.ref 0 0,i64 7,g.av,i64 area,i64 0,i64 no,.p (.sl 1 [])]) [0,1,2] wW rfl rfl rfl) ⟨.inl rfl,.inl rfl,.inl rfl,.inl rfl,.inl rfl,.inl rfl,.inr ⟨rfl,1,rfl⟩,trivial⟩) ?_
  exact⟨q9 [0,3,4] [1,2,3,4,11,12,13] rfl,trivial⟩
 refine y8 ⟨⟨144,[(1,i64 area),(2,i64 no),(3,i64 long),(4,.p (.box g.pv)),(11,.ref 0 0),(12,i64 D0.ops),(13,i64 e),(14,bl (w1m area no))]⟩,Z5 D1⟩ True (q7 hT ?_) (fun _=>?_)
 ·unfold w1m
  refine x7 (fun h=>?_) (fun h=>?_)
  ·rw[show decide (area≥0)=true from h]
   refine x7 (fun h=>?_) (fun h=>?_)
   ·rw[show decide (area≤1)=true from h]
    refine x7 (fun h=>?_) (fun h=>?_)
    ·rw[show decide (no≥0)=true from h]
     exact⟨q9 [0,1,2] [1,2,3,4,11,12,13,14] rfl,trivial⟩
    ·rw[show decide (no≥0)=false from h]
     exact⟨q9 [0,1,2] [1,2,3,4,11,12,13,14] rfl,trivial⟩
   ·rw[show decide (area≤1)=false from h]
    exact⟨q9 [0,1,2] [1,2,3,4,11,12,13,14] rfl,trivial⟩
  ·rw[show decide (area≥0)=false from h]
   exact⟨q9 [0,1,2] [1,2,3,4,11,12,13,14] rfl,trivial⟩
 cases hM:w1m area no with
 |false=>
  have hn:=hnot hM
  have hp:putsB 7 g area 0 no []=([],1):=v1h (hn.imp id (fun q=>by rw[w7a.1];exact q))
  have hX2:D0.snapWrite 7 g area 0 no []=(1,D0):=by unfold Dev.snapWrite;rw[hp];rfl
  rw[hX2]at hX
  obtain⟨rfl,rfl⟩:=Prod.mk.inj hX
  have wR:=q5a D0 7 g area no 0 hk4 hm3 g.secs c0.ok (by omega)
  rw[x2p (hn.imp id (fun q=>.inl (by rw[w7a.2];exact q)))]at wR
  refine q8 (q8 (q7 hT ?_))
  refine z6 ?_
  refine q8 (q7 hT ?_)
  refine x8 (Q1 [0,1,2] wR rfl rfl rfl) ?_
  refine q8 (q7 hT ?_)
  refine x8 (Q1 [0,1,2] wOps rfl rfl rfl) ?_
  refine x6 ?_
  exact y9 [] ⟨_,(show (D0.ops==D0.ops)=true from beq_self_eq_true _),rfl,rfl⟩ rfl
 |true=>
  obtain⟨hf,hwn⟩:=hmay hM
  have hf:=Classical.not_not.mp hf
  obtain⟨S,hS⟩:∃ n:Nat,g.s=n:=⟨g.s.toNat,by omega⟩
  obtain⟨k,hk⟩:∃ n:Nat,g.k=n:=⟨g.k.toNat,by omega⟩
  obtain⟨m,hm⟩:∃ n:Nat,g.m=n:=⟨g.m.toNat,by omega⟩
  have hG:SnapG 7 g area 0 no k m S:=⟨hg,hk,hm,hS,hf.2.1,hf.2.2.1,by rw[w7a.1];exact hwn⟩
  obtain⟨E,e1,c1,hW,_⟩:=q8f hG (b:=[]) (Nat.zero_le _) c0
  rw[e1]at hX
  obtain⟨rfl,rfl⟩:=Prod.mk.inj hX
  have hSk:S*k≤3*4:=Nat.mul_le_mul (by omega) (by omega)
  have hskI:g.s*g.k=((S*k:Nat):Int):=by rw[hS,hk];simp
  have hroomW:IntKind.i64.wrap (IntKind.i64.wrap (g.s*g.k)*228)=g.room:=by
   rw[hskI,x9 ((S*k:Nat):Int) (by omega) (by omega),x9 _ (by omega) (by omega),hG.room];omega
  have hro:=hG.room
  have hSn:S*(k+m)≤3*7:=Nat.mul_le_mul (by omega) (by omega)
  obtain⟨fe,t,F,hR,hFo,hfe⟩:∃ fe t F,E.snapRead 7 g area no long=((t,fe),F)∧F.Ok 5000∧(fe==0)=(decide (long≥0)&&decide (long≤g.room)):=by
   by_cases hl:0≤long∧long≤g.room
   ·obtain⟨F,r1,_,r3⟩:=y8h hG (q7i (Nat.zero_le _)) c1 hW hl.1 hl.2
    exact⟨_,_,F,r3,r1.ok.mono (by omega),by rw[decide_eq_true (show long≥0 from hl.1),decide_eq_true hl.2];rfl⟩
   ·refine⟨1,[],E,x2p (.inr (.inr (by omega))),c1.ok.mono (by omega),?_⟩
    by_cases h0:long≥0
    ·rw[decide_eq_true h0,decide_eq_false (by omega)];rfl
    ·rw[decide_eq_false h0];rfl
  have wR:=q5a E 7 g area no long hk4 hm3 (g.secs+S*(k+m)) c1.ok (by omega)
  rw[hR]at wR
  have hover:∀ n:Nat,(n:Int)=g.room+1→(putsB 7 g area 0 no (List.replicate n 0))=([],2):=fun n hn=>by
   unfold Go.Proofs.YtinfbclgkghgaaaGreat.AL.putsB
   rw[q0t hf,hG.word,decide_eq_true (show ((List.replicate n (0:UInt8)).length:Int) > g.room by rw[List.length_replicate];omega)];rfl
  have wN:=x6b 7 g area no hf (by rw[w7a.2];exact hwn)
  have wm:=q6m g
  rw[hg]at wm
  clear hW c0 e1 wW wOps
  refine y8 ⟨⟨144,[(1,i64 area),(2,i64 no),(3,i64 long),(4,.p (.box g.pv)),(11,.ref 0 0),(13,i64 0)]⟩,Z5 E⟩ True (q8 (q7 hT ?_)) (fun _=>?_)
  ·refine z6 ?_
   exact z9 ⟨q9 [0,1,2] [1,2,3,4,11,13] rfl,trivial⟩
  refine y8 ⟨⟨144,[(1,i64 area),(2,i64 no),(3,i64 long),(4,.p (.box g.pv)),(11,.ref 0 0),(13,i64 0),(18,i64 fe)]⟩,Z5 F⟩ True (q7 hT ?_) (fun _=>?_)
  ·refine x8 (Q1 [0,1,2] wR rfl rfl rfl) ?_
   exact⟨q9 [0,1,2] [1,2,3,4,11,13,18] rfl,trivial⟩
  refine w6 (fun st=>∃ r,r=g.room∧st=⟨⟨144,[(1,i64 area),(2,i64 no),(3,i64 long),(4,.p (.box g.pv)),(11,.ref 0 0),(13,i64 0),(18,i64 fe),(19,i64 r)]⟩,Z5 F⟩) (q7 hT ?_) ?_
  ·exact⟨_,q9 [0,1,2] [1,2,3,4,11,13,18,19] rfl,_,hroomW,rfl⟩
  rintro _ ⟨r,hr,rfl⟩
  have hr1:IntKind.i64.wrap (r+1)=r+1:=x9 _ (by omega) (by omega)
  refine w6 (fun st=>∃ n:Nat,(n:Int)=g.room+1∧st=⟨⟨144,[(1,i64 area),(2,i64 no),(3,i64 long),(4,.p (.box g.pv)),(11,.ref 0 0),(13,i64 0),(18,i64 fe),(19,i64 r),(20,bA (List.replicate n 0))]⟩,Z5 F⟩) (q7 hT ?_) ?_
  ·refine⟨⟨rfl,by omega,by show IntKind.i64.wrap (r+1)*1≤_;omega,by omega⟩,?_⟩
   refine⟨_,Wk.trans (q0s 20 3 (IntKind.i64.wrap (r+1)).toNat (ys:=bx (List.replicate (IntKind.i64.wrap (r+1)).toNat 0)) ?_ ?_ rfl rfl) (q9 [0,1,2] [1,2,3,4,11,13,18,19,20] rfl),(IntKind.i64.wrap (r+1)).toNat,by omega,rfl⟩
   ·unfold bx;rw[List.map_replicate];rfl
   ·rw[List.length_replicate]
  rintro _ ⟨n,hn,rfl⟩
  have wO:=q4z F 7 g area 0 no (List.replicate n 0) hk4 hm3 (by rw[List.length_replicate];omega) 5000 hFo (by decide)
  rw[show F.snapWrite 7 g area 0 no (List.replicate n 0)=(2,F) by unfold Dev.snapWrite;rw[hover n hn];rfl]at wO
  refine y8 ⟨⟨144,[(1,i64 area),(2,i64 no),(3,i64 long),(4,.p (.box g.pv)),(13,i64 0),(18,i64 fe),(19,i64 r),(21,i64 2)]⟩,[]⟩ True (q7 hT ?_) (fun _=>?_)
  ·refine x8 (Q1 [0,1,2] wO rfl rfl rfl) ?_
   exact⟨q9 [] [1,2,3,4,13,18,19,21] rfl,trivial⟩
  refine q8 (q7 hT ?_)
  refine y8 ⟨⟨144,[(3,i64 long),(4,.p (.box g.pv)),(13,i64 0),(18,i64 fe),(19,i64 r),(21,i64 2),(24,i64 21)]⟩,[]⟩ True (q7 hT ?_) (fun _=>?_)
  ·refine x8 (u5 wN _ rfl rfl) ?_
   exact⟨q9 [] [3,4,13,18,19,21,24] rfl,trivial⟩
  refine w6 (fun st=>∃ v,v=(decide (long≥0)&&decide (long≤g.room))∧st=⟨⟨144,[(13,i64 0),(18,i64 fe),(21,i64 2),(24,i64 21),(25,bl v)]⟩,[]⟩) (q7 hT ?_) ?_
  ·refine x8 (u5 wm _ rfl rfl) ?_
   refine x7 (fun h=>?_) (fun h=>?_)
   ·rw[show decide (long≥0)=true from h]
    exact⟨_,q9 [] [13,18,21,24,25] rfl,_,by rw[← hr];rfl,rfl⟩
   ·rw[show decide (long≥0)=false from h]
    exact⟨_,q9 [] [13,18,21,24,25] rfl,_,rfl,rfl⟩
  rintro _ ⟨v,hv,rfl⟩
  rw[← hv]at hfe
  refine q8 (q7 hT ?_)
  refine x7 (fun h=>?_) (fun h=>?_)
  ·refine x6 ?_
   exact y9 [] ⟨true,rfl,rfl,rfl⟩ rfl
  ·have h:((fe==0)==v)=false:=h
   rw[hfe]at h
   simp at h
end Go.Proofs.YtinfbclgkghgaaaGreat.AL
namespace Go.Proofs.YtinfbclgkghgaaaGreat.AL
open Go Go.Proofs Go.Proofs.YtinfbclgkghgaaaGreat.AL.Crc
theorem w7b:V6 [7,1,5]=true∧V6 [7,1,6]=true:=by decide +kernel
theorem u8r {g:GeoV}{k m S:Nat}{old new:y7}(h0:SnapG 7 g 0 1 5 k m S)(h1:SnapG 7 g 1 1 6 k m S)(ho:old.length≤228*(S*k))(hn:new.length≤228*(S*k)){D:Dev}{n:Nat}(hD:CleanP D g.secs n)(hF:∀ a,a<g.secs→D.cells[a]?=some (q4i (U4 7 a)))(die:Int)(keep:List Bool) :
 ∃ E0 E2 f,D.snapWrite 7 g 0 1 5 old=(0,E0)∧E0.Ok (n+S*(k+m))∧(E0.arm die).snapWrite 7 g 1 1 6 new=(f,E2)∧E2.Ok (n+S*(k+m)+S*(k+m)) ∧
  ∃ F G i t,(E2.crashed keep).snapRead 7 g 0 5 old.length=((old,0),F)∧F.Ok (n+S*(k+m)+S*(k+m))∧F.snapRead 7 g 1 6 new.length=((t,i),G)∧((i=0∧t=new)∨(i=22∧t=[]∧f=21)):=by
 obtain⟨E0,e1,e2,e3,e4⟩:=q8f h0 ho hD
 have hP:=q7i hn
 have hlive:=e2.live.arm die
 have hlen:=q2k (vol:=7) (g:=g) (area:=1) (epoch:=1) (no:=6) (P:=q5t (228*(S*k)) new) (k:=k) (m:=m) S
 obtain⟨ok2,j,j1,c1,c2,c3⟩:=u1j _ (h1.puts_ok hP) hlive keep
 rw[hlen]at ok2 j1 c1 c3
 obtain⟨f1,f2⟩:=h1.cells (P:=q5t (228*(S*k)) new) (cs:=(E0.arm die).cells) hlive.len j1
 rw[← c2]at f1 f2
 obtain⟨n1,n2,n3,n4,n5,n6⟩:=h0.nat
 have hb:g.base 0+S*(k+m)=g.base 1:=by
  have q0:=h0.base0.1
  have q1:=h1.base0
  unfold GeoV.base
  rw[q1.2]
  rw[Int.zero_mul]at q0 ⊢
  omega
 have hW0:WroteP 7 g 0 1 5 (q5t (228*(S*k)) old) k m S ((E0.arm die).all9 (q2x 7 g 1 1 6 (q5t (228*(S*k)) new) k m S) |>.2.crashed keep):=e3.keep fun s i hs hi=>by
  have:=q8q hs hi
  exact f2 _ (.inl (by omega))
 obtain⟨F,r1,r2,r3⟩:=y8h h0 (q7i ho) c1 hW0 (long:=(old.length:Int)) (by omega) (by rw[h0.room];omega)
 rw[Int.toNat_natCast,y0p]at r3
 have hcell:∀ s i,s<S→i<k+m→q1u 7 (g.at_ 1 s) 6 i (q4p F (g.base 1+(s*(k+m)+i)))=if s*(k+m)+i<j then (W0 (q5t (228*(S*k)) new) k m s).getD i [] else []:=fun s i hs hi=>by
  have hlt:=q8q hs hi
  have hfit:=h1.fits
  have hc:=f1 s i hs hi
  rw[← r2]at hc
  by_cases q:s*(k+m)+i<j
  ·rw[if_pos q]at hc ⊢
   rw[q5u _ _ hc]
   exact h1.kept hP hs hi
  ·rw[if_neg q]at hc ⊢
   have:(E0.arm die).cells[g.base 1+(s*(k+m)+i)]?=some (q4i (U4 7 (g.base 1+(s*(k+m)+i)))):=by
    show E0.cells[_]?=_
    rw[e4 _ (.inr (by omega))]
    exact hF _ (by omega)
   rw[this]at hc
   rw[q5u _ _ hc]
   exact y8b (by decide +kernel) (by omega) _ _ _ _
 obtain⟨G,s1,s2,s3⟩:=z0r h1 hP r1 ⟨fun s i hs hi=>by
  rw[hcell s i hs hi]
  split
  ·exact .inr rfl
  ·exact .inl rfl⟩ (long:=(new.length:Int)) (by omega) (by rw[h1.room];omega)
 rw[Int.toNat_natCast,y0p]at s3
 refine⟨E0,_,((E0.arm die).all9 (q2x 7 g 1 1 6 (q5t (228*(S*k)) new) k m S)).1,e1,e2.ok,?_,ok2,F,G,?_⟩
 ·unfold Dev.snapWrite
  rw[h1.putsB hn];rfl
 ·cases hany:(List.range S).any (q9p 7 g 1 6 k m F) with
  |false=>
   rw[hany]at s3
   exact⟨0,new,r3,r1.ok,s3,.inl ⟨rfl,rfl⟩⟩
  |true=>
   rw[hany]at s3
   refine⟨22,[],r3,r1.ok,s3,.inr ⟨rfl,rfl,?_⟩⟩
   rcases c3 with ⟨_,q⟩|q
   ·exfalso
    obtain⟨s,hs,hfew⟩:=List.any_eq_true.mp hany
    have hs:=List.mem_range.mp hs
    have hc:∀ i,i≤k+m→y8a (q9n 7 g 1 6 (k+m) F s) i=i:=by
     intro i
     induction i with
     |zero=>intro _;rfl
     |succ i ih=>
      intro hi
      have hlt:=q8q hs (show i<k+m by omega)
      unfold y8a
      rw[ih (by omega),z3u (show i<k+m by omega),hcell s i hs (show i<k+m by omega),if_pos (show s*(k+m)+i<j by omega),if_pos (show 0<((W0 (q5t (228*(S*k)) new) k m s).getD i []).length by rw[z3s hP hs (by omega)];decide)]
    rw[x5w,hc _ (Nat.le_refl _),decide_eq_true_eq]at hfew
    omega
   ·exact q
set_option maxHeartbeats 8000000 in
set_option maxRecDepth 20000 in
theorem v6w (g:GeoV)(old new:y7)(die:Int)(keep:List Bool):AF Tryz.prog y1k [g.av,bA old,bA new,i64 die,.p (.sl 1 (kx keep))] [] (Q0 (bl true) []):=by
 refine AF.mono (R:=fun r H'=>∃ z,z=true∧r=bl z∧H'=[]) ?_ (by rintro r H' ⟨b,rfl,rfl,rfl⟩;exact⟨rfl,rfl⟩)
 have wsm:=q8g g
 have hol:=u6 old
 have hnl:=u6 new
 generalize hsm:z0s g=sm at wsm
 refine u9 hT y1m rfl rfl y1n rfl ?_
 refine y8 ⟨⟨127,[(1,bA old),(2,bA new),(3,i64 die),(4,.p (.sl 1 (kx keep))),(5,.p (.box g.pv))]⟩,[]⟩ True (q7 hT ?_) (fun _=>?_)
 ·exact⟨Wk.trans (Q6 0 g.pv rfl rfl) (q9 [] [1,2,3,4,5] rfl),trivial⟩
 refine q8 (q7 hT ?_)
 refine x8 (u5 q8h _ rfl rfl) ?_
 refine q8 (q7 hT ?_)
 refine x8 (u5 wsm _ rfl rfl) ?_
 cases hb:q6k 7 g with
 |false=>
  refine q8 (q7 hT ?_)
  refine x8 (u5 (q7j 7 g hb) _ rfl rfl) ?_
  cases sm with
  |false=>
   refine q8 (q8 (q7 hT ?_))
   refine z6 ?_
   refine q8 (q7 hT ?_)
   refine x6 ?_
   exact y9 [] ⟨true,rfl,rfl,rfl⟩ rfl
  |true=>
   refine q8 (q8 (q7 hT ?_))
   refine z6 ?_
   refine q8 (q7 hT ?_)
   refine x6 ?_
   exact y9 [] ⟨true,rfl,rfl,rfl⟩ rfl
 |true=>
 cases sm with
 |false=>
  refine q8 (q7 hT ?_)
  refine x8 (q2d 7 g hb) ?_
  refine q8 (q8 (q7 hT ?_))
  refine z6 ?_
  refine q8 (q7 hT ?_)
  refine x6 ?_
  exact y9 [] ⟨true,rfl,rfl,rfl⟩ rfl
 |true=>
 refine q8 (q7 hT ?_)
 refine x8 (q2d 7 g hb) ?_
 obtain⟨hg,_⟩:=z2n hb
 obtain⟨c0,cF⟩:=x5s 7 (by decide +kernel) g hg
 obtain⟨_,hs3,hk4,hm3⟩:=y8d hsm
 obtain⟨h1,h2,h3,h4,h5,h6,h7,h8⟩:=V0 (W9 hg)
 obtain⟨_,hq2,_⟩:=z8a hg
 generalize q5b 7 g=D0 at c0 cF
 refine y8 ⟨⟨127,[(1,bA old),(2,bA new),(3,i64 die),(4,.p (.sl 1 (kx keep))),(5,.p (.box g.pv)),(13,.ref 0 0)]⟩,Z5 D0⟩ True (q8 (q7 hT ?_)) (fun _=>?_)
 ·refine x7 (fun h=>?_) (fun h=>?_)
  ·refine z6 ?_
   refine q8 (q7 hT ?_)
   refine x6 ?_
   exact y9 [] ⟨true,rfl,rfl,rfl⟩ rfl
  refine z6 (x7 (fun h=>?_) (fun h=>?_))
  ·refine q8 (q7 hT ?_)
   refine x6 ?_
   exact y9 [] ⟨true,rfl,rfl,rfl⟩ rfl
  ·exact z9 ⟨q9 [0,1,2] [1,2,3,4,5,13] rfl,trivial⟩
 obtain⟨S,hS⟩:∃ n:Nat,g.s=n:=⟨g.s.toNat,by omega⟩
 obtain⟨k,hk⟩:∃ n:Nat,g.k=n:=⟨g.k.toNat,by omega⟩
 obtain⟨m,hm⟩:∃ n:Nat,g.m=n:=⟨g.m.toNat,by omega⟩
 have hSk:S*k≤3*4:=Nat.mul_le_mul (by omega) (by omega)
 have hSn:S*(k+m)≤3*7:=Nat.mul_le_mul (by omega) (by omega)
 have hskI:g.s*g.k=((S*k:Nat):Int):=by rw[hS,hk];simp
 have hroomW:IntKind.i64.wrap (IntKind.i64.wrap (g.s*g.k)*228)=((228*(S*k):Nat):Int):=by
  rw[hskI,x9 ((S*k:Nat):Int) (by omega) (by omega),x9 _ (by omega) (by omega)];omega
 refine y8 ⟨⟨127,[(1,bA old),(2,bA new),(3,i64 die),(4,.p (.sl 1 (kx keep))),(5,.p (.box g.pv)),(13,.ref 0 0)]⟩,Z5 D0⟩ (old.length≤228*(S*k)∧new.length≤228*(S*k)) (q8 (q7 hT ?_)) ?_
 ·refine x7 (fun h=>?_) (fun h=>?_)
  ·refine z6 ?_
   refine q8 (q7 hT ?_)
   refine x6 ?_
   exact y9 [] ⟨true,rfl,rfl,rfl⟩ rfl
  have q1:=of_decide_eq_false (show decide ((((bx old).length:Nat):Int) > IntKind.i64.wrap (IntKind.i64.wrap (g.s*g.k)*228))=false from h)
  refine z6 (x7 (fun h=>?_) (fun h=>?_))
  ·refine q8 (q7 hT ?_)
   refine x6 ?_
   exact y9 [] ⟨true,rfl,rfl,rfl⟩ rfl
  ·have q2:=of_decide_eq_false (show decide ((((bx new).length:Nat):Int) > IntKind.i64.wrap (IntKind.i64.wrap (g.s*g.k)*228))=false from h)
   rw[hroomW]at q1 q2
   exact z9 ⟨q9 [0,1,2] [1,2,3,4,5,13] rfl,by omega,by omega⟩
 rintro⟨bo,bn⟩
 have hG0:SnapG 7 g 0 1 5 k m S:=⟨hg,hk,hm,hS,by decide,by decide,w7b.1⟩
 have hG1:SnapG 7 g 1 1 6 k m S:=⟨hg,hk,hm,hS,by decide,by decide,w7b.2⟩
 obtain⟨E0,E2,f,e1,ok0,e2,ok2,F,G,i,t,r0,okF,r1,hfin⟩:=u8r hG0 hG1 bo bn c0 cF die keep
 have wW0:=q4z D0 7 g 0 1 5 old hk4 hm3 (by omega) g.secs c0.ok (by omega)
 rw[e1]at wW0
 have wArm:=v4b E0 die
 have wW1:=q4z (E0.arm die) 7 g 1 1 6 new hk4 hm3 (by omega) (g.secs+S*(k+m)) (ok0.arm die) (by omega)
 rw[e2]at wW1
 have wC:=w3r E2 keep ok2.at_ (by have:=ok2.wl;omega)
 have wR0:=q5a (E2.crashed keep) 7 g 0 5 old.length hk4 hm3 (g.secs+S*(k+m)+S*(k+m)) (ok2.crashed keep) (by omega)
 rw[r0,← hol]at wR0
 have wR1:=q5a F 7 g 1 6 new.length hk4 hm3 (g.secs+S*(k+m)+S*(k+m)) okF (by omega)
 rw[r1,← hnl]at wR1
 have wS0:=z0g old old (by omega)
 rw[beq_self_eq_true]at wS0
 have htl:t.length≤1000000:=by
  rcases hfin with ⟨_,q⟩|⟨_,q,_⟩
  ·rw[q];omega
  ·rw[q];exact Nat.zero_le _
 have wS1:=z0g t new htl
 refine y8 ⟨⟨127,[(1,bA old),(2,bA new),(3,i64 die),(4,.p (.sl 1 (kx keep))),(5,.p (.box g.pv)),(13,.ref 0 0),(14,i64 0)]⟩,Z5 E0⟩ True (q7 hT ?_) (fun _=>?_)
 ·refine x8 (Q1 [0,1,2] wW0 rfl rfl rfl) ?_
  exact⟨q9 [0,3,4] [1,2,3,4,5,13,14] rfl,trivial⟩
 refine y8 ⟨⟨127,[(1,bA old),(2,bA new),(4,.p (.sl 1 (kx keep))),(5,.p (.box g.pv)),(13,.ref 0 0),(14,i64 0)]⟩,Z5 (E0.arm die)⟩ True (q7 hT ?_) (fun _=>?_)
 ·refine x8 (Q1 [0,1,2] wArm rfl rfl rfl) ?_
  exact⟨q9 [0,1,2] [1,2,4,5,13,14] rfl,trivial⟩
 refine y8 ⟨⟨127,[(1,bA old),(2,bA new),(4,.p (.sl 1 (kx keep))),(5,.p (.box g.pv)),(13,.ref 0 0),(14,i64 0),(15,i64 f)]⟩,Z5 E2⟩ True (q7 hT ?_) (fun _=>?_)
 ·refine x8 (Q1 [0,1,2] wW1 rfl rfl rfl) ?_
  exact⟨q9 [0,3,4] [1,2,4,5,13,14,15] rfl,trivial⟩
 refine y8 ⟨⟨127,[(1,bA old),(2,bA new),(5,.p (.box g.pv)),(13,.ref 0 0),(14,i64 0),(15,i64 f)]⟩,Z5 (E2.crashed keep)⟩ True (q7 hT ?_) (fun _=>?_)
 ·refine x8 (Q1 [0,1,2] wC rfl rfl rfl) ?_
  exact⟨q9 [0,3,4] [1,2,5,13,14,15] rfl,trivial⟩
 refine y8 ⟨⟨127,[(1,bA old),(2,bA new),(5,.p (.box g.pv)),(13,.ref 0 0),(14,i64 0),(15,i64 f),(16,bA old),(17,i64 0)]⟩,Z5 F⟩ True (q7 hT ?_) (fun _=>?_)
 ·refine x8 (Q1 [0,1,2] wR0 rfl rfl rfl) ?_
  exact⟨q9 [0,1,2] [1,2,5,13,14,15,16,17] rfl,trivial⟩
 refine y8 ⟨⟨127,[(1,bA old),(2,bA new),(14,i64 0),(15,i64 f),(16,bA old),(17,i64 0),(18,bA t),(19,i64 i)]⟩,[]⟩ True (q7 hT ?_) (fun _=>?_)
 ·refine x8 (Q1 [0,1,2] wR1 rfl rfl rfl) ?_
  exact⟨q9 [] [1,2,14,15,16,17,18,19] rfl,trivial⟩
 refine q8 (q7 hT ?_)
 refine x8 (u5 wS0 _ rfl rfl) ?_
 rcases hfin with ⟨rfl,rfl⟩|⟨rfl,rfl,rfl⟩
 ·rw[beq_self_eq_true]at wS1
  refine q8 (q7 hT ?_)
  refine x8 (u5 wS1 _ rfl rfl) ?_
  refine q8 (q7 hT ?_)
  refine x6 ?_
  exact y9 [] ⟨true,rfl,rfl,rfl⟩ rfl
 ·refine q8 (q7 hT ?_)
  refine x8 (u5 wS1 _ rfl rfl) ?_
  refine q8 (q7 hT ?_)
  refine x6 ?_
  exact y9 [] ⟨true,rfl,rfl,rfl⟩ rfl
end Go.Proofs.YtinfbclgkghgaaaGreat.AL
