/- A part of the proof. -/
import Derived.Test.YtinfbclgkghgaaaGreatSnipM
open Option.some renaming inj→k0y
open List renaming getElem?_eq_getElem→k0x,getD_eq_getElem?_getD→k0w,getElem?_eq_some_iff→k0u,getElem?_append_right→k0s,getElem?_map→k1q,length_append→k1z,length_map→k1y,getElem_mem→k1x,length_replicate→k2q,take_of_length_le→k2z,getElem?_set_self→k2y,mem_of_getElem?→k2x,length_take→k2u,take_add_one→k2t,getElem?_range→k2s,length_range→k3q
open Int renaming toNat_natCast→k0v
open Nat renaming le_refl→k1w,mul_le_mul_right→k2v
open Bool renaming and_eq_true→k1v
set_option maxHeartbeats 4000000
set_option maxRecDepth 20000
namespace Go.Proofs.YtinfbclgkghgaaaGreat.AL
open Go Go.Proofs
theorem w2s (g:GeoV)(b:z6):AF Tryz.prog y8u [g.av,bA b] [] (v8 (.clo (.func q6c) [.p (.box g.pv),.p (.box [bP b])]) []):=by
 refine v6 hT y8v rfl rfl y8w rfl ?_
 refine q8 hT ?_
 refine u6 (Q4 0 g.pv rfl rfl) ?_
 refine u6 (Q4 1 [bP b] rfl rfl) ?_
 refine q8 hT ?_
 refine y9 ?_
 exact z9 [] ⟨rfl,rfl⟩ rfl
/-- A round,whatever the record is. -/
theorem v3b {P:Program}{α β:Type}{M n:Nat}{q:RecK}{lf:List (Nat × AV)}{args:List AV}{J:ABlk→α→List ABlk}{Z:ABlk→β→List ABlk}{a:α}{Rnd:α→Prop}{Stp:Code→β→Prop}
 (hJ:∀ L a,(J L a)[M]?=some L∧∀ L',(J L a).set M L'=J L' a) (hZ:∀ L z,(Z L z)[M]?=some L∧∀ L',(Z L z).set M L'=Z L' z)
 (hlf:∀ t u,Z9 lf t=some u→t<n) (hps:∀ p∈q.ps.toList,p<n) (hpa:q.ps.size=args.length) (hbf:q6b (M+1) lf=true)
 (hround:∀ B l,U4 (M+1) l=true→∀ q2:RecK,AW P (some B) (M+1) q.assign ⟨⟨n,z6i lf q.ps.toList args⟩,J (.lp q2 .ready none l) a⟩
  (z5x (fun s1=>s1.H[M]?=some (.lp q2 .ready none l)∧AW P (some B) (M+1) q.body ⟨s1.fr,s1.H.set M (.lp q2 .busy none l)⟩ (w4s M J Z (.lp q2 .busy none l) Rnd Stp)) (fun _ _=>False))) :
 AYm P (M+1) M args (J (.lp q .ready none (W8 n lf)) a) (fun r H'=>(r=.p (.raw (.bool true))∧∃ a',Rnd a'∧H'=J (.lp q .ready none (W8 n lf)) a')∨(r=.p (.raw (.bool false))∧∃ c z,Stp c z∧H'=Z (.lp q .done (some c) (W8 n lf)) z)):=
 x1h hJ hZ hlf hps hpa hbf fun B l hl=>hround B l hl q
theorem u0x (L:ABlk)(Y:List Put9)(x:Put9)(r:List ABlk):shJ L (Y++[x],r)=.cells q0s [.p (.raw (.slice none 0 0))] :: .cells q0r [i64 0] :: .cells q0s [.msl 4 2 0 (px Y++[x.pv]).length] :: L :: .row q9b 2 (px Y++[x.pv]) :: r:=by
 show _ :: _ :: ABlk.cells q0s [.msl 4 2 0 (px (Y++[x])).length] :: _ :: .row q9b 2 (px (Y++[x])) :: _=_
 rw[show px (Y++[x])=px Y++[x.pv] by simp[px]]
def v8r (vol:Int)(g:GeoV)(area epoch no:Int)(all:List z6)(s i:Nat):Put9:=⟨g.at_ area s+i,(Blk.mk 4 vol (g.at_ area s+i) epoch no (all.getD i [])).sld.1⟩
def z0s (vol:Int)(g:GeoV)(area epoch no:Int)(all:List z6)(s:Nat):List Put9:=(List.range all.length).map (v8r vol g area epoch no all s)
def W5 (P:z6)(k m s:Nat):List z6:=q0i P k s++q1g (q0i P k s) m 228
def q4q (vol:Int)(g:GeoV)(area epoch no:Int)(P:z6)(k m:Nat):Nat→List Put9
 |0=>[]
 |s+1=>q4q vol g area epoch no P k m s++z0s vol g area epoch no (W5 P k m s) s
def putsB (vol:Int)(g:GeoV)(area epoch no:Int)(b:z6):List Put9 × Int:=match (X9 g area 0).2 != 0||!U8 [vol,epoch,no]with
 |true=>([],1)
 |false=>match decide ((b.length:Int) > g.room) with
  |true=>([],2)
  |false=>(q4q vol g area epoch no (z0r g.room.toNat b) g.k.toNat g.m.toNat g.s.toNat,0)
theorem q8p (P:z6)(k m s:Nat):(W5 P k m s).length=k+m:=by unfold W5;rw[k1z,q3t,q3b]
theorem y7s {vol:Int}{g:GeoV}{area epoch no:Int}{all:List z6}{s:Nat}:(z0s vol g area epoch no all s).length=all.length:=by unfold z0s;rw[k1y,k3q]
theorem q3u {vol:Int}{g:GeoV}{area epoch no:Int}{P:z6}{k m:Nat}:∀ s,(q4q vol g area epoch no P k m s).length=s*(k+m)
 |0=>(Nat.zero_mul _).symm
 |s+1=>by
  unfold q4q
  rw[k1z,q3u s,y7s,q8p,Nat.succ_mul]
theorem w2t {g:GeoV}(hg:g.may=true){area s:Int}(a0:0≤area)(a1:area≤1)(s0:0≤s)(s1:s<g.s):0≤g.at_ area s∧g.at_ area s+(g.k+g.m)≤100000:=by
 obtain⟨h1,h2,h3,h4,h5,h6,h7,h8⟩:=V1 (V3 hg)
 unfold GeoV.at_
 have e1:0≤area*g.s∧area*g.s≤g.s:=by
  rcases (show area=0∨area=1 by omega) with rfl|rfl <;> omega
 have hm:=Int.mul_le_mul (show area*g.s+s≤64 by omega) (show g.k+g.m≤24 by omega) (by omega) (by omega)
 have hm0:0≤(area*g.s+s)*(g.k+g.m):=Int.mul_nonneg (by omega) (by omega)
 omega
def z4w (vol:Int)(g:GeoV)(area epoch no:Int):List (Nat × AV):=[(6,.p (.box [.raw (.int .i64 vol)])),(7,.p (.box g.pv)),(8,.p (.box [.raw (.int .i64 area)])),(9,.p (.box [.raw (.int .i64 epoch)])),(10,.p (.box [.raw (.int .i64 no)])),(12,.ref 0 0),(13,.ref 1 0)]
theorem v3c (vol:Int)(g:GeoV)(area epoch no:Int)(b:z6)(hk4:g.k≤4)(hm3:g.m≤3)(_hb:b.length≤1000000) :
 AF Tryz.prog x8c [i64 vol,g.av,i64 area,i64 epoch,i64 no,bA b] [] (v8 (.tup [.p (.sl 2 (px (putsB vol g area epoch no b).1)),i64 (putsB vol g area epoch no b).2]) []):=by
 refine AF.mono (R:=fun r H'=>∃ z,z=putsB vol g area epoch no b∧r=.tup [.p (.sl 2 (px z.1)),i64 z.2]∧H'=[]) ?_ (by rintro r H' ⟨z,rfl,rfl,rfl⟩;exact⟨rfl,rfl⟩)
 have hbl:=w6 b
 have wF:=q7v g area 0
 have wW:=y0t [vol,epoch,no] (by show 3≤64;decide)
 have wR:=y6z g
 have eZ:putsB vol g area epoch no b=match (X9 g area 0).2 != 0||!U8 [vol,epoch,no]with
  |true=>([],1)
  |false=>match decide ((b.length:Int) > g.room) with
   |true=>([],2)
   |false=>(q4q vol g area epoch no (z0r g.room.toNat b) g.k.toNat g.m.toNat g.s.toNat,0):=rfl
 generalize putsB vol g area epoch no b=Z at eZ
 have hfe:(X9 g area 0).2=0→W4 g area 0:=fun h=>by
  by_cases hf:W4 g area 0
  ·exact hf
  ·rw[q4p hf]at h;exact absurd h (by decide)
 generalize hF:X9 g area 0=F at wF eZ hfe
 refine v6 hT x8d rfl rfl x8e rfl ?_
 refine z7 ⟨⟨101,(5,bA b) :: z4w vol g area epoch no⟩,[.cells q0s [.p (.raw (.slice none 0 0))],.cells q0r [i64 0]]⟩ True (q9 hT ?_) (fun _=>?_)
 ·exact⟨Wk.trans (Q4 0 [.raw (.int .i64 vol)] rfl rfl) (Wk.trans (Q4 1 g.pv rfl rfl) (Wk.trans (Q4 2 [.raw (.int .i64 area)] rfl rfl) (Wk.trans (Q4 3 [.raw (.int .i64 epoch)] rfl rfl) (Wk.trans (Q4 4 [.raw (.int .i64 no)] rfl rfl) (q7 [5,6] [5,6,7,8,9,10,12,13] rfl))))),trivial⟩
 refine z7 ⟨⟨101,(5,bA b) :: z4w vol g area epoch no⟩,[.cells q0s [.p (.raw (.slice none 0 0))],.cells q0r [i64 0]]⟩ (W4 g area 0∧U8 [vol,epoch,no]=true∧¬ (b.length:Int) > g.room) (q8 hT ?_) ?_
 ·refine x7 (w7 wF _ rfl rfl) ?_
  refine z3 ?_
  refine y6 (fun st=>∃ v,v=(F.2 != 0||!U8 [vol,epoch,no])∧st=⟨⟨101,(33,bl v) :: (5,bA b) :: z4w vol g area epoch no⟩,[.cells q0s [.p (.raw (.slice none 0 0))],.cells q0r [i64 0]]⟩) (q8 hT ?_) ?_
  ·refine z4 (y4 (fun h=>?_) (fun h=>?_))
   ·refine z5 ?_
    exact⟨_,q7 [0,1] [33,5,6,7,8,9,10,12,13] rfl,(F.2 != 0),by rw[show (F.2 != 0)=true from h];rfl,rfl⟩
   ·refine X8 (fun k=>Nat.beq 3 k) hT ?_
    refine⟨⟨rfl,rfl⟩,?_⟩
    refine x7 (w7 wW _ rfl rfl) ?_
    exact⟨_,q7 [0,1] [33,5,6,7,8,9,10,12,13] rfl,!U8 [vol,epoch,no],by rw[show (F.2 != 0)=false from h];rfl,rfl⟩
  rintro _ ⟨v,hv,rfl⟩
  rw[← hv]at eZ
  refine z4 (y4 (fun h=>?_) (fun h=>?_))
  ·have h:v=true:=h
   rw[h]at eZ
   refine q8 hT ?_
   refine u6 (V0 0 [.p (.sl 2 [])] rfl ⟨.inr (.inr (.inr ⟨2,rfl,rfl⟩)),trivial⟩) ?_
   refine y9 ?_
   exact z9 [] ⟨([],1),eZ.symm,rfl,rfl⟩ rfl
  ·have h:v=false:=h
   rw[h]at eZ hv
   have hv:(F.2 != 0)=false∧(!U8 [vol,epoch,no])=false:=by rw[← Bool.or_eq_false_iff];exact hv.symm
   refine q8 hT ?_
   refine x7 (w7 wR _ rfl rfl) ?_
   refine z4 (y4 (fun h=>?_) (fun h=>?_))
   ·have h:decide ((((bx b).length:Nat):Int) > g.room)=true:=h
    rw[hbl]at h
    rw[h]at eZ
    refine q8 hT ?_
    refine u6 (V0 0 [.p (.sl 2 [])] rfl ⟨.inr (.inr (.inr ⟨2,rfl,rfl⟩)),trivial⟩) ?_
    refine y9 ?_
    exact z9 [] ⟨([],2),eZ.symm,rfl,rfl⟩ rfl
   ·have h:decide ((((bx b).length:Nat):Int) > g.room)=false:=h
    rw[hbl]at h
    exact z5 ⟨q7 [0,1] [5,6,7,8,9,10,12,13] rfl,hfe (by have:=hv.1;simpa using this),by have:=hv.2;rwa [Bool.not_eq_false']at this,k0z h⟩
 rintro⟨hok,hw,hroom⟩
 have hF0:F.2=0:=by rw[← hF,q2f hok]
 rw[hF0,hw,k1t hroom]at eZ
 have eZ:Z=(q4q vol g area epoch no (z0r g.room.toNat b) g.k.toNat g.m.toNat g.s.toNat,0):=eZ
 obtain⟨hg,a0,a1,_,_⟩:=hok
 obtain⟨h1,h2,h3,h4,h5,h6,h7,h8⟩:=V1 (V3 hg)
 obtain⟨S,hS⟩:∃ n:Nat,g.s=n:=⟨g.s.toNat,by omega⟩
 obtain⟨k,hk⟩:∃ n:Nat,g.k=n:=⟨g.k.toNat,by omega⟩
 obtain⟨m,hm⟩:∃ n:Nat,g.m=n:=⟨g.m.toNat,by omega⟩
 obtain⟨R,hR⟩:∃ n:Nat,n=228*(S*k):=⟨_,rfl⟩
 have hroomR:g.room=(R:Int):=by unfold GeoV.room;rw[hg,hS,hk,hR];show (S:Int)*k*228=_;rw[Nat.mul_comm];simp
 rw[hroomR,hS,hk,hm,k0v,k0v,k0v,k0v]at eZ
 rw[hroomR]at hroom
 have hbR:b.length≤R:=by omega
 have wS:=w2s g b
 obtain⟨P,hPd⟩:∃ P,P=z0r R b:=⟨_,rfl⟩
 have hPl:=z8h hbR
 rw[← hPd]at eZ hPl
 clear wF wW wR hF hfe hF0 hbl hroom hw
 have hOl:=fun s=>q3u (vol:=vol) (g:=g) (area:=area) (epoch:=epoch) (no:=no) (P:=P) (k:=k) (m:=m) s
 have hOs:∀ s,q4q vol g area epoch no P k m (s+1)=q4q vol g area epoch no P k m s++z0s vol g area epoch no (W5 P k m s) s:=fun s=>rfl
 have hO0:q4q vol g area epoch no P k m 0=[]:=rfl
 generalize q4q vol g area epoch no P k m=O at eZ hOl hOs hO0
 refine q8 hT ?_
 refine u6 (Wk.trans (Q2 q9b 2) (V0 2 [.msl 3 2 0 0] rfl ⟨.inr (.inr (.inl ⟨3,2,0,rfl,rfl⟩)),trivial⟩)) ?_
 refine z8 (q8 hT ?_)
 refine x7 (w7 wS _ rfl rfl) ?_
 refine z3 ?_
 refine z6k 3 101 [0,1,2,4,3] [6,7,8,9,10,12,13,16,50] shJ (fun L (_:Unit)=>shJ L ([],[])) ([],[]) (fun x=>x=(O S,[])) (fun _ _=>False) rfl rfl (fun L _=>⟨rfl,fun _=>rfl⟩) (fun L _=>⟨rfl,fun _=>rfl⟩) rfl ?_ ?_ ?_
 ·refine AFm.mono (w2r g hg S k R hS hk hR b hbR _ _ (z7t (by rfl)) P hPd.symm O hO0 ?_) ?_
  ·intro s hsS
   refine AYm.mono (v3b (J:=shJ) (Z:=fun L (_:Unit)=>shJ L ([],[])) (a:=(O s,_)) (Rnd:=fun x=>x=(O (s+1),[])) (Stp:=fun _ _=>False) (fun L _=>⟨rfl,fun _=>rfl⟩) (fun L _=>⟨rfl,fun _=>rfl⟩) ?_ ?_ rfl rfl ?_) ?_
   ·exact fun t u ht=>z6j (ks:=[6,7,8,9,10,12,13,16,50]) rfl ht
   ·show ∀ p∈[51,52],p<101
    decide
   ·intro B l hl q
    have hR1:228*((s+1)*k)≤P.length:=by
     rw[hPl,hR]
     exact Nat.mul_le_mul_left 228 (k2v k hsS)
    have hDl:=q3t P k s
    have we:=y7g (q0i P k s) m 228 (by omega) (by omega) (by omega) (by omega) (by decide) (by decide) (q8n hR1)
    rw[hDl]at we
    have hsl:=q8p P k m s
    have hsh:W5 P k m s=q0i P k s++q1g (q0i P k s) m 228:=rfl
    have hEl:=q3b (q0i P k s) m 228
    have hO1:=hOs s
    have hOls:=hOl s
    have wF:=q7v g area (s:Int)
    obtain⟨A,hA⟩:∃ A,A=g.at_ area s:=⟨_,rfl⟩
    rw[q2f ⟨hg,a0,a1,by omega,by omega⟩,← hA]at wF
    have hAr:=w2t hg a0 a1 (show 0≤(s:Int) by omega) (by omega)
    rw[← hA]at hAr
    have hSP:∀ i,i<k+m→(z0s vol g area epoch no (W5 P k m s) s)[i]?=some ⟨A+i,(Blk.mk 4 vol (A+i) epoch no ((W5 P k m s).getD i [])).sld.1⟩:=fun i hi=>by
     unfold z0s
     rw[k1q,k2s (by omega),hA];rfl
    have hSPl:(z0s vol g area epoch no (W5 P k m s) s).length=k+m:=by rw[y7s,hsl]
    generalize z0s vol g area epoch no (W5 P k m s) s=SP at hO1 hSP hSPl
    generalize q1g (q0i P k s) m 228=E at we hsh hEl
    generalize q0i P k s=D at we hsh hDl ⊢
    generalize W5 P k m s=ALL at hsl hsh hSP
    have hsk:s*(k+m)≤32*7:=Nat.mul_le_mul (by omega) (by omega)
    generalize O s=o at hO1 hOls ⊢
    generalize O (s+1)=o1 at hO1
    have hDc:=u5 D
    have hEc:=u5 E
    refine q8 hT ?_
    refine q9 hT ?_
    refine⟨rfl,?_⟩
    refine z3 ?_
    refine z7 ⟨⟨101,(16,.ref 2 0) :: (17,i64 s) :: (18,.msl 5 1 0 k) :: (19,.p (.sl 1 (z2 E))) :: (20,i64 0) :: z4w vol g area epoch no⟩,shJ (.lp q .busy none l) (o,[.row z0 1 (z2 D)])⟩ True (q9 hT ?_) (fun _=>?_)
    ·refine x7 (Q7 [5] (hm ▸ we) rfl rfl rfl) ?_
     exact⟨U0 3 [0,1,2,3,4,5] [16,17,18,19,20,6,7,8,9,10,12,13] _ rfl hl rfl rfl rfl,trivial⟩
    refine z8 (q8 hT ?_)
    refine z4 ?_
    refine z5 ?_
    refine z7 ⟨⟨101,(16,.ref 2 0) :: (18,.msl 5 1 0 k) :: (19,.p (.sl 1 (z2 E))) :: (21,i64 A) :: z4w vol g area epoch no⟩,shJ (.lp q .busy none l) (o,[.row z0 1 (z2 D)])⟩ True (q9 hT ?_) (fun _=>?_)
    ·refine x7 (w7 wF _ rfl rfl) ?_
     exact⟨U0 3 [0,1,2,3,4,5] [16,18,19,21,6,7,8,9,10,12,13] _ rfl hl rfl rfl rfl,trivial⟩
    refine y6 (fun st=>∃ X,X=ALL∧st=⟨⟨101,(16,.ref 2 0) :: (21,i64 A) :: (72,.msl 5 1 0 (z2 X).length) :: (73,i64 (z2 X).length) :: (74,i64 0) :: z4w vol g area epoch no⟩,shJ (.lp q .busy none l) (o,[.row z0 1 (z2 X)])⟩) (q9 hT ?_) ?_
    ·refine⟨by omega,⟨by show ((z2 D).length+(z2 E).length)*24≤_;omega,by omega⟩,?_⟩
     refine⟨_,U0 3 [0,1,2,3,4,6] [16,21,72,73,74,6,7,8,9,10,12,13] _ rfl hl rfl rfl rfl,ALL,rfl,?_⟩
     rw[hsh,Y1];rfl
    rintro _ ⟨X,rfl,rfl⟩
    have hXc:=u5 X
    refine z3 ?_
    refine y7 (fun n st=>∃ (j:Nat) (jj:Int) (Y:List Put9),n+j=k+m∧jj=j∧Y=o++SP.take j∧st=⟨⟨101,(16,.ref 2 0) :: (21,i64 A) :: (72,.msl 5 1 0 (z2 X).length) :: (73,i64 (z2 X).length) :: (74,i64 jj) :: z4w vol g area epoch no⟩,shJ (.lp q .busy none l) (Y,[.row z0 1 (z2 X)])⟩) (k+m) ⟨⟨101,_⟩,_⟩ (Wk.refl _ _) ⟨0,0,o,by omega,rfl,by rw[List.take_zero,List.append_nil],rfl⟩ ?_
    clear we wF
    rintro n st ⟨j,jj,Y,hnj,hjj,hY,rfl⟩
    refine q8 hT ?_
    refine z8 (z4 (y4 (fun h=>?_) (fun h=>?_)))
    ·have h:=k0q (show decide (jj<(((z2 X).length:Nat):Int))=true from h)
     have hjk:j<k+m:=by omega
     refine z5 ?_
     have hx:=k0x (show j<X.length by omega)
     have hSPj:=hSP j hjk
     rw[k0w,hx]at hSPj
     generalize X[j]=sh at hx hSPj
     have hSPj:SP[j]?=some ⟨A+j,(Blk.mk 4 vol (A+j) epoch no sh).sld.1⟩:=hSPj
     have hxp:(z2 X)[0+jj.toNat]?=some [bP sh]:=by rw[hjj,k0v,Nat.zero_add];exact Q0 hx
     have hwr:IntKind.i64.wrap (A+jj)=A+j:=by rw[y8 _ (by omega) (by omega),hjj]
     have wb:=y6w (Blk.mk 4 vol (IntKind.i64.wrap (A+jj)) epoch no sh)
     rw[← hwr]at hSPj
     have hYl:Y.length≤s*(k+m)+(k+m):=by rw[hY,k1z,k2u];omega
     have hYc:=v8m Y
     have hY2:o++SP.take (j+1)=Y++[⟨IntKind.i64.wrap (A+jj),(Blk.mk 4 vol (IntKind.i64.wrap (A+jj)) epoch no sh).sld.1⟩]:=by
      rw[k2t,hSPj,hY,List.append_assoc];rfl
     generalize (Blk.mk 4 vol (IntKind.i64.wrap (A+jj)) epoch no sh).sld=sd at wb hY2
     refine y6 (fun st=>∃ Y',Y'=o++SP.take (j+1)∧st=⟨⟨101,(16,.ref 2 0) :: (21,i64 A) :: (72,.msl 5 1 0 (z2 X).length) :: (73,i64 (z2 X).length) :: (74,i64 jj) :: z4w vol g area epoch no⟩,shJ (.lp q .busy none l) (Y',[.row z0 1 (z2 X)])⟩) (z3 ?_) ?_
     ·refine z7 ⟨⟨101,(16,.ref 2 0) :: (21,i64 A) :: (23,i64 jj) :: (24,bA sh) :: (72,.msl 5 1 0 (z2 X).length) :: (73,i64 (z2 X).length) :: (74,i64 jj) :: z4w vol g area epoch no⟩,shJ (.lp q .busy none l) (Y,[.row z0 1 (z2 X)])⟩ True (q9 hT ?_) (fun _=>?_)
      ·refine⟨⟨by omega,by omega⟩,?_⟩
       refine w9 hxp ?_
       exact⟨U0 3 [0,1,2,3,4,5] [16,21,23,24,72,73,74,6,7,8,9,10,12,13] _ rfl hl rfl rfl rfl,trivial⟩
      refine z7 ⟨⟨101,(16,.ref 2 0) :: (21,i64 A) :: (23,i64 jj) :: (25,bA sd.1) :: (72,.msl 5 1 0 (z2 X).length) :: (73,i64 (z2 X).length) :: (74,i64 jj) :: z4w vol g area epoch no⟩,shJ (.lp q .busy none l) (Y,[.row z0 1 (z2 X)])⟩ True (q9 hT ?_) (fun _=>?_)
      ·refine x7 (w7 wb _ rfl rfl) ?_
       exact⟨U0 3 [0,1,2,3,4,5] [16,21,23,25,72,73,74,6,7,8,9,10,12,13] _ rfl hl rfl rfl rfl,trivial⟩
      refine q9 hT ?_
      refine⟨rfl,⟨by show ((px Y).length+1)*32≤_;omega,by show (px Y).length+1≤_;omega⟩,?_⟩
      refine⟨_,U0 3 [0,1,2,3,7,5] [16,21,72,73,74,6,7,8,9,10,12,13] _ rfl hl rfl rfl rfl,_,hY2.symm,?_⟩
      rw[u0x];rfl
     ·rintro _ ⟨Y',rfl,rfl⟩
      refine q9 hT ?_
      exact⟨n - 1,by omega,_,U0 3 [0,1,2,3,4,5] [16,21,72,73,74,6,7,8,9,10,12,13] _ rfl hl rfl rfl rfl,j+1,IntKind.i64.wrap (jj+1),_,by omega,by rw[y8 _ (by omega) (by omega)];omega,rfl,rfl⟩
    ·have h:=k0z (show decide (jj<(((z2 X).length:Nat):Int))=false from h)
     rw[k2z (by omega),← hO1]at hY
     rw[hY]
     refine x6 ?_
     exact⟨(o1,[]),⟨101,[]⟩,rfl,U0 3 [0,1,2,3,4] [] _ rfl hl rfl rfl rfl⟩
   ·rintro r H' (⟨hr,a',rfl,hH⟩|⟨hr,c,z,h3,hH⟩)
    ·exact⟨hr,hH⟩
    ·exact h3.elim
  ·rintro r H' rfl
   exact .inl ⟨_,rfl,rfl⟩
 ·rintro _ rfl
  refine q8 hT ?_
  refine u6 (X2 4 0 0 _ rfl rfl rfl rfl) ?_
  refine y9 ?_
  exact z9 [] ⟨(O S,0),eZ.symm,rfl,rfl⟩ rfl
 ·intro _ _ h;exact h.elim
def q0v (vol at_ no:Int)(i:Nat)(s:z6):z6:=match (Y8 s).2==0&&(Y8 s).1.kind==4&&(Y8 s).1.vol==vol&&(Y8 s).1.addr==at_+i&&(Y8 s).1.seq==no&&((Y8 s).1.body.length:Int)==228 with
 |true=>(Y8 s).1.body
 |false=>[]
def q0n (vol at_ no:Int)(l:List z6):List z6:=(List.range l.length).map fun i=>q0v vol at_ no i (l.getD i [])
def X4 (l:List z6)(vol:Int)(g:GeoV)(area stripe no:Int):List z6 × Int:=match (X9 g area stripe).2 != 0||!U8 [vol,no]||!((l.length:Int)==g.k+g.m) with
 |true=>([],1)
 |false=>match (J9 (q0n vol (X9 g area stripe).1 no l) g.k.toNat g.m.toNat 228).2 != 0 with
  |true=>([],22)
  |false=>((J9 (q0n vol (X9 g area stripe).1 no l) g.k.toNat g.m.toNat 228).1,0)
def q6t (f:Nat→z6)(n k:Nat):List z6:=(List.range n).map fun i=>if i<k then f i else []
theorem q5w (f:Nat→z6)(n k:Nat):(q6t f n k).length=n:=by unfold q6t;rw[k1y,k3q]
theorem q9q {f:Nat→z6}{n k i:Nat}(h:i<n):(q6t f n k)[i]?=some (if i<k then f i else []):=by
 unfold q6t;rw[k1q,k2s h];rfl
theorem w2u {f:Nat→z6}{n k:Nat}(h:k<n):(z2 (q6t f n k)).set k [bP (f k)]=z2 (q6t f n (k+1)):=by
 refine List.ext_getElem? fun j=>?_
 rw[List.getElem?_set,u5,q5w]
 by_cases hj:j<n
 ·by_cases e:k=j
  ·subst e
   rw[if_pos rfl,if_pos h,Q0 (q9q h),if_pos (by omega)]
  ·rw[if_neg e,Q0 (q9q hj),Q0 (q9q hj)]
   by_cases h2:j<k
   ·rw[if_pos h2,if_pos (by omega)]
   ·rw[if_neg h2,if_neg (by omega)]
 ·rw[if_neg (by omega),List.getElem?_eq_none (by rw[u5,q5w];omega),List.getElem?_eq_none (by rw[u5,q5w];omega)]
theorem x2g {f:Nat→z6}{n k:Nat}(h:f k=[]):q6t f n (k+1)=q6t f n k:=by
 unfold q6t
 refine List.map_congr_left fun i _=>?_
 by_cases e:i=k
 ·subst e;rw[if_pos (by omega),if_neg (by omega),h]
 ·by_cases h2:i<k
  ·rw[if_pos (by omega),if_pos h2]
  ·rw[if_neg (by omega),if_neg h2]
theorem x2h (f:Nat→z6)(n:Nat):z2 (q6t f n 0)=List.replicate n [bP []]:=by
 refine List.ext_getElem? fun j=>?_
 rw[List.getElem?_replicate]
 by_cases hj:j<n
 ·rw[Q0 (q9q hj),if_neg (by omega),if_pos hj]
 ·rw[List.getElem?_eq_none (by rw[u5,q5w];omega),if_neg hj]
theorem w2v (f:Nat→z6)(n:Nat):q6t f n n=(List.range n).map f:=by
 unfold q6t
 refine List.map_congr_left fun i hi=>?_
 rw[if_pos (List.mem_range.mp hi)]
theorem z4a (vol at_ no:Int)(l:List z6):(q0n vol at_ no l).length=l.length:=by unfold q0n;rw[k1y,k3q]
theorem z4b (vol at_ no:Int)(i:Nat)(s:z6):(q0v vol at_ no i s).length=0∨(q0v vol at_ no i s).length=228:=by
 unfold q0v
 split
 ·rename_i h
  simp only[Bool.and_eq_true,beq_iff_eq]at h
  right;omega
 ·exact .inl rfl
theorem y1m (l:List z6)(vol:Int)(g:GeoV)(area stripe no:Int)(hk4:g.k≤4)(hm3:g.m≤3)(hll:l.length≤1000000)(hls:∀ s∈l,s.length≤1000000) :
 AF Tryz.prog y8j [.p (.sl 1 (z2 l)),i64 vol,g.av,i64 area,i64 stripe,i64 no] [] (v8 (.tup [.p (.sl 1 (z2 (X4 l vol g area stripe no).1)),i64 (X4 l vol g area stripe no).2]) []):=by
 refine AF.mono (R:=fun r H'=>∃ z,z=X4 l vol g area stripe no∧r=.tup [.p (.sl 1 (z2 z.1)),i64 z.2]∧H'=[]) ?_ (by rintro r H' ⟨z,rfl,rfl,rfl⟩;exact⟨rfl,rfl⟩)
 have hcl:=u5 l
 have wF:=q7v g area stripe
 have wW:=y0t [vol,no] (by show 2≤64;decide)
 have eZ:X4 l vol g area stripe no=match (X9 g area stripe).2 != 0||!U8 [vol,no]||!((l.length:Int)==g.k+g.m) with
  |true=>([],1)
  |false=>match (J9 (q0n vol (X9 g area stripe).1 no l) g.k.toNat g.m.toNat 228).2 != 0 with
   |true=>([],22)
   |false=>((J9 (q0n vol (X9 g area stripe).1 no l) g.k.toNat g.m.toNat 228).1,0):=rfl
 generalize X4 l vol g area stripe no=Z at eZ
 have hfe:(X9 g area stripe).2=0→W4 g area stripe:=fun h=>by
  by_cases hf:W4 g area stripe
  ·exact hf
  ·rw[q4p hf]at h;exact absurd h (by decide)
 generalize hF:X9 g area stripe=F at wF eZ hfe
 refine v6 hT y8k rfl rfl y8m rfl ?_
 refine z7 ⟨⟨112,[(0,.p (.sl 1 (z2 l))),(1,i64 vol),(3,i64 area),(4,i64 stripe),(5,i64 no),(8,.p (.box g.pv))]⟩,[]⟩ True (q9 hT ?_) (fun _=>?_)
 ·exact⟨Wk.trans (Q4 0 g.pv rfl rfl) (q7 [] [0,1,3,4,5,8] rfl),trivial⟩
 refine z7 ⟨⟨112,[(0,.p (.sl 1 (z2 l))),(1,i64 vol),(5,i64 no),(8,.p (.box g.pv)),(14,i64 F.1),(15,i64 F.2)]⟩,[]⟩ True (q9 hT ?_) (fun _=>?_)
 ·refine x7 (w7 wF _ rfl rfl) ?_
  exact⟨q7 [] [0,1,5,8,14,15] rfl,trivial⟩
 refine z7 ⟨⟨112,[(0,.p (.sl 1 (z2 l))),(1,i64 vol),(5,i64 no),(8,.p (.box g.pv)),(14,i64 F.1)]⟩,[]⟩ (F.2=0∧U8 [vol,no]=true∧(l.length:Int)=g.k+g.m) ?_ ?_
 ·refine y6 (fun st=>∃ v,(v=true→Z=([],1))∧(v=false→F.2=0∧U8 [vol,no]=true∧(l.length:Int)=IntKind.i64.wrap (g.k+g.m))∧st=⟨⟨112,[(0,.p (.sl 1 (z2 l))),(1,i64 vol),(5,i64 no),(8,.p (.box g.pv)),(14,i64 F.1),(47,bl v)]⟩,[]⟩) (X8 (fun k=>Nat.beq 5 k) hT ?_) ?_
  ·refine y4 (fun h=>?_) (fun h=>?_)
   ·have h:(F.2 != 0)=true:=h
    rw[h]at eZ
    exact⟨_,q7 [] [0,1,5,8,14,47] rfl,true,fun _=>eZ,fun e=>(by cases e),rfl⟩
   have h0:(F.2 != 0)=false:=h
   rw[h0]at eZ
   refine⟨⟨rfl,rfl⟩,?_⟩
   refine x7 (w7 wW _ rfl rfl) ?_
   refine y4 (fun h=>?_) (fun h=>?_)
   ·have h:(!U8 [vol,no])=true:=h
    rw[h]at eZ
    exact⟨_,q7 [] [0,1,5,8,14,47] rfl,true,fun _=>eZ,fun e=>(by cases e),rfl⟩
   have h1:(!U8 [vol,no])=false:=h
   rw[h1]at eZ
   have hok:=hfe (by simpa using h0)
   obtain⟨_,_,_,_,h5,h6,h7,h8⟩:=V1 (V3 hok.1)
   have hwr:IntKind.i64.wrap (g.k+g.m)=g.k+g.m:=y8 _ (by omega) (by omega)
   refine⟨_,q7 [] [0,1,5,8,14,47] rfl,(((z2 l).length:Int) != IntKind.i64.wrap (g.k+g.m)),fun e=>?_,fun e=>?_,rfl⟩
   ·rw[hcl,hwr]at e
    rw[eZ,show (!((l.length:Int)==g.k+g.m))=true from e];rfl
   ·rw[hcl,hwr]at e
    exact⟨by simpa using h0,by simpa using h1,by rw[hwr];simpa using e⟩
  ·rintro _ ⟨v,hv1,hv2,rfl⟩
   refine z4 (y4 (fun h=>?_) (fun h=>?_))
   ·refine q8 hT ?_
    refine u6 (q1a 12 1 rfl) ?_
    refine y9 ?_
    exact z9 [] ⟨([],1),(hv1 h).symm,rfl,rfl⟩ rfl
   ·obtain⟨c1,c2,c3⟩:=hv2 h
    have hok:=hfe c1
    obtain⟨_,_,_,_,h5,h6,h7,h8⟩:=V1 (V3 hok.1)
    rw[y8 _ (by omega) (by omega)]at c3
    exact z5 ⟨q7 [] [0,1,5,8,14] rfl,c1,c2,c3⟩
 rintro⟨c1,c2,c3⟩
 have hok:=hfe c1
 obtain⟨hg,a0,a1,s0,s1⟩:=hok
 obtain⟨h1,h2,h3,h4,h5,h6,h7,h8⟩:=V1 (V3 hg)
 rw[c1,c2,show ((l.length:Int)==g.k+g.m)=true from beq_iff_eq.mpr c3]at eZ
 obtain⟨A,hA⟩:∃ A,A=F.1:=⟨_,rfl⟩
 rw[← hA]at eZ
 have hAr:=w2t hg a0 a1 s0 s1
 have hAF:A=g.at_ area stripe:=by rw[hA,← hF,q2f ⟨hg,a0,a1,s0,s1⟩]
 rw[← hAF]at hAr
 rw[← hA]
 obtain⟨k,hk⟩:∃ n:Nat,g.k=n:=⟨g.k.toNat,by omega⟩
 obtain⟨m,hm⟩:∃ n:Nat,g.m=n:=⟨g.m.toNat,by omega⟩
 rw[hk,hm,k0v,k0v]at eZ
 have hlk:l.length=k+m:=by omega
 have eZ:Z=match (J9 (q0n vol A no l) k m 228).2 != 0 with
  |true=>([],22)
  |false=>((J9 (q0n vol A no l) k m 228).1,0):=eZ
 have hLl:=z4a vol A no l
 have hL:q0n vol A no l=q6t (fun i=>q0v vol A no i (l.getD i [])) l.length l.length:=by rw[w2v];rfl
 have hLs:∀ s∈q0n vol A no l,s.length=0∨s.length=228:=fun s hs=>by
  unfold q0n at hs
  rw[List.mem_map]at hs
  obtain⟨i,_,rfl⟩:=hs
  exact z4b _ _ _ _ _
 have wD:=v2r (q0n vol A no l) k m 228 (by omega) (by omega) (by omega) (by omega) (by decide) (by decide) (by omega) hLs (fun h=>Q0c (by omega) h)
 generalize J9 (q0n vol A no l) k m 228=D at eZ wD
 generalize hLe:q0n vol A no l=LB at hL wD
 have hfd:∀ i s,l[i]?=some s→q0v vol A no i (l.getD i [])=q0v vol A no i s:=fun i s h=>by rw[k0w,h];rfl
 generalize hf:(fun i=>q0v vol A no i (l.getD i []))=f at hL
 have hfd:∀ i s,l[i]?=some s→f i=q0v vol A no i s:=fun i s h=>by rw[← hf];exact hfd i s h
 have hz:=x2h f l.length
 clear wF wW hfe hF c1 c2 c3 hLs hf hLe
 rw[← hk]at wD
 refine y6 (fun st=>∃ X n,X=z2 (q6t f l.length 0)∧n=l.length∧st=⟨⟨112,[(0,.p (.sl 1 (z2 l))),(1,i64 vol),(5,i64 no),(8,.p (.box g.pv)),(14,i64 A),(16,.msl 0 1 0 n)]⟩,[.row z0 1 X]⟩) (q9 hT ?_) ?_
 ·refine⟨⟨rfl,by omega,by show (((z2 l).length:Nat):Int)*24≤_;omega,by omega⟩,?_⟩
  refine⟨_,Wk.trans (w4r 0 (List.replicate (z2 l).length [bP []]) rfl (by simp) ?_) (q7 [0] [0,1,5,8,14,16] rfl),_,(z2 l).length,by rw[hz,hcl],hcl,rfl⟩
  intro j e2 he
  rw[List.getElem?_replicate]at he
  split at he
  ·rename_i hj
   obtain rfl:=k0y he
   refine⟨[.raw (.slice none 0 0)],by
    show (List.replicate _ _)[j]?=_
    rw[List.getElem?_replicate,if_pos (by simpa using hj)];rfl,rfl,fun i u2 hu=>?_⟩
   cases i with
   |zero=>obtain rfl:=k0y hu;exact⟨_,rfl,.inr ⟨1,rfl,rfl⟩⟩
   |succ i=>simp at hu
  ·cases he
 rintro _ ⟨X,n,hX,hn,rfl⟩
 refine y6 (fun st=>∃ X,X=z2 LB∧st=⟨⟨112,[(8,.p (.box g.pv)),(16,.msl 0 1 0 n)]⟩,[.row z0 1 X]⟩) (q8 hT ?_) ?_
 ·refine z3 ?_
  refine y7 (fun c s=>∃ (j:Nat) (jj:Int) (X:_),c+j=n∧jj=j∧X=z2 (q6t f l.length j)∧s=⟨⟨112,[(1,i64 vol),(5,i64 no),(8,.p (.box g.pv)),(14,i64 A),(16,.msl 0 1 0 n),(51,.p (.sl 1 (z2 l))),(52,i64 (z2 l).length),(53,i64 jj)]⟩,[.row z0 1 X]⟩) n ⟨⟨112,_⟩,_⟩ (q7 [0] [1,5,8,14,16,51,52,53] rfl) ⟨0,0,X,by omega,rfl,hX,rfl⟩ ?_
  clear hX hz
  rintro c s ⟨j,jj,X,hcj,hjj,hX,rfl⟩
  refine q8 hT ?_
  refine z8 (z4 (y4 (fun h=>?_) (fun h=>?_)))
  ·have h:=k0q (show decide (jj<(((z2 l).length:Nat):Int))=true from h)
   have hj:j<l.length:=by omega
   refine z5 ?_
   have hx:=k0x hj
   have hsl:=hls _ (k1x hj)
   generalize l[j]=sec at hx hsl
   have hfj:=hfd j sec hx
   have hxp:(z2 l)[jj.toNat]?=some [bP sec]:=by rw[hjj,k0v];exact Q0 hx
   have wO:=w6g sec hsl
   have hkf:q0v vol A no j sec=match (Y8 sec).2==0&&(Y8 sec).1.kind==4&&(Y8 sec).1.vol==vol&&(Y8 sec).1.addr==A+j&&(Y8 sec).1.seq==no&&((Y8 sec).1.body.length:Int)==228 with
    |true=>(Y8 sec).1.body
    |false=>[]:=rfl
   rw[← hfj]at hkf
   generalize Y8 sec=OB at wO hkf
   obtain⟨ob,oe⟩:=OB
   have hbl:=w6 ob.body
   have hXl:X.length=l.length:=by rw[hX,u5,q5w]
   have hXg:X[0+jj.toNat]?=some [bP []]:=by
    rw[show 0+jj.toNat=j by omega,hX,Q0 (q9q hj),if_neg (by omega)]
   have hset:X.set (0+jj.toNat) [bP (f j)]=z2 (q6t f l.length (j+1)):=by
    rw[show 0+jj.toNat=j by omega,hX];exact w2u hj
   have hskip:f j=[]→X=z2 (q6t f l.length (j+1)):=fun e=>by rw[x2g e,hX]
   have hwr:IntKind.i64.wrap (A+jj)=A+j:=by rw[y8 _ (by omega) (by omega),hjj]
   refine y6 (fun st=>∃ X,X=z2 (q6t f l.length (j+1))∧st=⟨⟨112,[(1,i64 vol),(5,i64 no),(8,.p (.box g.pv)),(14,i64 A),(16,.msl 0 1 0 n),(51,.p (.sl 1 (z2 l))),(52,i64 (z2 l).length),(53,i64 jj)]⟩,[.row z0 1 X]⟩) (z3 ?_) ?_
   ·refine z7 ⟨⟨112,[(1,i64 vol),(5,i64 no),(8,.p (.box g.pv)),(14,i64 A),(16,.msl 0 1 0 n),(17,i64 jj),(18,bA sec),(51,.p (.sl 1 (z2 l))),(52,i64 (z2 l).length),(53,i64 jj)]⟩,[.row z0 1 X]⟩ True (q9 hT ?_) (fun _=>?_)
    ·refine⟨by omega,w9 hxp ?_⟩
     exact⟨q7 [0] [1,5,8,14,16,17,18,51,52,53] rfl,trivial⟩
    refine z7 ⟨⟨112,[(1,i64 vol),(5,i64 no),(8,.p (.box g.pv)),(14,i64 A),(16,.msl 0 1 0 n),(17,i64 jj),(19,.p (.box ob.pv)),(20,i64 oe),(51,.p (.sl 1 (z2 l))),(52,i64 (z2 l).length),(53,i64 jj)]⟩,[.row z0 1 X]⟩ True (q9 hT ?_) (fun _=>?_)
    ·refine x7 (w7 wO _ rfl rfl) ?_
     exact⟨Wk.trans (Q4 1 ob.pv rfl rfl) (q7 [0] [1,5,8,14,16,17,19,20,51,52,53] rfl),trivial⟩
    refine y6 (fun st=>∃ v,v=(oe==0&&ob.kind==4&&ob.vol==vol&&ob.addr==A+j&&ob.seq==no&&(ob.body.length:Int)==228)∧st=⟨⟨112,[(1,i64 vol),(5,i64 no),(8,.p (.box g.pv)),(14,i64 A),(16,.msl 0 1 0 n),(17,i64 jj),(19,.p (.box ob.pv)),(51,.p (.sl 1 (z2 l))),(52,i64 (z2 l).length),(53,i64 jj),(95,bl v)]⟩,[.row z0 1 X]⟩) (q9 hT ?_) ?_
    ·rw[← hwr,← hbl]
     refine y4 (fun h=>?_) (fun h=>?_)
     ·rw[show (oe==0)=true from h]
      refine y4 (fun h=>?_) (fun h=>?_)
      ·rw[show (ob.kind==4)=true from h]
       refine y4 (fun h=>?_) (fun h=>?_)
       ·rw[show (ob.vol==vol)=true from h]
        refine y4 (fun h=>?_) (fun h=>?_)
        ·rw[show (ob.addr==IntKind.i64.wrap (A+jj))=true from h]
         refine y4 (fun h=>?_) (fun h=>?_)
         ·rw[show (ob.seq==no)=true from h]
          exact⟨_,q7 [0] [1,5,8,14,16,17,19,51,52,53,95] rfl,_,rfl,rfl⟩
         ·rw[show (ob.seq==no)=false from h]
          exact⟨_,q7 [0] [1,5,8,14,16,17,19,51,52,53,95] rfl,_,rfl,rfl⟩
        ·rw[show (ob.addr==IntKind.i64.wrap (A+jj))=false from h]
         exact⟨_,q7 [0] [1,5,8,14,16,17,19,51,52,53,95] rfl,_,rfl,rfl⟩
       ·rw[show (ob.vol==vol)=false from h]
        exact⟨_,q7 [0] [1,5,8,14,16,17,19,51,52,53,95] rfl,_,rfl,rfl⟩
      ·rw[show (ob.kind==4)=false from h]
       exact⟨_,q7 [0] [1,5,8,14,16,17,19,51,52,53,95] rfl,_,rfl,rfl⟩
     ·rw[show (oe==0)=false from h]
      exact⟨_,q7 [0] [1,5,8,14,16,17,19,51,52,53,95] rfl,_,rfl,rfl⟩
    rintro _ ⟨v,hv,rfl⟩
    have hkf:f j=match (generalizing:=false) v with|true=>ob.body|false=>[]:=by rw[hv];exact hkf
    clear hv
    refine z4 (y4 (fun h=>?_) (fun h=>?_))
    ·have h:v=true:=h
     rw[h]at hkf
     rw[show f j=ob.body from hkf]at hset
     refine q9 hT ?_
     refine⟨⟨by omega,by omega⟩,?_⟩
     refine w9 hXg ?_
     exact⟨_,q7 [0] [1,5,8,14,16,51,52,53] rfl,_,hset,rfl⟩
    ·have h:v=false:=h
     rw[h]at hkf
     exact z5 ⟨_,q7 [0] [1,5,8,14,16,51,52,53] rfl,X,hskip hkf,rfl⟩
   ·rintro _ ⟨X,rfl,rfl⟩
    refine q9 hT ?_
    exact⟨c - 1,by omega,_,q7 [0] [1,5,8,14,16,51,52,53] rfl,j+1,IntKind.i64.wrap (jj+1),_,by omega,by rw[y8 _ (by omega) (by omega)];omega,rfl,rfl⟩
  ·have h:=k0z (show decide (jj<(((z2 l).length:Nat):Int))=false from h)
   rw[show j=l.length by omega,← hL]at hX
   refine x6 ?_
   exact⟨_,q7 [0] [8,16] rfl,X,hX,rfl⟩
 rintro _ ⟨X,rfl,rfl⟩
 have hLc:=u5 LB
 have hLl2:LB.length=n:=by rw[hL,q5w,hn]
 refine u6 (Z6 16 0 n rfl (by omega) rfl rfl) ?_
 refine z7 ⟨⟨112,[(15,i64 D.2),(21,.p (.sl 1 (z2 D.1)))]⟩,[]⟩ True (q9 hT ?_) (fun _=>?_)
 ·refine x7 (w7 wD _ rfl rfl) ?_
  exact⟨q7 [] [15,21] rfl,trivial⟩
 refine z8 (q8 hT ?_)
 refine z4 (y4 (fun h=>?_) (fun h=>?_))
 ·have h:(D.2 != 0)=true:=h
  rw[h]at eZ
  refine q8 hT ?_
  refine u6 (q1a 12 1 rfl) ?_
  refine y9 ?_
  exact z9 [] ⟨([],22),eZ.symm,rfl,rfl⟩ rfl
 ·have h:(D.2 != 0)=false:=h
  rw[h]at eZ
  refine z5 ?_
  refine q8 hT ?_
  refine y9 ?_
  exact z9 [] ⟨(D.1,0),eZ.symm,rfl,rfl⟩ rfl
def Dev.snapWrite (D:Dev)(vol:Int)(g:GeoV)(area epoch no:Int)(b:z6):Int × Dev:=match (putsB vol g area epoch no b).2 != 0 with
 |true=>((putsB vol g area epoch no b).2,D)
 |false=>D.all9 (putsB vol g area epoch no b).1
theorem v3d {vol:Int}{g:GeoV}{area epoch no:Int}{b:z6}(hk4:g.k≤4)(hm3:g.m≤3):(putsB vol g area epoch no b).1.length≤224:=by
 unfold putsB
 split
 ·exact Nat.zero_le _
 ·rename_i h
  split
  ·exact Nat.zero_le _
  ·have hf:W4 g area 0:=by
    by_cases hf:W4 g area 0
    ·exact hf
    ·rw[q4p hf]at h;exact absurd h (by simp)
   obtain⟨h1,h2,h3,h4,h5,h6,h7,h8⟩:=V1 (V3 hf.1)
   show (q4q _ _ _ _ _ _ _ _ _).length≤_
   rw[q3u]
   exact Nat.le_trans (Nat.mul_le_mul (show g.s.toNat≤32 by omega) (show g.k.toNat+g.m.toNat≤7 by omega)) (by decide)
theorem w7f (D:Dev)(vol:Int)(g:GeoV)(area epoch no:Int)(b:z6)(hk4:g.k≤4)(hm3:g.m≤3)(hb:b.length≤1000000)(n:Nat)(hD:D.Ok n)(hn:n+1000<1000000) :
 AFm Tryz.prog 1 x4j [.ref 0 0,i64 vol,g.av,i64 area,i64 epoch,i64 no,bA b] (Y4 D) (v8 (i64 (D.snapWrite vol g area epoch no b).1) (Y4 (D.snapWrite vol g area epoch no b).2)):=by
 refine AFm.mono (R:=fun r H'=>∃ z,z=D.snapWrite vol g area epoch no b∧r=i64 z.1∧H'=Y4 z.2) ?_ (by rintro r H' ⟨z,rfl,rfl,rfl⟩;exact⟨rfl,rfl⟩)
 have wP:=v3c vol g area epoch no b hk4 hm3 hb
 have eZ:D.snapWrite vol g area epoch no b=match (putsB vol g area epoch no b).2 != 0 with
  |true=>((putsB vol g area epoch no b).2,D)
  |false=>D.all9 (putsB vol g area epoch no b).1:=rfl
 have hlen:=v3d (vol:=vol) (g:=g) (area:=area) (epoch:=epoch) (no:=no) (b:=b) hk4 hm3
 generalize D.snapWrite vol g area epoch no b=Z at eZ
 generalize putsB vol g area epoch no b=F at wP eZ hlen
 refine Q5 1 hT x4k rfl rfl x4m rfl rfl ?_
 refine q8 hT ?_
 refine u6 (Q4 3 g.pv rfl rfl) ?_
 refine z7 ⟨⟨33,[(0,.ref 0 0),(15,.p (.sl 2 (px F.1))),(16,i64 F.2)]⟩,Y4 D⟩ True (q9 hT ?_) (fun _=>?_)
 ·refine x7 (w7 wP _ rfl rfl) ?_
  exact⟨q7 [0,1,2] [0,15,16] rfl,trivial⟩
 refine z8 (q8 hT ?_)
 refine z4 (y4 (fun h=>?_) (fun h=>?_))
 ·have h:(F.2 != 0)=true:=h
  rw[h]at eZ
  refine q8 hT ?_
  refine y9 ?_
  exact z9 [0,1,2] ⟨_,eZ.symm,rfl,rfl⟩ rfl
 ·have h:(F.2 != 0)=false:=h
  rw[h]at eZ
  refine z5 ?_
  have wA:=v8n D F.1 n hD (by omega)
  refine q8 hT ?_
  refine x7 (Q7 [0,1,2] wA rfl rfl rfl) ?_
  refine y9 ?_
  exact z9 [0,3,4] ⟨_,eZ.symm,rfl,rfl⟩ rfl
theorem v3e {S:List z6}{k m c:Nat}(_hkm:k+m≤256)(hl:S.length=k+m)(hS:∀ s∈S,s.length=0∨s.length=c)(hg:(Q6 S k (k+m)).length=k):(W9 S k m c).length=k∧∀ s∈W9 S k m c,s.length=c:=by
 have hbl:=q6s (S:=S) (m:=m) hg
 have hil:(z5t (byB S k m)).length=k:=(z2i _).trans hbl
 have hOl:(ofB S k m).length=k:=by unfold ofB;rw[k1y,hg]
 have hOr:∀ s∈ofB S k m,s.length=c:=fun s hs=>by
  unfold ofB at hs
  rw[List.mem_map]at hs
  obtain⟨i,hi,rfl⟩:=hs
  obtain⟨hi2,hi3⟩:=q2n S k (k+m) i hi
  have hm2:S.getD i []∈S:=by
   rw[k0w,k0x (show i<S.length by omega)]
   exact k1x _
  have:=hS _ hm2
  omega
 refine⟨by unfold W9;rw[k1y,hil],fun s hs=>?_⟩
 unfold W9 at hs
 rw[List.mem_map]at hs
 obtain⟨a,_,rfl⟩:=hs
 exact Q8 a hOr (by omega)
theorem v8s {S:List z6}{k m c:Nat}(hkm:k+m≤256)(hl:S.length=k+m)(hS:∀ s∈S,s.length=0∨s.length=c)(h:(J9 S k m c).2=0):(J9 S k m c).1.length=k+m∧∀ s∈(J9 S k m c).1.take k,s.length=c:=by
 unfold J9 at h ⊢
 cases e:decide ((Q6 S k (k+m)).length<k) with
 |true=>rw[e]at h;exact absurd (show (9:Int)=0 from h) (by decide)
 |false=>
  have e:=k0z e
  have h2:=(q1u S k (k+m)).2
  obtain⟨a,b⟩:=v3e hkm hl hS (show (Q6 S k (k+m)).length=k by omega)
  refine⟨by show (W9 S k m c++q1g (W9 S k m c) m c).length=_;rw[k1z,q3b,a],fun s hs=>b s ?_⟩
  have hs:s∈(W9 S k m c++q1g (W9 S k m c) m c).take k:=hs
  rwa [List.take_left' a]at hs
theorem y1n {l:List z6}{vol:Int}{g:GeoV}{area stripe no:Int}(h:(X4 l vol g area stripe no).2=0):(X4 l vol g area stripe no).1.length=g.k.toNat+g.m.toNat∧∀ s∈(X4 l vol g area stripe no).1.take g.k.toNat,s.length=228:=by
 unfold X4 at h ⊢
 cases e:(X9 g area stripe).2 != 0||!U8 [vol,no]||!((l.length:Int)==g.k+g.m) with
 |true=>rw[e]at h;exact absurd (show (1:Int)=0 from h) (by decide)
 |false=>
  rw[e]at h
  simp only[Bool.or_eq_false_iff,Bool.not_eq_false']at e
  have hf:W4 g area stripe:=by
   by_cases hf:W4 g area stripe
   ·exact hf
   ·rw[q4p hf]at e;exact absurd e.1.1 (by decide)
  obtain⟨h1,h2,h3,h4,h5,h6,h7,h8⟩:=V1 (V3 hf.1)
  have hl:l.length=g.k.toNat+g.m.toNat:=by
   have:=eq_of_beq e.2
   omega
  cases e2:(J9 (q0n vol (X9 g area stripe).1 no l) g.k.toNat g.m.toNat 228).2 != 0 with
  |true=>rw[e2]at h;exact absurd (show (22:Int)=0 from h) (by decide)
  |false=>
   refine v8s (by omega) (by rw[z4a];exact hl) (fun s hs=>?_) (by simpa using e2)
   unfold q0n at hs
   rw[List.mem_map]at hs
   obtain⟨i,_,rfl⟩:=hs
   exact z4b _ _ _ _ _
def Dev.reads (D:Dev)(A:Int):Nat→List z6 × Dev
 |0=>([],D)
 |i+1=>((D.reads A i).1++[((D.reads A i).2.read (A+i)).1.1],((D.reads A i).2.read (A+i)).2)
theorem z2q {D:Dev}{b:Nat}(h:D.Ok b)(A:Int):∀ k,(D.reads A k).2.Ok b
 |0=>h
 |k+1=>(z2q h A k).read _
theorem z4c (D:Dev)(A:Int):∀ k,(D.reads A k).1.length=k
 |0=>rfl
 |k+1=>by show ((D.reads A k).1++[_]).length=_;rw[k1z,z4c D A k];rfl
theorem y1p {D:Dev}{b:Nat}(h:D.Ok b)(A:Int):∀ k,∀ s∈(D.reads A k).1,s.length≤256
 |0,s,hs=>by simp[Dev.reads]at hs
 |k+1,s,hs=>by
  have hs:s∈(D.reads A k).1++[((D.reads A k).2.read (A+k)).1.1]:=hs
  rw[List.mem_append,List.mem_singleton]at hs
  rcases hs with hs|rfl
  ·exact y1p h A k s hs
  ·exact v2z (z2q h A k) _
abbrev y7t:Type:=z6 × Int × Dev
def q2g (vol:Int)(g:GeoV)(area no:Int)(s:Nat)(X:y7t):y7t:=match X.2.1 != 0 with
 |true=>X
 |false=>match (X4 (X.2.2.reads (g.at_ area s) (g.k.toNat+g.m.toNat)).1 vol g area s no).2 != 0 with
  |true=>([],(X4 (X.2.2.reads (g.at_ area s) (g.k.toNat+g.m.toNat)).1 vol g area s no).2,(X.2.2.reads (g.at_ area s) (g.k.toNat+g.m.toNat)).2)
  |false=>(X.1++((X4 (X.2.2.reads (g.at_ area s) (g.k.toNat+g.m.toNat)).1 vol g area s no).1.take g.k.toNat).flatten,0,(X.2.2.reads (g.at_ area s) (g.k.toNat+g.m.toNat)).2)
def Dev.snapN (D:Dev)(vol:Int)(g:GeoV)(area no:Int):Nat→y7t
 |0=>([],0,D)
 |s+1=>q2g vol g area no s (D.snapN vol g area no s)
def Dev.snapRead (D:Dev)(vol:Int)(g:GeoV)(area no long:Int):(z6 × Int) × Dev:=match (X9 g area 0).2 != 0||!U8 [vol,no]||(decide (long<0)||decide (long > g.room)) with
 |true=>(([],1),D)
 |false=>match D.dead with
  |true=>(([],21),D)
  |false=>match (D.snapN vol g area no g.s.toNat).2.1 != 0 with
   |true=>(([],(D.snapN vol g area no g.s.toNat).2.1),(D.snapN vol g area no g.s.toNat).2.2)
   |false=>(((D.snapN vol g area no g.s.toNat).1.take long.toNat,0),(D.snapN vol g area no g.s.toNat).2.2)
theorem x2i {D:Dev}{vol:Int}{g:GeoV}{area no:Int}{s:Nat}(h:((D.snapN vol g area no s).2.1 != 0)=true):∀ j,D.snapN vol g area no (s+j)=D.snapN vol g area no s
 |0=>rfl
 |j+1=>by
  show q2g vol g area no (s+j) (D.snapN vol g area no (s+j))=_
  rw[x2i h j]
  unfold q2g
  rw[h]
theorem w2w {D:Dev}{b:Nat}(h:D.Ok b)(vol:Int)(g:GeoV)(area no:Int):∀ s,(D.snapN vol g area no s).2.2.Ok b
 |0=>h
 |s+1=>by
  have ih:=w2w h vol g area no s
  show (q2g vol g area no s _).2.2.Ok b
  unfold q2g
  split
  ·exact ih
  ·split
   ·exact z2q ih _ _
   ·exact z2q ih _ _
theorem w2x {n:Nat}:∀ {l:List z6},(∀ s∈l,s.length=n)→l.flatten.length=l.length*n
 |[],_=>by simp
 |s :: r,h=>by
  rw[List.flatten_cons,k1z,h s (List.mem_cons_self ..),w2x (n:=n) (l:=r) fun x hx=>h x (List.mem_cons_of_mem _ hx),List.length_cons,Nat.succ_mul]
  omega
theorem y0u {D:Dev}{vol:Int}{g:GeoV}{area no:Int}:∀ s,(D.snapN vol g area no s).2.1=0→(D.snapN vol g area no s).1.length=s*g.k.toNat*228
 |0,_=>by simp[Dev.snapN]
 |s+1,h=>by
  have h:(q2g vol g area no s (D.snapN vol g area no s)).2.1=0:=h
  show (q2g vol g area no s _).1.length=_
  unfold q2g at h ⊢
  cases e:(D.snapN vol g area no s).2.1 != 0 with
  |true=>
   rw[e]at h
   have h:(D.snapN vol g area no s).2.1=0:=h
   rw[h]at e
   exact absurd e (by decide)
  |false=>
   rw[e]at h
   have ih:=y0u s (by simpa using e)
   cases e2:(X4 ((D.snapN vol g area no s).2.2.reads (g.at_ area s) (g.k.toNat+g.m.toNat)).1 vol g area s no).2 != 0 with
   |true=>
    rw[e2]at h
    have h:(X4 ((D.snapN vol g area no s).2.2.reads (g.at_ area s) (g.k.toNat+g.m.toNat)).1 vol g area s no).2=0:=h
    rw[h]at e2
    exact absurd e2 (by decide)
   |false=>
    obtain⟨a,b⟩:=y1n (by simpa using e2)
    show ((D.snapN vol g area no s).1++List.flatten _).length=_
    rw[k1z,ih,w2x b,k2u,a,Nat.min_eq_left (by omega),Nat.add_mul,Nat.add_mul,Nat.one_mul]
theorem x2j (D:Dev)(vol:Int)(g:GeoV)(area no long:Int)(hk4:g.k≤4)(hm3:g.m≤3)(b:Nat)(hD:D.Ok b)(hb:b≤1000000) :
 AFm Tryz.prog 3 x8f [.ref 0 0,i64 vol,g.av,i64 area,i64 no,i64 long] (Y4 D) (v8 (.tup [bA (D.snapRead vol g area no long).1.1,i64 (D.snapRead vol g area no long).1.2]) (Y4 (D.snapRead vol g area no long).2)):=by
 refine AFm.mono (R:=fun r H'=>∃ z:(z6 × Int) × Dev,z=D.snapRead vol g area no long∧r=.tup [bA z.1.1,i64 z.1.2]∧H'=Y4 z.2) ?_ (by rintro r H' ⟨z,rfl,rfl,rfl⟩;exact⟨rfl,rfl⟩)
 have wF:=q7v g area 0
 have wFs:=fun s=>q7v g area s
 have wW:=y0t [vol,no] (by show 2≤64;decide)
 have wR:=y6z g
 have eZ:D.snapRead vol g area no long=match (X9 g area 0).2 != 0||!U8 [vol,no]||(decide (long<0)||decide (long > g.room)) with
  |true=>(([],1),D)
  |false=>match D.dead with
   |true=>(([],21),D)
   |false=>match (D.snapN vol g area no g.s.toNat).2.1 != 0 with
    |true=>(([],(D.snapN vol g area no g.s.toNat).2.1),(D.snapN vol g area no g.s.toNat).2.2)
    |false=>(((D.snapN vol g area no g.s.toNat).1.take long.toNat,0),(D.snapN vol g area no g.s.toNat).2.2):=rfl
 generalize D.snapRead vol g area no long=Z at eZ
 have hfe:(X9 g area 0).2=0→W4 g area 0:=fun h=>by
  by_cases hf:W4 g area 0
  ·exact hf
  ·rw[q4p hf]at h;exact absurd h (by decide)
 generalize hF:X9 g area 0=F at wF eZ hfe
 refine Q5 3 hT x8g rfl rfl x8h rfl rfl ?_
 refine z7 ⟨⟨114,[(0,.ref 0 0),(1,i64 vol),(3,i64 area),(4,i64 no),(5,i64 long),(8,.p (.box g.pv))]⟩,Y4 D⟩ True (q9 hT ?_) (fun _=>?_)
 ·exact⟨Wk.trans (Q4 3 g.pv rfl rfl) (q7 [0,1,2] [0,1,3,4,5,8] rfl),trivial⟩
 refine z7 ⟨⟨114,[(0,.ref 0 0),(1,i64 vol),(3,i64 area),(4,i64 no),(5,i64 long),(8,.p (.box g.pv))]⟩,Y4 D⟩ (W4 g area 0∧¬ long<0∧¬ long > g.room∧D.dead=false∧U8 [vol,no]=true) (q8 hT ?_) ?_
 ·refine x7 (w7 wF _ rfl rfl) ?_
  refine z3 ?_
  refine y6 (fun st=>∃ v,v=(F.2 != 0||!U8 [vol,no]||(decide (long<0)||decide (long > g.room)))∧st=⟨⟨114,[(0,.ref 0 0),(1,i64 vol),(3,i64 area),(4,i64 no),(5,i64 long),(8,.p (.box g.pv)),(32,bl v)]⟩,Y4 D⟩) (q8 hT ?_) ?_
  ·refine z4 (y4 (fun h=>?_) (fun h=>?_))
   ·refine z5 ?_
    exact⟨_,q7 [0,1,2] [0,1,3,4,5,8,32] rfl,(F.2 != 0),by rw[show (F.2 != 0)=true from h];rfl,rfl⟩
   rw[show (F.2 != 0)=false from h]
   refine z8 (X8 (fun k=>Nat.beq 2 k) hT ?_)
   refine⟨⟨rfl,rfl⟩,?_⟩
   refine x7 (w7 wW _ rfl rfl) ?_
   refine z4 (y4 (fun h=>?_) (fun h=>?_))
   ·refine z5 ?_
    exact⟨_,q7 [0,1,2] [0,1,3,4,5,8,32] rfl,(!U8 [vol,no]),by rw[show (!U8 [vol,no])=true from h];rfl,rfl⟩
   rw[show (!U8 [vol,no])=false from h]
   refine q8 hT ?_
   refine z4 (y4 (fun h=>?_) (fun h=>?_))
   ·refine z5 ?_
    exact⟨_,q7 [0,1,2] [0,1,3,4,5,8,32] rfl,decide (long<0),by rw[show decide (long<0)=true from h];rfl,rfl⟩
   rw[show decide (long<0)=false from h]
   refine q9 hT ?_
   refine x7 (w7 wR _ rfl rfl) ?_
   exact⟨_,q7 [0,1,2] [0,1,3,4,5,8,32] rfl,decide (long > g.room),rfl,rfl⟩
  rintro _ ⟨v,hv,rfl⟩
  rw[← hv]at eZ
  refine z4 (y4 (fun h=>?_) (fun h=>?_))
  ·have h:v=true:=h
   rw[h]at eZ
   refine q8 hT ?_
   refine u6 (q1a 12 1 rfl) ?_
   refine y9 ?_
   exact z9 [0,1,2] ⟨(([],1),D),eZ.symm,rfl,rfl⟩ rfl
  ·have h:v=false:=h
   rw[h]at eZ hv
   have hv:=hv.symm
   simp only[Bool.or_eq_false_iff,Bool.not_eq_false',decide_eq_false_iff_not]at hv
   refine q8 hT ?_
   refine x7 (Q7 [0,1,2] (z3m D) rfl rfl rfl) ?_
   refine z4 (y4 (fun h=>?_) (fun h=>?_))
   ·rw[show D.dead=true from h]at eZ
    refine q8 hT ?_
    refine u6 (q1a 12 1 rfl) ?_
    refine y9 ?_
    exact z9 [0,1,2] ⟨(([],21),D),eZ.symm,rfl,rfl⟩ rfl
   ·exact z5 ⟨q7 [0,1,2] [0,1,3,4,5,8] rfl,hfe (by simpa using hv.1.1),hv.2.1,hv.2.2,h,hv.1.2⟩
 rintro⟨hok,hl0,hl1,hdead,hw⟩
 have hF0:F.2=0:=by rw[← hF,q2f hok]
 rw[hF0,hw,k1t hl0,k1t hl1,hdead]at eZ
 have eZ:Z=match (D.snapN vol g area no g.s.toNat).2.1 != 0 with
  |true=>(([],(D.snapN vol g area no g.s.toNat).2.1),(D.snapN vol g area no g.s.toNat).2.2)
  |false=>(((D.snapN vol g area no g.s.toNat).1.take long.toNat,0),(D.snapN vol g area no g.s.toNat).2.2):=eZ
 obtain⟨hg,a0,a1,_,_⟩:=hok
 obtain⟨h1,h2,h3,h4,h5,h6,h7,h8⟩:=V1 (V3 hg)
 obtain⟨S,hS⟩:∃ n:Nat,g.s=n:=⟨g.s.toNat,by omega⟩
 obtain⟨k,hk⟩:∃ n:Nat,g.k=n:=⟨g.k.toNat,by omega⟩
 obtain⟨m,hm⟩:∃ n:Nat,g.m=n:=⟨g.m.toNat,by omega⟩
 have hroom:g.room=((S*k*228:Nat):Int):=by unfold GeoV.room;rw[hg,hS,hk];show (S:Int)*k*228=_;simp
 rw[hroom]at hl1
 have hSk:S*k≤32*4:=Nat.mul_le_mul (by omega) (by omega)
 have hkn:g.k.toNat=k:=by omega
 have hmn:g.m.toNat=m:=by omega
 rw[show g.s.toNat=S by omega]at eZ
 clear wF wW wR hfe hF0 hF hdead
 refine z7 ⟨⟨114,[(0,.ref 0 0),(1,i64 vol),(3,i64 area),(4,i64 no),(5,i64 long),(8,.p (.box g.pv)),(16,.msl 3 1 0 0)]⟩,Y4 D++[.row z1 1 (bx [])]⟩ True (q9 hT ?_) (fun _=>?_)
 ·exact⟨Wk.trans (Q2 z1 1) (Wk.trans (V6 16 3 1 0 rfl) (q7 [0,1,2,3] [0,1,3,4,5,8,16] rfl)),trivial⟩
 refine y6 (fun st=>∃ out E,D.snapN vol g area no S=(out,0,E)∧st=⟨⟨114,[(5,i64 long),(16,.msl 3 1 0 (bx out).length)]⟩,Y4 E++[.row z1 1 (bx out)]⟩) (q8 hT ?_) ?_
 ·refine z3 ?_
  refine y7 (fun c st=>∃ (s:Nat) (js Sv:Int) (out:z6) (E:Dev),c+s=S∧js=s∧Sv=S∧D.snapN vol g area no s=(out,0,E)∧st=⟨⟨114,[(0,.ref 0 0),(1,i64 vol),(3,i64 area),(4,i64 no),(5,i64 long),(8,.p (.box g.pv)),(16,.msl 3 1 0 (bx out).length),(50,i64 Sv),(51,i64 js)]⟩,Y4 E++[.row z1 1 (bx out)]⟩) S ⟨⟨114,_⟩,_⟩ (q7 [0,1,2,3] [0,1,3,4,5,8,16,50,51] rfl) ⟨0,0,g.s,[],D,by omega,rfl,hS,rfl,rfl⟩ ?_
  rintro c st ⟨s,js,Sv,out,E,hcs,hjs,hSv,hN,rfl⟩
  refine q8 hT ?_
  refine z8 (z4 (y4 (fun h=>?_) (fun h=>?_)))
  ·have h:=k0q (show decide (js<Sv)=true from h)
   have hsS:s<S:=by omega
   refine z5 ?_
   have hEo:E.Ok b:=by have:=w2w hD vol g area no s;rwa [hN]at this
   have hol:out.length=s*k*228:=by have:=y0u (D:=D) (vol:=vol) (g:=g) (area:=area) (no:=no) s (by rw[hN]);rwa [hN,hkn]at this
   have hsk:s*k≤32*4:=Nat.mul_le_mul (by omega) (by omega)
   have wF:=wFs js
   have hfo:W4 g area js:=⟨hg,a0,a1,by omega,by omega⟩
   rw[q2f hfo]at wF
   have hAr:=w2t hg a0 a1 (show 0≤js by omega) (by omega)
   have hNs:D.snapN vol g area no (s+1)=q2g vol g area no s (out,0,E):=by rw[← hN];rfl
   have hstep:q2g vol g area no s (out,0,E)=match (X4 (E.reads (g.at_ area s) (g.k.toNat+g.m.toNat)).1 vol g area s no).2 != 0 with
    |true=>([],(X4 (E.reads (g.at_ area s) (g.k.toNat+g.m.toNat)).1 vol g area s no).2,(E.reads (g.at_ area s) (g.k.toNat+g.m.toNat)).2)
    |false=>(out++((X4 (E.reads (g.at_ area s) (g.k.toNat+g.m.toNat)).1 vol g area s no).1.take g.k.toNat).flatten,0,(E.reads (g.at_ area s) (g.k.toNat+g.m.toNat)).2):=rfl
   rw[hstep,hkn,hmn,← hjs]at hNs
   generalize g.at_ area js=A at hNs wF hAr
   clear hstep hN
   obtain⟨n,hn⟩:∃ n,n=k+m:=⟨_,rfl⟩
   rw[← hn]at hNs
   have hwr:IntKind.i64.wrap (g.k+g.m)=(n:Int):=by rw[y8 _ (by omega) (by omega)];omega
   refine y6 (fun st=>∃ out E,D.snapN vol g area no (s+1)=(out,0,E)∧st=⟨⟨114,[(0,.ref 0 0),(1,i64 vol),(3,i64 area),(4,i64 no),(5,i64 long),(8,.p (.box g.pv)),(16,.msl 3 1 0 (bx out).length),(50,i64 Sv),(51,i64 js)]⟩,Y4 E++[.row z1 1 (bx out)]⟩) (z3 (q8 hT ?_)) ?_
   ·refine z7 ⟨⟨114,[(0,.ref 0 0),(1,i64 vol),(3,i64 area),(4,i64 no),(5,i64 long),(8,.p (.box g.pv)),(16,.msl 3 1 0 (bx out).length),(17,i64 js),(18,i64 A),(50,i64 Sv),(51,i64 js)]⟩,Y4 E++[.row z1 1 (bx out)]⟩ True (q9 hT ?_) (fun _=>?_)
    ·refine x7 (w7 wF _ rfl rfl) ?_
     exact⟨q7 [0,1,2,3] [0,1,3,4,5,8,16,17,18,50,51] rfl,trivial⟩
    refine y6 (fun st=>∃ n',n'=n∧st=⟨⟨114,[(0,.ref 0 0),(1,i64 vol),(3,i64 area),(4,i64 no),(5,i64 long),(8,.p (.box g.pv)),(16,.msl 3 1 0 (bx out).length),(17,i64 js),(18,i64 A),(20,.msl 4 1 0 n'),(50,i64 Sv),(51,i64 js)]⟩,Y4 E++[.row z1 1 (bx out),.row z0 1 (List.replicate n' u0w)]⟩) (q9 hT ?_) ?_
    ·refine⟨⟨rfl,by omega,by show IntKind.i64.wrap (g.k+g.m)*24≤_;omega,by omega⟩,?_⟩
     exact⟨_,q7 [0,1,2,3,4] [0,1,3,4,5,8,16,17,18,20,50,51] rfl,(IntKind.i64.wrap (g.k+g.m)).toNat,by omega,rfl⟩
    rintro _ ⟨n',hn',rfl⟩
    rw[hn']
    clear hn' n'
    refine y6 (fun st=>∃ X F,X=(E.reads A n).1∧F=(E.reads A n).2∧st=⟨⟨114,[(0,.ref 0 0),(1,i64 vol),(3,i64 area),(4,i64 no),(5,i64 long),(8,.p (.box g.pv)),(16,.msl 3 1 0 (bx out).length),(17,i64 js),(20,.p (.sl 1 (z2 X))),(50,i64 Sv),(51,i64 js)]⟩,Y4 F++[.row z1 1 (bx out)]⟩) (q8 hT ?_) ?_
    ·refine z3 ?_
     refine y7 (fun c st=>∃ (j:Nat) (jj:Int) (X:List (List PV)) (F:Dev),c+j=n∧jj=j∧X=z2 (E.reads A j).1++List.replicate (n - j) u0w∧F=(E.reads A j).2∧st=⟨⟨114,[(0,.ref 0 0),(1,i64 vol),(3,i64 area),(4,i64 no),(5,i64 long),(8,.p (.box g.pv)),(16,.msl 3 1 0 (bx out).length),(17,i64 js),(18,i64 A),(20,.msl 4 1 0 n),(50,i64 Sv),(51,i64 js),(68,i64 n),(69,i64 jj)]⟩,Y4 F++[.row z1 1 (bx out),.row z0 1 X]⟩) n ⟨⟨114,_⟩,_⟩ (q7 [0,1,2,3,4] [0,1,3,4,5,8,16,17,18,20,50,51,68,69] rfl) ⟨0,0,_,E,by omega,rfl,rfl,rfl,rfl⟩ ?_
     rintro c st ⟨j,jj,X,F,hcj,hjj,hX,hFF,rfl⟩
     refine q8 hT ?_
     refine z8 (z4 (y4 (fun h=>?_) (fun h=>?_)))
     ·have h:=k0q (show decide (jj<(n:Int))=true from h)
      have hjn:j<n:=by omega
      refine z5 ?_
      have hFo:F.Ok b:=by rw[hFF];exact z2q hEo A j
      have hwA:IntKind.i64.wrap (A+jj)=A+j:=by rw[y8 _ (by omega) (by omega),hjj]
      have w:=x1i F (A+j) (by have:=hFo.wl;omega) (fun x hx=>by have:=hFo.ws x hx;omega) (fun c hc=>by have:=hFo.cs c hc;omega)
      rw[← hwA]at w
      have e1:z2 (E.reads A (j+1)).1=z2 (E.reads A j).1++[[bP (F.read (A+j)).1.1]]:=by rw[hFF,← x2f];rfl
      have e2:(E.reads A (j+1)).2=(F.read (A+j)).2:=by rw[hFF];rfl
      rw[← hwA]at e1 e2
      generalize F.read (IntKind.i64.wrap (A+jj))=Y at w e1 e2
      obtain⟨⟨u,f⟩,G⟩:=Y
      have w:AFm Tryz.prog 3 q8z [.ref 0 0,i64 (IntKind.i64.wrap (A+jj))] (Y4 F) (v8 (.tup [bA u,i64 f]) (Y4 G)):=w
      have e1:z2 (E.reads A (j+1)).1=z2 (E.reads A j).1++[[bP u]]:=e1
      have e2:(E.reads A (j+1)).2=G:=e2
      have hcl:(z2 (E.reads A j).1).length=j:=by rw[u5,z4c]
      have hget:X[0+jj.toNat]?=some u0w:=by
       rw[show 0+jj.toNat=j by omega,hX,k0s (by omega),hcl,Nat.sub_self,show n - j=(n - j - 1)+1 by omega];rfl
      have hset:X.set (0+jj.toNat) [bP u]=z2 (E.reads A (j+1)).1++List.replicate (n - (j+1)) u0w:=by
       rw[show 0+jj.toNat=j by omega,hX,List.set_append,if_neg (by omega),hcl,Nat.sub_self,e1,List.append_assoc]
       rw[show n - j=(n - (j+1))+1 by omega];rfl
      refine z7 ⟨⟨114,[(0,.ref 0 0),(1,i64 vol),(3,i64 area),(4,i64 no),(5,i64 long),(8,.p (.box g.pv)),(16,.msl 3 1 0 (bx out).length),(17,i64 js),(18,i64 A),(20,.msl 4 1 0 n),(50,i64 Sv),(51,i64 js),(68,i64 n),(69,i64 jj)]⟩,Y4 G++[.row z1 1 (bx out),.row z0 1 (X.set (0+jj.toNat) [bP u])]⟩ True (z3 (q8 hT ?_)) (fun _=>?_)
      ·refine q9 hT ?_
       refine x7 (Q7 [0,1,2] w rfl rfl rfl) ?_
       refine⟨⟨by omega,by omega⟩,?_⟩
       refine w9 hget ?_
       exact⟨q7 [0,1,2,3,4] [0,1,3,4,5,8,16,17,18,20,50,51,68,69] rfl,trivial⟩
      ·refine q9 hT ?_
       exact⟨c - 1,by omega,_,q7 [0,1,2,3,4] [0,1,3,4,5,8,16,17,18,20,50,51,68,69] rfl,j+1,IntKind.i64.wrap (jj+1),_,G,by omega,by rw[y8 _ (by omega) (by omega)];omega,hset,e2.symm,rfl⟩
     ·have h:=k0z (show decide (jj<(n:Int))=false from h)
      have hjn:j=n:=by omega
      rw[hjn]at hX hFF
      have hX:X=z2 (E.reads A n).1:=by rw[hX,Nat.sub_self];simp
      have hXl:X.length=n:=by rw[hX,u5,z4c]
      refine x6 ?_
      exact⟨_,Wk.trans (u0e 20 4 1 n hX hXl.symm rfl rfl) (q7 [0,1,2,3] [0,1,3,4,5,8,16,17,20,50,51] rfl),_,F,rfl,hFF,rfl⟩
    rintro _ ⟨X,F,hX,hFF,rfl⟩
    rw[← hX,← hFF]at hNs
    have hXl:X.length=n:=by rw[hX,z4c]
    have hXb:∀ s∈X,s.length≤1000000:=fun s hs=>by rw[hX]at hs;have:=y1p hEo A n s hs;omega
    have wS:=y1m X vol g area js no hk4 hm3 (by omega) hXb
    have hTl:=y1n (l:=X) (vol:=vol) (g:=g) (area:=area) (stripe:=js) (no:=no)
    generalize X4 X vol g area js no=T at hNs wS hTl
    refine z7 ⟨⟨114,[(0,.ref 0 0),(1,i64 vol),(3,i64 area),(4,i64 no),(5,i64 long),(8,.p (.box g.pv)),(16,.msl 3 1 0 (bx out).length),(22,.p (.sl 1 (z2 T.1))),(23,i64 T.2),(50,i64 Sv),(51,i64 js)]⟩,Y4 F++[.row z1 1 (bx out)]⟩ True (q9 hT ?_) (fun _=>?_)
    ·refine x7 (w7 wS _ rfl rfl) ?_
     exact⟨q7 [0,1,2,3] [0,1,3,4,5,8,16,22,23,50,51] rfl,trivial⟩
    refine z7 ⟨⟨114,[(0,.ref 0 0),(1,i64 vol),(3,i64 area),(4,i64 no),(5,i64 long),(8,.p (.box g.pv)),(16,.msl 3 1 0 (bx out).length),(22,.p (.sl 1 (z2 T.1))),(50,i64 Sv),(51,i64 js)]⟩,Y4 F++[.row z1 1 (bx out)]⟩ (T.2=0) (q8 hT ?_) ?_
    ·refine z4 (y4 (fun h=>?_) (fun h=>?_))
     ·have h:(T.2 != 0)=true:=h
      rw[h]at hNs
      have hNs:D.snapN vol g area no (s+1)=([],T.2,F):=hNs
      have hNS:=x2i (D:=D) (vol:=vol) (g:=g) (area:=area) (no:=no) (s:=s+1) (by rw[hNs];exact h) (S - (s+1))
      rw[show s+1+(S - (s+1))=S by omega,hNs]at hNS
      rw[hNS]at eZ
      have eZ:Z=match T.2 != 0 with
       |true=>(([],T.2),F)
       |false=>((List.take long.toNat [],0),F):=eZ
      rw[h]at eZ
      refine q8 hT ?_
      refine u6 (q1a 12 1 rfl) ?_
      refine y9 ?_
      exact z9 [0,1,2] ⟨(([],T.2),F),eZ.symm,rfl,rfl⟩ rfl
     ·exact z5 ⟨q7 [0,1,2,3] [0,1,3,4,5,8,16,22,50,51] rfl,by have h:(T.2 != 0)=false:=h;simpa using h⟩
    intro hT2
    obtain⟨hT1,hT3⟩:=hTl hT2
    rw[hkn,hmn]at hT1
    rw[hkn]at hT3
    rw[hT2]at hNs
    have hNs:D.snapN vol g area no (s+1)=(out++(T.1.take k).flatten,0,F):=hNs
    have hTc:=u5 T.1
    have hsl:((z2 T.1).take g.k.toNat).drop (0:Int).toNat=z2 (T.1.take k):=by rw[hkn,v2n];rfl
    have hkl:(T.1.take k).length=k:=by rw[k2u];omega
    generalize T.1.take k=U at hNs hT3 hsl hkl
    have hUc:=u5 U
    refine y6 (fun st=>∃ Y,Y=z2 U∧st=⟨⟨114,[(0,.ref 0 0),(1,i64 vol),(3,i64 area),(4,i64 no),(5,i64 long),(8,.p (.box g.pv)),(16,.msl 3 1 0 (bx out).length),(50,i64 Sv),(51,i64 js),(100,.p (.sl 1 Y)),(101,i64 Y.length),(102,i64 0)]⟩,Y4 F++[.row z1 1 (bx out)]⟩) (q9 hT ?_) ?_
    ·refine⟨⟨Int.le_refl _,by omega,by omega⟩,?_⟩
     exact⟨_,q7 [0,1,2,3] [0,1,3,4,5,8,16,50,51,100,101,102] rfl,_,hsl,rfl⟩
    rintro _ ⟨Y,rfl,rfl⟩
    refine z3 ?_
    refine y7 (fun c st=>∃ (j:Nat) (jj:Int) (out':z6),c+j=k∧jj=j∧out'=out++(U.take j).flatten∧out'.length=s*k*228+j*228∧st=⟨⟨114,[(0,.ref 0 0),(1,i64 vol),(3,i64 area),(4,i64 no),(5,i64 long),(8,.p (.box g.pv)),(16,.msl 3 1 0 (bx out').length),(50,i64 Sv),(51,i64 js),(100,.p (.sl 1 (z2 U))),(101,i64 (z2 U).length),(102,i64 jj)]⟩,Y4 F++[.row z1 1 (bx out')]⟩) k ⟨⟨114,_⟩,_⟩ (Wk.refl _ _) ⟨0,0,out,by omega,rfl,by simp,by omega,rfl⟩ ?_
    rintro c st ⟨j,jj,out',hcj,hjj,hout,houtl,rfl⟩
    refine q8 hT ?_
    refine z8 (z4 (y4 (fun h=>?_) (fun h=>?_)))
    ·have h:=k0q (show decide (jj<(((z2 U).length:Nat):Int))=true from h)
     have hj:j<U.length:=by omega
     refine z5 ?_
     have hx:=k0x hj
     have hsl:=hT3 _ (k1x hj)
     generalize U[j]=sh at hx hsl
     have hxp:(z2 U)[jj.toNat]?=some [bP sh]:=by rw[hjj,k0v];exact Q0 hx
     have hob:=w6 out'
     have hsb:=w6 sh
     have hnew:out++(U.take (j+1)).flatten=out'++sh:=by
      rw[k2t,hx,List.flatten_append,hout,List.append_assoc];simp
     refine y6 (fun st=>∃ o,o=out'++sh∧st=⟨⟨114,[(0,.ref 0 0),(1,i64 vol),(3,i64 area),(4,i64 no),(5,i64 long),(8,.p (.box g.pv)),(16,.msl 3 1 0 (bx o).length),(50,i64 Sv),(51,i64 js),(100,.p (.sl 1 (z2 U))),(101,i64 (z2 U).length),(102,i64 jj)]⟩,Y4 F++[.row z1 1 (bx o)]⟩) (z3 (q8 hT ?_)) ?_
     ·refine⟨by omega,w9 hxp ?_⟩
      refine q9 hT ?_
      refine⟨rfl,⟨by show ((bx out').length+(bx sh).length)*1≤_;omega,by omega⟩,?_⟩
      refine⟨_,q7 [0,1,2,4] [0,1,3,4,5,8,16,50,51,100,101,102] rfl,_,rfl,?_⟩
      rw[Y9];rfl
     ·rintro _ ⟨o,rfl,rfl⟩
      refine q9 hT ?_
      exact⟨c - 1,by omega,_,q7 [0,1,2,3] [0,1,3,4,5,8,16,50,51,100,101,102] rfl,j+1,IntKind.i64.wrap (jj+1),_,by omega,by rw[y8 _ (by omega) (by omega)];omega,hnew.symm,by rw[k1z];omega,rfl⟩
    ·have h:=k0z (show decide (jj<(((z2 U).length:Nat):Int))=false from h)
     rw[k2z (by omega)]at hout
     refine x6 ?_
     exact⟨_,q7 [0,1,2,3] [0,1,3,4,5,8,16,50,51] rfl,out',F,by rw[hNs,hout],rfl⟩
   ·rintro _ ⟨out,E,hN,rfl⟩
    refine q9 hT ?_
    exact⟨c - 1,by omega,_,q7 [0,1,2,3] [0,1,3,4,5,8,16,50,51] rfl,s+1,IntKind.i64.wrap (js+1),Sv,out,E,by omega,by rw[y8 _ (by omega) (by omega)];omega,hSv,hN,rfl⟩
  ·have h:=k0z (show decide (js<Sv)=false from h)
   rw[show s=S by omega]at hN
   refine x6 ?_
   exact⟨_,q7 [0,1,2,3] [5,16] rfl,out,E,hN,rfl⟩
 rintro _ ⟨out,E,hN,rfl⟩
 have hol:out.length=S*k*228:=by have:=y0u (D:=D) (vol:=vol) (g:=g) (area:=area) (no:=no) S (by rw[hN]);rwa [hN,hkn]at this
 rw[hN]at eZ
 have eZ:Z=((out.take long.toNat,0),E):=eZ
 have hbl:=w6 out
 refine u6 (Z6 16 3 _ rfl rfl rfl rfl) ?_
 refine q8 hT ?_
 refine⟨⟨Int.le_refl _,by omega,by omega⟩,?_⟩
 refine y9 ?_
 refine z9 [0,1,2] ⟨((out.take long.toNat,0),E),eZ.symm,?_,rfl⟩ rfl
 show AV.tup [.p (.sl 1 (((bx out).take long.toNat).drop 0)),i64 0]=_
 rw[List.drop_zero,← z3q]
structure Fol where
 txs:List z6
 next:Int
 chain:Int
 epoch:Int
 tx:z6
 index:Int
 of_:Int
 ended:Bool
def Q0e (vol:Int)(g:GeoV)(p:Pc):Int:=((Crc.sum (p.sector vol g 0).1).toNat:Int)
structure TailV where
 txs:List z6
 next:Int
 chain:Int
 epoch:Int
 deriving DecidableEq
abbrev TailV.cv (t:TailV):List AV:=[.p (.sl 1 (z2 t.txs)),i64 t.next,i64 t.chain,i64 t.epoch]
abbrev TailV.av (t:TailV):AV:=.agg t.cv
def TailV.zero:TailV:=⟨[],0,0,0⟩
def Fol.tail (F:Fol):TailV:=⟨F.txs,F.next,F.chain,F.epoch⟩
def u1r (n:Int):List Pc→Int→Bool
 |[],_=>true
 |p :: r,k=>match p.index != k||p.of_ != n with|true=>false|false=>u1r n r (k+1)
structure Rg where
 vol:Int
 g:GeoV
 epoch:Int
 frm:Int
 start:Int
 next:Int
 chain:Int
def v8t:Nat→z6→List z6
 |0,b=>[b]
 |f+1,b=>match decide (b.length > 200) with
  |true=>b.take 200 :: v8t f (b.drop 200)
  |false=>[b]
def y7u (b:z6):List z6:=v8t b.length b
def w9i (R:Rg)(p:Pc):List Put9:=[⟨q3p R.g 0 (p.seq.tmod R.g.w),(p.sector R.vol R.g 0).1⟩,⟨q3p R.g 1 (p.seq.tmod R.g.w),(p.sector R.vol R.g 1).1⟩]
def u0y (R:Rg)(D:Dev)(p:Pc):Int × (Rg × Dev):=match (D.all9 (w9i R p)).1 != 0 with
 |true=>((D.all9 (w9i R p)).1,(R,(D.all9 (w9i R p)).2))
 |false=>(0,({ R with next:=R.next+1,chain:=Q0e R.vol R.g p },(D.all9 (w9i R p)).2))
structure Rg.Ok (R:Rg):Prop where
 g:R.g.may=true
 vol:Y2 R.vol=true
 e:0≤R.epoch∧R.epoch≤4294967295
 f:0≤R.frm∧R.frm≤R.next
 s:0≤R.start∧R.start≤R.next
 n:R.next≤4294967295
 c:0≤R.chain∧R.chain≤4294967295
def pcR (R:Rg)(i n:Int)(b:z6):Pc:=⟨R.next,R.epoch,R.frm,R.chain,i,n,b⟩
def Q0f (n:Int):List z6→Int→Rg→Dev→Int × (Rg × Dev)
 |[],_,R,D=>(0,(R,D))
 |b :: r,i,R,D=>match (u0y R D (pcR R i n b)).1 != 0 with
  |true=>u0y R D (pcR R i n b)
  |false=>Q0f n r (i+1) (u0y R D (pcR R i n b)).2.1 (u0y R D (pcR R i n b)).2.2
def Rg.append (R:Rg)(D:Dev)(tx:z6):Int × (Rg × Dev):=match decide ((y7u tx).length > 64) with
 |true=>(2,(R,D))
 |false=>match decide (R.next+(y7u tx).length - R.start > R.g.w)||decide (R.next+(y7u tx).length > 4294967295) with
  |true=>(4,(R,D))
  |false=>Q0f (y7u tx).length (y7u tx) 0 R D
structure CleanP (D:Dev) (N b:Nat):Prop where
 ok:D.Ok b
 dead:D.dead=false
 armed:D.armed=false
 waits:D.waits=[]
 len:D.cells.length=N
 well:∀ c∈D.cells,c.drop=0∧c.miss=[]
theorem v8u {D:Dev}{N k:Nat}(h:D.cells.length=N)(hk:k<N):D.has (k:Int)=true:=by
 unfold Dev.has;rw[h,k1u (show (k:Int)≥0 by omega),k1u (show (k:Int)<(N:Int) by omega)];rfl
theorem x6h {E:Dev}(h1:E.dead=false)(h2:E.armed=false):E.lives.dead=false:=by
 show (E.dead||(E.armed&&E.left==0))=false
 rw[h1,h2];rfl
theorem Q0g {E:Dev}{a:Int}{s:z6}(hd:E.dead=false)(hw:E.waits=[])(hh:E.has a=true){c:Cell}(hc:E.cells[a.toNat]?=some c):E.hhas a s=((!c.lost&&(c.s==s),0),E.count):=by
 have hr:E.readAt a=match c.lost with|true=>(20,[])|false=>(0,c.s):=by
  unfold Dev.readAt;rw[hw];show (match E.cells[a.toNat]? with|some c=>_|none=>_)=_;rw[hc];rfl
 have e:E.read a=(((E.readAt a).2,(E.readAt a).1),E.count):=by unfold Dev.read;rw[hd,hh]
 unfold Dev.hhas
 rw[e,hr]
 cases c.lost with
 |true=>rfl
 |false=>rfl
theorem w2y {D:Dev}{N b:Nat}(h:CleanP D N b){k:Nat}(hk:k<N){s:z6}(hs:s.length=256) :
 ∃ E,D.once k s=((true,0),E)∧CleanP E N (b+1)∧E.cells=D.cells.set k ⟨s,false,0,[]⟩:=by
 obtain⟨c,hc⟩:∃ c,D.cells[k]?=some c:=⟨_,k0x (by rw[h.len];omega)⟩
 have hlt:=(k0u.1 hc).1
 obtain⟨cd,cm⟩:=h.well c (k2x hc)
 have hh:D.has k=true:=v8u h.len hk
 have hl:D.lives.dead=false:=x6h h.dead h.armed
 have ok:=(h.ok.write k s).flush
 have hput:D.lives.count.put k s = { D.lives.count with waits:=[⟨k,s⟩] }:=by
  unfold Dev.put
  rw[k0v,show D.lives.count.cells[k]?=some c from hc]
  simp only
  rw[cd,cm]
  show { D.lives.count with waits:=D.waits++[(⟨k,s⟩:Wr)] }=_
  rw[h.waits];rfl
 have e:D.write k s=(0,{ D.lives.count with waits:=[⟨k,s⟩] }):=by
  rw[← hput]
  unfold Dev.write
  rw[h.dead,hh,show ((s.length:Int) != 256)=false by rw[hs];rfl,hl]
 have hl2:Dev.dead (Dev.lives { D.lives.count with waits:=[⟨k,s⟩] })=false:=x6h hl h.armed
 have ef:Dev.flush { D.lives.count with waits:=[⟨k,s⟩] }=(0,(Dev.lives { D.lives.count with waits:=[⟨k,s⟩] }).drain [true]):=by
  unfold Dev.flush
  rw[show Dev.dead { D.lives.count with waits:=[⟨k,s⟩] }=false from hl,hl2]
 rw[e]at ok
 simp only at ok
 rw[ef]at ok
 have hcells:((Dev.lives { D.lives.count with waits:=[⟨k,s⟩] }).drain [true]).cells=D.cells.set k ⟨s,false,0,[]⟩:=by
  show q2b D.cells ⟨k,s⟩=_
  rw[z5p (x:=⟨k,s⟩) (show D.cells[((k:Nat):Int).toNat]?=some c by rw[k0v];exact hc)]
  show D.cells.set ((k:Nat):Int).toNat { c with s:=s,lost:=false }=_
  rw[k0v,cd,cm]
 have hwell:∀ c∈D.cells.set k ⟨s,false,0,[]⟩,c.drop=0∧c.miss=[]:=fun x hx=>by
  rcases List.mem_or_eq_of_mem_set hx with hx|rfl
  ·exact h.well x hx
  ·exact⟨rfl,rfl⟩
 have cE:CleanP ((Dev.lives { D.lives.count with waits:=[⟨k,s⟩] }).drain [true]) N (b+1):=⟨ok,hl2,h.armed,rfl,by rw[hcells,List.length_set];exact h.len,by rw[hcells];exact hwell⟩
 have eo:D.once k s=((Dev.lives { D.lives.count with waits:=[⟨k,s⟩] }).drain [true]).hhas k s:=by
  unfold Dev.once;rw[e];simp only;rw[ef];rfl
 generalize (Dev.lives { D.lives.count with waits:=[⟨k,s⟩] }).drain [true]=E at cE hcells eo
 have hce:E.cells[((k:Nat):Int).toNat]?=some ⟨s,false,0,[]⟩:=by rw[hcells,k0v];exact k2y hlt
 refine⟨E.count,?_,⟨cE.ok.count,cE.dead,cE.armed,cE.waits,cE.len,cE.well⟩,hcells⟩
 rw[eo,Q0g cE.dead cE.waits (v8u cE.len hk) hce]
 simp
theorem w7g {D:Dev}{N b:Nat}(h:CleanP D N b){k:Nat}(hk:k<N){s:z6}(hs:s.length=256) :
 ∃ E,D.one k s=(0,E)∧CleanP E N (b+1)∧E.cells=D.cells.set k ⟨s,false,0,[]⟩:=by
 obtain⟨E,h1,h2,h3⟩:=w2y h hk hs
 refine⟨E,?_,h2,h3⟩
 show Dev.tryK 4 D k s=_
 unfold Dev.tryK
 rw[h1];rfl
def q5x (D:Dev)(k:Nat):z6:=match D.cells[k]? with
 |some c=>match c.lost with|true=>[]|false=>c.s
 |none=>[]
theorem Q0h {D:Dev}{N b k:Nat}(h:CleanP D N b)(hk:k<N):(D.read k).1.1=q5x D k∧(D.read k).2=D.count∧CleanP D.count N b:=by
 have e:D.read k=(((D.readAt k).2,(D.readAt k).1),D.count):=by unfold Dev.read;rw[h.dead,v8u h.len hk]
 refine⟨?_,by rw[e],⟨h.ok.count,h.dead,h.armed,h.waits,h.len,h.well⟩⟩
 rw[e]
 show (D.readAt k).2=_
 unfold Dev.readAt q5x
 rw[h.waits,k0v]
 show (match D.cells[k]? with|some c=>(match c.lost with|true=>((20,[]):Int × z6)|false=>(0,c.s))|none=>(20,[])).2=_
 cases D.cells[k]? with
 |none=>rfl
 |some c=>cases hl:c.lost <;> simp[hl]
structure LiveP (D:Dev) (N b:Nat):Prop where
 ok:D.Ok b
 dead:D.dead=false
 waits:D.waits=[]
 len:D.cells.length=N
 well:∀ c∈D.cells,c.drop=0∧c.miss=[]
theorem CleanP.live {D:Dev}{N b:Nat}(h:CleanP D N b):LiveP D N b:=⟨h.ok,h.dead,h.waits,h.len,h.well⟩
def z1b (s:z6):Cell:=⟨s,false,0,[]⟩
def q7w:List Put9→List Cell→List Cell
 |[],cs=>cs
 |p :: r,cs=>q7w r (cs.set p.at_.toNat (z1b p.s))
theorem x2k:∀ (l:List Put9) (cs:List Cell),(q7w l cs).length=cs.length
 |[],_=>rfl
 |p :: r,cs=>by rw[q7w,x2k r,List.length_set]
theorem v3f (l r:List Put9)(cs:List Cell):q7w (l++r) cs=q7w r (q7w l cs):=by
 induction l generalizing cs with
 |nil=>rfl
 |cons p l ih=>exact ih _
def u3j (N:Nat)(p:Put9):Prop:=0≤p.at_∧p.at_<(N:Int)∧p.s.length=256
def z8i (vol:Int)(a:Nat):Blk:=⟨1,vol,a,0,0,[]⟩
def U9 (vol:Int)(a:Nat):z6:=(z8i vol a).sld.1
def wrK (vol:Int)(D:Dev):Nat→Dev
 |0=>D
 |k+1=>((wrK vol D k).write k (U9 vol k)).2
def GeoV.secs (g:GeoV):Nat:=(4+2*g.w+2*g.s*(g.k+g.m)).toNat
def q8w (vol:Int)(g:GeoV):Dev:=(wrK vol (Dev.new g.secs) g.secs).flush.2
theorem w7h (vol:Int){D:Dev}{b:Nat}(h:D.Ok b):∀ k,(wrK vol D k).Ok (b+k)
 |0=>h
 |k+1=>(w7h vol h k).write _ _
theorem x6i {g:GeoV}(hg:g.may=true):(g.secs:Int)=4+2*g.w+2*g.s*(g.k+g.m)∧g.secs≤4096∧4+2*g.w≤(g.secs:Int):=by
 have hg2:=hg
 unfold GeoV.may at hg2
 rw[k1v,decide_eq_true_eq]at hg2
 obtain⟨m1,m2,m3,m4,m5⟩:=z2d hg2.1
 have hb:=g.of_may hg
 unfold GeoV.secs
 have h0:0≤2*g.s*(g.k+g.m):=by rw[Int.mul_assoc];omega
 omega
def w9j (vol:Int)(g:GeoV):Bool:=g.may&&(!decide (g.w > 16)&&(!decide (vol<0)&&!decide (vol > 4294967295)))
theorem w2z (vol:Int)(g:GeoV)(h:w9j vol g=true):AF Tryz.prog y8n [i64 vol,g.av] [] (v8 (.ref 0 0) (Y4 (q8w vol g))):=by
 have wm:=x1s g
 unfold w9j at h
 simp only[Bool.and_eq_true,Bool.not_eq_true',decide_eq_false_iff_not]at h
 obtain⟨hg,h16,hv0,hv1⟩:=h
 rw[hg]at wm
 obtain⟨g1,g2,g3,g4,g5,g6,g7,g8⟩:=g.of_may hg
 obtain⟨q1,q2,q3⟩:=x6i hg
 obtain⟨m1,m2,m3,m4,m5⟩:=z2d (by unfold GeoV.may at hg;rw[k1v]at hg;exact hg.1)
 have hX:=m5
 obtain⟨N,hN⟩:∃ N,N=g.secs:=⟨_,rfl⟩
 have hnv:IntKind.i64.wrap (IntKind.i64.wrap (4+IntKind.i64.wrap (2*g.w))+IntKind.i64.wrap (IntKind.i64.wrap (2*g.s)*IntKind.i64.wrap (g.k+g.m)))=(N:Int):=by
  rw[hN,y8 (2*g.w) (by omega) (by omega),y8 (4+2*g.w) (by omega) (by omega),y8 (2*g.s) (by omega) (by omega),y8 (g.k+g.m) (by omega) (by omega),y8 (2*g.s*(g.k+g.m)) (by omega) (by omega),y8 _ (by omega) (by omega),q1]
 have n1:=v6j N (by omega) (by omega)
 have okD:=w7h vol (v6s N 0)
 refine v6 hT y8p rfl rfl y8q rfl ?_
 refine q8 hT ?_
 refine u6 (Q4 0 g.pv rfl rfl) ?_
 refine q8 hT ?_
 refine x7 (w7 wm _ rfl rfl) ?_
 refine z7 ⟨⟨67,[(0,i64 vol),(3,.p (.box g.pv))]⟩,[]⟩ True (q8 hT ?_) (fun _=>?_)
 ·refine y4 (fun h=>?_) (fun _=>?_)
  ·have h:=k0q (show decide (g.w > 16)=true from h)
   omega
  refine y4 (fun h=>?_) (fun _=>?_)
  ·have h:=k0q (show decide (vol<0)=true from h)
   omega
  refine z4 (y4 (fun h=>?_) (fun _=>?_))
  ·have h:=k0q (show decide (vol > 4294967295)=true from h)
   omega
  exact z5 ⟨q7 [] [0,3] rfl,trivial⟩
 refine z7 ⟨⟨67,[(0,i64 vol),(6,i64 N)]⟩,[]⟩ True (q9 hT ?_) (fun _=>?_)
 ·rw[← hnv]
  exact⟨q7 [] [0,6] rfl,trivial⟩
 clear hnv
 refine z7 ⟨⟨67,[(0,i64 vol),(6,i64 N),(7,.ref 0 0)]⟩,Y4 (Dev.new N)⟩ True (q9 hT ?_) (fun _=>?_)
 ·refine x7 n1 ?_
  exact⟨q7 [0,1,2] [0,6,7] rfl,trivial⟩
 have eB:q8w vol g=(wrK vol (Dev.new N) N).flush.2:=by rw[hN];rfl
 refine z7 ⟨⟨67,[(7,.ref 0 0)]⟩,Y4 (wrK vol (Dev.new N) N)⟩ True (q8 hT ?_) (fun _=>?_)
 ·refine z3 ?_
  refine y7 (fun n st=>∃ (k:Nat) (j:Int) (E:Dev),n+k=N∧j=k∧E=wrK vol (Dev.new N) k∧st=⟨⟨67,[(0,i64 vol),(6,i64 N),(7,.ref 0 0),(9,i64 j)]⟩,Y4 E⟩) N ⟨⟨67,_⟩,_⟩ (q7 [0,1,2] [0,6,7,9] rfl) ⟨0,0,_,rfl,rfl,rfl,rfl⟩ ?_
  rintro n st ⟨k,j,E,hnk,hj,hE,rfl⟩
  have hEo:E.Ok (0+k):=by rw[hE];exact okD k
  refine z8 (q8 hT ?_)
  refine z4 (y4 (fun h=>?_) (fun h=>?_))
  ·have h:=k0q (show decide (j<(N:Int))=true from h)
   have ws:=y6y ⟨1,vol,j,0,0,[]⟩
   have eS:(Blk.mk 1 vol j 0 0 []).sld.1=U9 vol k:=by rw[hj];rfl
   have eE:wrK vol (Dev.new N) (k+1)=(E.write j (U9 vol k)).2:=by rw[hE,hj];rfl
   have ww:=y6g E j (U9 vol k) (by have:=hEo.wl;omega)
   rw[eS]at ws
   generalize (Blk.mk 1 vol j 0 0 []).sld.2=e at ws
   generalize U9 vol k=s at ws ww eE
   generalize E.write j s=Y at ww eE
   obtain⟨f,F⟩:=Y
   have ww:AFm Tryz.prog 1 q8d [.ref 0 0,i64 j,bA s] (Y4 E) (v8 (i64 f) (Y4 F)):=ww
   have eE:wrK vol (Dev.new N) (k+1)=F:=eE
   refine z5 ?_
   refine z7 ⟨⟨67,[(0,i64 vol),(6,i64 N),(7,.ref 0 0),(9,i64 j)]⟩,Y4 F⟩ True (z3 (q8 hT ?_)) (fun _=>?_)
   ·refine x7 (v1i (w7 ws _ rfl rfl) ⟨.inl rfl,.inl rfl,.inl rfl,.inl rfl,.inl rfl,.inr ⟨rfl,1,rfl⟩,trivial⟩) ?_
    refine q9 hT ?_
    refine x7 (Q7 [0,1,2] ww rfl rfl rfl) ?_
    exact⟨q7 [0,3,4] [0,6,7,9] rfl,trivial⟩
   ·refine q9 hT ?_
    refine⟨n - 1,by omega,_,q7 [0,1,2] [0,6,7,9] rfl,k+1,IntKind.i64.wrap (j+1),F,by omega,?_,eE.symm,rfl⟩
    rw[y8 _ (by omega) (by omega),hj];rfl
  ·have h:=k0z (show decide (j<(N:Int))=false from h)
   have hk:k=N:=by omega
   rw[hk]at hE
   rw[← hE]
   refine x6 ?_
   exact⟨q7 [0,1,2] [7] rfl,trivial⟩
 have okN:=okD N
 have wf:=y6e (wrK vol (Dev.new N) N) okN.at_ (by have:=okN.wl;omega)
 rw[← eB]at wf
 generalize (wrK vol (Dev.new N) N).flush.1=f at wf
 generalize q8w vol g=B at wf
 refine q8 hT ?_
 refine x7 (Q7 [0,1,2] wf rfl rfl rfl) ?_
 refine q8 hT ?_
 refine y9 ?_
 exact z9 [0,3,4] ⟨rfl,rfl⟩ rfl
theorem y0v (vol:Int)(hv:Y2 vol=true)(a:Nat)(ha:a≤4294967295):U9 vol a=q0k (z8i vol a).all∧Y8 (q0k (z8i vol a).all)=(z8i vol a,0)∧(U9 vol a).length=256:=by
 have hn:(z8i vol a).nums=true:=by
  unfold Blk.nums z8i
  simp only[List.all_cons,List.all_nil,Bool.and_eq_true,decide_eq_true_eq]
  have w1:Y2 (a:Int)=true:=by unfold Y2;simp only[Bool.and_eq_true,decide_eq_true_eq];omega
  exact⟨by decide,hv,w1,by decide,by decide,trivial⟩
 have hb:(z8i vol a).body.length≤228:=Nat.zero_le _
 have e:U9 vol a=q0k (z8i vol a).all:=by
  unfold U9 Blk.sld
  rw[hn,k1t (show ¬ (z8i vol a).body.length > 228 by omega)]
 refine⟨e,y0p hn hb,?_⟩
 rw[e,q9g,z3r _ hb]
theorem x2m (vol:Int)(hv:Y2 vol=true)(N:Nat)(hN:N≤4096):∀ k,k≤N→(wrK vol (Dev.new N) k).cells=(Dev.new N).cells∧(wrK vol (Dev.new N) k).waits=(List.range k).map (fun(a:Nat)=>(⟨(a:Int),U9 vol a⟩:Wr))∧(wrK vol (Dev.new N) k).dead=false∧(wrK vol (Dev.new N) k).armed=false
 |0,_=>⟨rfl,rfl,rfl,rfl⟩
 |k+1,hk=>by
  obtain⟨h1,h2,h3,h4⟩:=x2m vol hv N hN k (by omega)
  have hl:=(y0v vol hv k (by omega)).2.2
  have hc:(Dev.new N).cells[k]?=some cell1:=by
   show (List.replicate N cell1)[k]?=_
   rw[List.getElem?_replicate,if_pos (by omega)]
  show ((wrK vol (Dev.new N) k).write k (U9 vol k)).2.cells=_∧_
  generalize hE:wrK vol (Dev.new N) k=E at h1 h2 h3 h4
  have hh:E.has k=true:=v8u (N:=N) (by rw[h1];show (List.replicate N cell1).length=N;rw[k2q]) (by omega)
  have hld:E.lives.dead=false:=x6h h3 h4
  have hput:E.lives.count.put k (U9 vol k) = { E.lives.count with waits:=E.waits++[⟨(k:Int),U9 vol k⟩] }:=by
   unfold Dev.put
   rw[k0v,show E.lives.count.cells[k]?=some cell1 by show E.cells[k]?=_;rw[h1];exact hc]
   rfl
  have e:E.write k (U9 vol k)=(0,{ E.lives.count with waits:=E.waits++[⟨(k:Int),U9 vol k⟩] }):=by
   rw[← hput]
   unfold Dev.write
   rw[h3,hh,show (((U9 vol k).length:Int) != 256)=false by rw[hl];rfl,hld]
  have e2:wrK vol (Dev.new N) (k+1) = { E.lives.count with waits:=E.waits++[⟨(k:Int),U9 vol k⟩] }:=by
   show ((wrK vol (Dev.new N) k).write k (U9 vol k)).2=_
   rw[hE,e]
  rw[e,e2]
  refine⟨h1,?_,hld,h4⟩
  rw[List.range_succ,List.map_append,← h2];rfl
theorem x2n (vol:Int)(cs:List Cell)(hw:∀ c∈cs,c.drop=0∧c.miss=[])(N:Nat)(hN:N≤cs.length):∀ i,i≤N→∀ a,(q2r ((List.range N).map (fun(a:Nat)=>(⟨(a:Int),U9 vol a⟩:Wr))) [true] i cs)[a]?=if a<i then some (z1b (U9 vol a)) else cs[a]?
 |0,_,a=>by rw[if_neg (by omega)];rfl
 |i+1,hi,a=>by
  have ih:=x2n vol cs hw N hN i (by omega)
  have hk:kept [true] i=true:=by
   unfold kept
   rw[show i % [true].length=0 from Nat.mod_one i];rfl
  have hg:((List.range N).map (fun(a:Nat)=>(⟨(a:Int),U9 vol a⟩:Wr))).getD i ⟨0,[]⟩=⟨(i:Int),U9 vol i⟩:=by
   rw[k0w,k1q,k2s (by omega)];rfl
  have hlen:=q5e ((List.range N).map (fun(a:Nat)=>(⟨(a:Int),U9 vol a⟩:Wr))) [true] cs i
  unfold q2r
  rw[hk,hg]
  show (q2b _ _)[a]?=_
  have hci:(q2r ((List.range N).map (fun(a:Nat)=>(⟨(a:Int),U9 vol a⟩:Wr))) [true] i cs)[i]?=cs[i]?:=by rw[ih i,if_neg (by omega)]
  obtain⟨c,hc⟩:∃ c,cs[i]?=some c:=⟨_,k0x (by omega)⟩
  have hcw:=hw c (k2x hc)
  rw[hc]at hci
  generalize q2r ((List.range N).map (fun(a:Nat)=>(⟨(a:Int),U9 vol a⟩:Wr))) [true] i cs=L at ih hlen hci ⊢
  rw[z5p (x:=⟨(i:Int),U9 vol i⟩) (c:=c) (by show L[((i:Nat):Int).toNat]?=_;rw[k0v];exact hci)]
  show (L.set ((i:Nat):Int).toNat { c with s:=U9 vol i,lost:=false })[a]?=_
  rw[k0v,List.getElem?_set]
  by_cases e:i=a
  ·subst e
   rw[if_pos rfl,if_pos (by omega),if_pos (by omega)]
   unfold z1b
   rw[← hcw.1,← hcw.2]
  ·rw[if_neg e,ih a]
   by_cases e2:a<i
   ·rw[if_pos e2,if_pos (by omega)]
   ·rw[if_neg e2,if_neg (by omega)]
theorem u3k (vol:Int)(hv:Y2 vol=true)(g:GeoV)(hg:g.may=true):CleanP (q8w vol g) g.secs g.secs∧∀ a,a<g.secs→(q8w vol g).cells[a]?=some (z1b (U9 vol a)):=by
 obtain⟨_,q2,_⟩:=x6i hg
 have okN:=w7h vol (v6s g.secs 0) g.secs
 obtain⟨h1,h2,h3,h4⟩:=x2m vol hv g.secs q2 g.secs (k1w _)
 have okF:=okN.flush
 have eB:q8w vol g=(wrK vol (Dev.new g.secs) g.secs).flush.2:=rfl
 rw[← eB,Nat.zero_add]at okF
 generalize wrK vol (Dev.new g.secs) g.secs=E at h1 h2 h3 h4 eB
 have hld:E.lives.dead=false:=x6h h3 h4
 have e:E.flush=(0,E.lives.drain [true]):=by unfold Dev.flush;rw[h3,hld]
 rw[e]at eB
 have hcl:(Dev.new g.secs).cells.length=g.secs:=k2q
 have hwl:∀ c∈(Dev.new g.secs).cells,c.drop=0∧c.miss=[]:=fun c hc=>by rw[List.eq_of_mem_replicate hc];exact⟨rfl,rfl⟩
 have hcs:(q8w vol g).cells=q2r ((List.range g.secs).map (fun(a:Nat)=>(⟨(a:Int),U9 vol a⟩:Wr))) [true] g.secs (Dev.new g.secs).cells:=by
  rw[eB]
  show q2r E.waits [true] E.waits.length E.cells=_
  rw[h2,h1,k1y,k3q]
 have hca:=x2n vol (Dev.new g.secs).cells hwl g.secs (by omega) g.secs (k1w _)
 have hcell:∀ a,a<g.secs→(q8w vol g).cells[a]?=some (z1b (U9 vol a)):=fun a ha=>by rw[hcs,hca a,if_pos ha]
 have hlen:(q8w vol g).cells.length=g.secs:=by rw[hcs,q5e];exact hcl
 refine⟨⟨okF,by rw[eB];exact hld,by rw[eB];exact h4,by rw[eB];rfl,hlen,fun c hc=>?_⟩,hcell⟩
 obtain⟨i,hi⟩:=List.getElem?_of_mem hc
 have hlt:=(k0u.1 hi).1
 rw[hcell i (by omega)]at hi
 obtain rfl:=k0y hi
 exact⟨rfl,rfl⟩
end Go.Proofs.YtinfbclgkghgaaaGreat.AL
namespace Go.Proofs.YtinfbclgkghgaaaGreat.AL
open Go Go.Proofs Go.Proofs.YtinfbclgkghgaaaGreat.AL.Crc
def u1s (vol:Int)(g:GeoV)(c0:Int)(P:List Pc):Nat→Int
 |0=>c0
 |i+1=>match P[i]? with|some p=>Q0e vol g p|none=>c0
def x6j (g:GeoV)(s0:Int)(i:Nat):Int:=(s0+i).tmod g.w
structure CellsP (vol:Int) (g:GeoV) (s0:Int) (P:List Pc) (cs:List Cell):Prop where
 used:∀ (i:Nat) (p:Pc),P[i]?=some p→∀ m:Int,(m=0∨m=1)→cs[(q3p g m (x6j g s0 i)).toNat]?=some (z1b (p.sector vol g m).1)
 free:∀ k m:Int,0≤k→k<g.w→(m=0∨m=1)→(∀ i:Nat,i<P.length→x6j g s0 i≠k)→cs[(q3p g m k).toNat]?=some (z1b (U9 vol (q3p g m k).toNat))
theorem Q0i (g:GeoV)(k:Int):q3p g 0 k=4+k:=by unfold q3p;omega
theorem Q0j (g:GeoV)(k:Int):q3p g 1 k=4+g.w+k:=by unfold q3p;omega
theorem w7i {p:Pc}{vol:Int}{g:GeoV}{m:Int}(hp:p.may=true)(hg:g.may=true)(hv:Y2 vol=true)(m0:0≤m)(m2:m<2):(p.sector vol g m).1.length=256:=by
 rw[(y7h hp hg hv m0 m2).1]
 have:=w9a hp
 show (q0k _).length=256
 rw[q9g,z3r _ (by show (pcB p).length≤228;omega)]
def Q0k (s:List Pc):Prop:=s≠[]∧u1r s.length s 0=true∧∀ p∈s,p.of_=s.length
theorem CellsP.all {vol:Int}{g:GeoV}{s0:Int}{P:List Pc}{cs:List Cell}(h:CellsP vol g s0 P cs){k m:Int}(k0:0≤k)(k1:k<g.w)(hm:m=0∨m=1):∃ s,cs[(q3p g m k).toNat]?=some (z1b s):=by
 by_cases e:∃ i:Nat,i<P.length∧x6j g s0 i=k
 ·obtain⟨i,hi,rfl⟩:=e
  exact⟨_,h.used i _ (k0x hi) m hm⟩
 ·exact⟨_,h.free k m k0 k1 hm fun i hi he=>e ⟨i,hi,he⟩⟩
theorem v3g (n:Nat):x1k (UInt8.ofNat n) (UInt8.ofNat (n / 256)) (UInt8.ofNat (n / 256 ^ 2)) (UInt8.ofNat (n / 256 ^ 3))=BitVec.ofNat 32 n:=by
 apply BitVec.eq_of_getLsbD_eq
 intro i hi
 have h1:i=8*(i / 8)+i % 8:=by omega
 rw[h1,x1m _ _ _ _ (show i / 8<4 by omega) (show i % 8<8 by omega)]
 have key:∀ j,j<4→(wd (UInt8.ofNat (n / 256 ^ j))).getLsbD (i % 8)=(BitVec.ofNat 32 n).getLsbD (8*j+i % 8):=by
  intro j hj
  unfold wd
  rw[BitVec.getLsbD_ofNat,BitVec.getLsbD_ofNat,UInt8.toNat_ofNat',show (256:Nat) ^ j=2 ^ (8*j) by rw[show (256:Nat)=2 ^ 8 from rfl,Nat.pow_mul],show (2:Nat) ^ 8=2 ^ 8 from rfl,Nat.testBit_mod_two_pow,Nat.testBit_div_two_pow,k1u (show i % 8<32 by omega),k1u (show i % 8<8 by omega),k1u (show 8*j+i % 8<32 by omega),Bool.true_and,Bool.true_and,Bool.true_and,Nat.add_comm]
 have h2:i / 8=0∨i / 8=1∨i / 8=2∨i / 8=3:=by omega
 rcases h2 with h|h|h|h <;> rw[h] <;> unfold u0a
 ·have:=key 0 (by omega);rwa [Nat.pow_zero,Nat.div_one]at this
 ·have:=key 1 (by omega);rwa [Nat.pow_one]at this
 ·exact key 2 (by omega)
 ·exact key 3 (by omega)
theorem x2p {p:z6}(hp:J8 p=true):run all1 p=stN 32 all1:=by
 unfold J8 at hp
 split at hp
 ·rename_i h4
  have h4:=k0q h4
  have e:p=p.take (p.length - 4)++leB 4 (sum (p.take (p.length - 4))).toNat:=by
   rw[← eq_of_beq hp,List.take_append_drop]
  generalize p.take (p.length - 4)=m at e
  rw[e,z0k]
  show run (run all1 m) [UInt8.ofNat ((sum m).toNat / 256 ^ 0),UInt8.ofNat ((sum m).toNat / 256 ^ 1),UInt8.ofNat ((sum m).toNat / 256 ^ 2),UInt8.ofNat ((sum m).toNat / 256 ^ 3)]=_
  rw[u9u,Nat.pow_zero,Nat.div_one,Nat.pow_one,v3g,BitVec.ofNat_toNat,BitVec.setWidth_eq]
  congr 1
  show run all1 m ^^^ (run all1 m ^^^ all1)=all1
  rw[← BitVec.xor_assoc,BitVec.xor_self,BitVec.zero_xor]
 ·exact absurd hp (by decide)
def chg (s:z6)(by_:Nat→UInt8)(a:Nat):Nat→z6
 |0=>s
 |k+1=>(chg s by_ a k).set (a+k) ((chg s by_ a k).getD (a+k) 0 ^^^ by_ k)
def chd (by_:Nat→UInt8):Nat→Bool
 |0=>false
 |k+1=>chd by_ k||by_ k != 0
theorem w9k (s:z6)(b:Nat→UInt8)(a:Nat):∀ k,(chg s b a k).length=s.length
 |0=>rfl
 |k+1=>by rw[chg,List.length_set,w9k s b a k]
theorem x6k (l r:z6)(x y:UInt8)(n:Nat)(h:n=l.length):(l++x :: r).set n y=l++y :: r:=by subst h;simp
theorem y3m (l r:z6)(x:UInt8)(n:Nat)(h:n=l.length):(l++x :: r).getD n 0=x:=by subst h;simp
theorem Q4e (l r:z6)(x0 x1 x2 x3:UInt8)(b:Nat→UInt8):chg (l++x0 :: x1 :: x2 :: x3 :: r) b l.length 4=l++(x0 ^^^ b 0) :: (x1 ^^^ b 1) :: (x2 ^^^ b 2) :: (x3 ^^^ b 3) :: r:=by
 have e1:chg (l++x0 :: x1 :: x2 :: x3 :: r) b l.length 1=l++(x0 ^^^ b 0) :: x1 :: x2 :: x3 :: r:=by
  show (l++x0 :: x1 :: x2 :: x3 :: r).set (l.length+0) ((l++x0 :: x1 :: x2 :: x3 :: r).getD (l.length+0) 0 ^^^ b 0)=_
  rw[y3m _ _ _ _ (Nat.add_zero _),x6k _ _ _ _ _ (Nat.add_zero _)]
 have e2:chg (l++x0 :: x1 :: x2 :: x3 :: r) b l.length 2=(l++[x0 ^^^ b 0])++(x1 ^^^ b 1) :: x2 :: x3 :: r:=by
  rw[chg,e1,show l++(x0 ^^^ b 0) :: x1 :: x2 :: x3 :: r=(l++[x0 ^^^ b 0])++x1 :: x2 :: x3 :: r by simp]
  rw[y3m _ _ _ _ (by simp),x6k _ _ _ _ _ (by simp)]
 have e3:chg (l++x0 :: x1 :: x2 :: x3 :: r) b l.length 3=(l++[x0 ^^^ b 0,x1 ^^^ b 1])++(x2 ^^^ b 2) :: x3 :: r:=by
  rw[chg,e2,show (l++[x0 ^^^ b 0])++(x1 ^^^ b 1) :: x2 :: x3 :: r=(l++[x0 ^^^ b 0,x1 ^^^ b 1])++x2 :: x3 :: r by simp]
  rw[y3m _ _ _ _ (by simp),x6k _ _ _ _ _ (by simp)]
 rw[chg,e3,show (l++[x0 ^^^ b 0,x1 ^^^ b 1])++(x2 ^^^ b 2) :: x3 :: r=(l++[x0 ^^^ b 0,x1 ^^^ b 1,x2 ^^^ b 2])++x3 :: r by simp]
 rw[y3m _ _ _ _ (by simp),x6k _ _ _ _ _ (by simp)]
 simp
theorem y0w:∀ l:z6,y9p l l=List.replicate l.length 0
 |[]=>rfl
 |x :: r=>by
  show (x ^^^ x) :: y9p r r=_
  rw[y0w r,UInt8.xor_self];rfl
theorem w3a:∀ (l l' r r':z6),l.length=l'.length→y9p (l++r) (l'++r')=y9p l l'++y9p r r'
 |[],[],r,r',_=>rfl
 |x :: l,y :: l',r,r',h=>by
  show (x ^^^ y) :: y9p (l++r) (l'++r')=_
  rw[w3a l l' r r' (by simpa using h)];rfl
 |[],_ :: _,_,_,h=>by simp at h
 |_ :: _,[],_,_,h=>by simp at h
theorem z8j (x b:UInt8):x ^^^ (x ^^^ b)=b:=by rw[← UInt8.xor_assoc,UInt8.xor_self,UInt8.zero_xor]
theorem u0z {b:Nat→UInt8}(h0:b 0=0)(h1:b 1=0)(h2:b 2=0)(h3:b 3=0):chd b 4=false:=by
 unfold chd chd chd chd chd;rw[h0,h1,h2,h3];rfl
theorem v3h {s:z6}(hs:J8 s=true)(hl:s.length=256)(b:Nat→UInt8){a:Nat}(ha:a≤252)(hp:J8 (chg s b a 4)=true):b 0=0∧b 1=0∧b 2=0∧b 3=0:=by
 obtain⟨l,r,x0,x1,x2,x3,rfl,rfl⟩:∃ l r x0 x1 x2 x3,s=l++x0 :: x1 :: x2 :: x3 :: r∧a=l.length:=by
  have h1:(s.drop a).length=256 - a:=by rw[List.length_drop,hl]
  match hd:s.drop a,h1 with
  |x0 :: x1 :: x2 :: x3 :: r,_=>exact⟨s.take a,r,x0,x1,x2,x3,by rw[← hd,List.take_append_drop],by rw[k2u];omega⟩
  |[],h=>simp at h;omega
  |[_],h=>simp at h;omega
  |[_,_],h=>simp at h;omega
  |[_,_,_],h=>simp at h;omega
 have h1:=x2p hs
 have h2:=x2p hp
 rw[Q4e]at h2
 have h3:=w1e (l++x0 :: x1 :: x2 :: x3 :: r) (l++(x0 ^^^ b 0) :: (x1 ^^^ b 1) :: (x2 ^^^ b 2) :: (x3 ^^^ b 3) :: r) all1 all1 (by simp)
 rw[h1,h2,BitVec.xor_self,BitVec.xor_self,w3a _ _ _ _ rfl,y0w]at h3
 have e:y9p (x0 :: x1 :: x2 :: x3 :: r) ((x0 ^^^ b 0) :: (x1 ^^^ b 1) :: (x2 ^^^ b 2) :: (x3 ^^^ b 3) :: r)=[b 0,b 1,b 2,b 3]++List.replicate r.length 0:=by
  show (x0 ^^^ (x0 ^^^ b 0)) :: (x1 ^^^ (x1 ^^^ b 1)) :: (x2 ^^^ (x2 ^^^ b 2)) :: (x3 ^^^ (x3 ^^^ b 3)) :: y9p r r=_
  rw[z8j,z8j,z8j,z8j,y0w];rfl
 rw[e,← List.append_assoc]at h3
 exact v1f h3.symm
theorem LiveP.mono {D:Dev}{N b c:Nat}(h:LiveP D N b)(hc:b≤c):LiveP D N c:=⟨h.ok.mono hc,h.dead,h.waits,h.len,h.well⟩
theorem CleanP.mono {D:Dev}{N b c:Nat}(h:CleanP D N b)(hc:b≤c):CleanP D N c:=⟨h.ok.mono hc,h.dead,h.armed,h.waits,h.len,h.well⟩
def y0x (f:Flt)(c:Cell):Cell:=if f.kind=1 then { c with s:=q6g f c.s 4 } else if f.kind=2 then { c with s:=z4v,lost:=false } else { c with lost:=true }
theorem v8v {D:Dev}{N b:Nat}{f:Flt}(h:CleanP D N b)(h0:0≤f.at_)(h1:f.at_<(N:Int))(k1:1≤f.kind)(k3:f.kind≤3)(o0:0≤f.off)(o1:f.off<256) :
 ∃ E,D.fault f=(0,E)∧CleanP E N (b+1)∧E.cells=D.cells.modify f.at_.toNat (y0x f):=by
 have hok:=h.ok.fault f
 have hh:D.has f.at_=true:=by
  have:=v8u h.len (k:=f.at_.toNat) (by omega)
  rwa [show ((f.at_.toNat:Nat):Int)=f.at_ by omega]at this
 have hm:D.may f=0:=by
  unfold Dev.may
  rw[hh]
  simp only
  rw[k1t (show ¬ f.kind<1 by omega),k1t (show ¬ f.kind > 5 by omega),k1t (show ¬ f.off<0 by omega),k1t (show ¬ f.off≥256 by omega),show (f.kind==4)=false from beq_eq_false_iff_ne.mpr (by omega),show (f.kind==5)=false from beq_eq_false_iff_ne.mpr (by omega)]
  simp
 have hs:D.settle f.at_=D:=by
  unfold Dev.settle;rw[h.waits]
  obtain⟨c,w,ar,de,le,op⟩:=D
  have hw:w=[]:=h.waits
  subst hw;rfl
 have e:D.fault f=(0,D.upd f.at_ (y0x f)):=by
  unfold Dev.fault;rw[hm]
  show (0,D.hurt f)=_
  unfold Dev.hurt
  rw[hs]
  have hk:f.kind=1∨f.kind=2∨f.kind=3:=by omega
  rcases hk with k|k|k
  ·rw[if_pos k]
   congr 2
   funext c
   unfold y0x;rw[if_pos k]
  ·rw[if_neg (by omega),if_pos k]
   congr 2
   funext c
   unfold y0x;rw[if_neg (by omega),if_pos k]
  ·rw[if_neg (by omega),if_neg (by omega),if_pos k]
   congr 2
   funext c
   unfold y0x;rw[if_neg (by omega),if_neg (by omega)]
 rw[e]at hok
 refine⟨_,e,⟨hok,h.dead,h.armed,h.waits,(List.length_modify ..).trans h.len,?_⟩,rfl⟩
 intro c hc
 have hc:c∈D.cells.modify f.at_.toNat (y0x f):=hc
 obtain⟨i,hi⟩:=List.getElem?_of_mem hc
 rw[List.getElem?_modify]at hi
 cases hx:D.cells[i]? with
 |none=>rw[hx]at hi;simp at hi
 |some c0=>
  rw[hx]at hi
  have hw:=h.well c0 (k2x hx)
  have hi:some (if f.at_.toNat=i then y0x f c0 else c0)=some c:=hi
  have hi:=k0y hi
  subst hi
  split
  ·unfold y0x
   split
   ·exact hw
   ·split
    ·exact hw
    ·exact hw
  ·exact hw
theorem w7j:(Y8 z4v).2≠0:=by
 have hk:(q5t z4v).sld.2=1:=by decide +kernel
 intro h
 unfold Y8 at h
 split at h
 ·exact absurd h (by decide)
 ·split at h
  ·exact absurd h (by decide)
  ·rw[hk]at h
   exact absurd h (by decide)
theorem w3b (f:Flt)(s:z6)(hl:s.length=256)(h0:0≤f.off)(h1:f.off≤252):∀ k,k≤4→q6g f s k=chg s f.m f.off.toNat k
 |0,_=>rfl
 |k+1,hk=>by
  unfold q6g chg
  rw[w3b f s hl h0 h1 k (by omega),hl,k1u (show f.off+(k:Int)<((256:Nat):Int) by omega)]
def v8w (c:Cell):z6:=match c.lost with|true=>[]|false=>c.s
theorem u1a {f:Flt}{s:z6}(hw:J8 s=true)(hl:s.length=256)(k1:1≤f.kind)(k3:f.kind≤3)(o0:0≤f.off)(o1:f.off≤252)(hm:f.kind=1→chd f.m 4=true):(Y8 (v8w (y0x f (z1b s)))).2≠0:=by
 have hk:f.kind=1∨f.kind=2∨f.kind=3:=by omega
 rcases hk with k|k|k
 ·unfold y0x
  rw[if_pos k]
  show (Y8 (q6g f s 4)).2≠0
  rw[w3b f s hl o0 o1 4 (k1w _)]
  have hn:J8 (chg s f.m f.off.toNat 4)=false:=by
   cases hq:J8 (chg s f.m f.off.toNat 4) with
   |false=>rfl
   |true=>
    obtain⟨b0,b1,b2,b3⟩:=v3h hw hl f.m (by omega) hq
    have:=hm k
    rw[u0z b0 b1 b2 b3]at this
    exact absurd this (by decide)
  have ho:(Y8 (chg s f.m f.off.toNat 4)).2=7:=by
   unfold Y8
   rw[w9k,hl,hn];rfl
  rw[ho];decide
 ·unfold y0x
  rw[if_neg (by omega),if_pos k]
  exact w7j
 ·unfold y0x
  rw[if_neg (by omega),if_neg (by omega)]
  show (Y8 []).2≠0
  decide
theorem z2r (D:Dev)(k:Nat){c:Cell}(h:D.cells[k]?=some c):q5x D k=v8w c:=by
 unfold q5x v8w;rw[h] <;> rfl
theorem w7k {v:Int}(hv:Y2 v=true){k:Nat}(hk:k≤4294967295):J8 (U9 v k)=true∧(U9 v k).length=256:=by
 obtain⟨e1,_,e3⟩:=y0v v hv k hk
 exact⟨by rw[e1];exact q7m _,e3⟩
theorem x6m {p:Pc}{vol:Int}{g:GeoV}{m:Int}(hp:p.may=true)(hg:g.may=true)(hv:Y2 vol=true)(m0:0≤m)(m2:m<2):J8 (p.sector vol g m).1=true∧(p.sector vol g m).1.length=256:=
 ⟨by rw[(y7h hp hg hv m0 m2).1];exact q7m _,w7i hp hg hv m0 m2⟩
theorem CellsP.whole {vol:Int}{g:GeoV}{s0:Int}{P:List Pc}{cs:List Cell}(h:CellsP vol g s0 P cs)(hg:g.may=true)(hv:Y2 vol=true)(hp:∀ (i:Nat) (p:Pc),P[i]?=some p→p.may=true){k m:Int}(k0:0≤k)(k1:k<g.w)(hm:m=0∨m=1) :
 ∃ s,cs[(q3p g m k).toNat]?=some (z1b s)∧J8 s=true∧s.length=256:=by
 obtain⟨g1,g2,_⟩:=g.of_may hg
 by_cases e:∃ i:Nat,i<P.length∧x6j g s0 i=k
 ·obtain⟨i,hi,rfl⟩:=e
  obtain⟨a,b⟩:=x6m (hp i _ (k0x hi)) hg hv (m:=m) (by omega) (by omega)
  exact⟨_,h.used i _ (k0x hi) m hm,a,b⟩
 ·have hk:(q3p g m k).toNat≤4294967295:=by
   rcases hm with rfl|rfl
   ·rw[Q0i];omega
   ·rw[Q0j];omega
  obtain⟨a,b⟩:=w7k hv hk
  exact⟨_,h.free k m k0 k1 hm fun i hi he=>e ⟨i,hi,he⟩,a,b⟩
end Go.Proofs.YtinfbclgkghgaaaGreat.AL
