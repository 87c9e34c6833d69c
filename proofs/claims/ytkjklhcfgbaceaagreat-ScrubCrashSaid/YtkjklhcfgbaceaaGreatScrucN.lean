/- A part of the proof. -/
import Derived.Test.YtkjklhcfgbaceaaGreatScrucM
open Go.Proofs.Tryz renaming prog→k0q
open Option.some renaming inj→k0x
open List renaming getElem?_eq_getElem→k0w,getD_eq_getElem?_getD→k0v,getElem?_eq_some_iff→k0t,getElem?_map→k1z,length_append→k1y,length_map→k1x,getElem_mem→k1w,length_replicate→k2z,getElem?_set_self→k2y,mem_of_getElem?→k2x,length_take→k2u,take_add_one→k2t,getElem?_range→k2s,length_range→k3q
open Int renaming toNat_natCast→k0u,natCast_nonneg→k2w
open Nat renaming le_refl→k1v,mul_le_mul_right→k2v
open Bool renaming and_eq_true→k1u
set_option maxHeartbeats 4000000
set_option maxRecDepth 20000
namespace Go.Proofs.YtkjklhcfgbaceaaGreat.AL
open Go Go.Proofs
theorem w0j (g:GeoV)(b:x8):AF k0q y9y [g.av,bA b] [] (Q8 (.clo (.func q7i) [.p (.box g.pv),.p (.box [bP b])]) []):=by
 refine Q7 hT Tryz.func115 rfl rfl Tryz.ntmps115 rfl ?_
 refine z7 hT ?_
 refine Z2 (Z3 0 g.pv rfl rfl) ?_
 refine Z2 (Z3 1 [bP b] rfl rfl) ?_
 refine z7 hT ?_
 refine u0 ?_
 exact x7 [] ⟨rfl,rfl⟩ rfl
/-- A round,whatever the record is. -/
theorem v1c {P:Program}{α β:Type}{M n:Nat}{q:RecK}{lf:List (Nat × AV)}{args:List AV}{J:ABlk→α→List ABlk}{Z:ABlk→β→List ABlk}{a:α}{Rnd:α→Prop}{Stp:Code→β→Prop}
 (hJ:∀ L a,(J L a)[M]?=some L∧∀ L',(J L a).set M L'=J L' a) (hZ:∀ L z,(Z L z)[M]?=some L∧∀ L',(Z L z).set M L'=Z L' z)
 (hlf:∀ t u,W0 lf t=some u→t<n) (hps:∀ p∈q.ps.toList,p<n) (hpa:q.ps.size=args.length) (hbf:q7g (M+1) lf=true)
 (hround:∀ B l,U7 (M+1) l=true→∀ q2:RecK,AW P (some B) (M+1) q.assign ⟨⟨n,z8z lf q.ps.toList args⟩,J (.lp q2 .ready none l) a⟩
  (z8n (fun s1=>s1.H[M]?=some (.lp q2 .ready none l)∧AW P (some B) (M+1) q.body ⟨s1.fr,s1.H.set M (.lp q2 .busy none l)⟩ (w3b M J Z (.lp q2 .busy none l) Rnd Stp)) (fun _ _=>False))) :
 AYm P (M+1) M args (J (.lp q .ready none (U5 n lf)) a) (fun r H'=>(r=.p (.raw (.bool true))∧∃ a',Rnd a'∧H'=J (.lp q .ready none (U5 n lf)) a')∨(r=.p (.raw (.bool false))∧∃ c z,Stp c z∧H'=Z (.lp q .done (some c) (U5 n lf)) z)):=
 y2i hJ hZ hlf hps hpa hbf fun B l hl=>hround B l hl q
theorem u0t (L:ABlk)(Y:List Put9)(x:Put9)(r:List ABlk):shJ L (Y++[x],r)=.cells q1m [.p (.raw (.slice none 0 0))] :: .cells q1k [i64 0] :: .cells q1m [.msl 4 2 0 (px Y++[x.pv]).length] :: L :: .row X7 2 (px Y++[x.pv]) :: r:=by
 show _ :: _ :: ABlk.cells q1m [.msl 4 2 0 (px (Y++[x])).length] :: _ :: .row X7 2 (px (Y++[x])) :: _=_
 rw[show px (Y++[x])=px Y++[x.pv] by simp[px]]
def v7k (vol:Int)(g:GeoV)(area epoch no:Int)(all:List x8)(s i:Nat):Put9:=⟨g.at_ area s+i,(Blk.mk 4 vol (g.at_ area s+i) epoch no (all.getD i [])).sld.1⟩
def z2k (vol:Int)(g:GeoV)(area epoch no:Int)(all:List x8)(s:Nat):List Put9:=(List.range all.length).map (v7k vol g area epoch no all s)
def J0 (P:x8)(k m s:Nat):List x8:=q1r P k s++q8w (q1r P k s) m 228
def q5s (vol:Int)(g:GeoV)(area epoch no:Int)(P:x8)(k m:Nat):Nat→List Put9
 |0=>[]
 |s+1=>q5s vol g area epoch no P k m s++z2k vol g area epoch no (J0 P k m s) s
def putsB (vol:Int)(g:GeoV)(area epoch no:Int)(b:x8):List Put9 × Int:=match (q1v g area 0).2 != 0||!q4e [vol,epoch,no]with
 |true=>([],1)
 |false=>match decide ((b.length:Int) > g.room) with
  |true=>([],2)
  |false=>(q5s vol g area epoch no (z6h g.room.toNat b) g.k.toNat g.m.toNat g.s.toNat,0)
theorem q9q (P:x8)(k m s:Nat):(J0 P k m s).length=k+m:=by unfold J0;rw[k1y,q9n,z4t]
theorem y8u {vol:Int}{g:GeoV}{area epoch no:Int}{all:List x8}{s:Nat}:(z2k vol g area epoch no all s).length=all.length:=by unfold z2k;rw[k1x,k3q]
theorem q4w {vol:Int}{g:GeoV}{area epoch no:Int}{P:x8}{k m:Nat}:∀ s,(q5s vol g area epoch no P k m s).length=s*(k+m)
 |0=>(Nat.zero_mul _).symm
 |s+1=>by
  unfold q5s
  rw[k1y,q4w s,y8u,q9q,Nat.succ_mul]
theorem u1w {g:GeoV}(hg:g.may=true){area s:Int}(a0:0≤area)(a1:area≤1)(s0:0≤s)(s1:s<g.s):0≤g.at_ area s∧g.at_ area s+(g.k+g.m)≤100000:=by
 obtain⟨h1,h2,h3,h4,h5,h6,h7,h8⟩:=V4 (V2 hg)
 unfold GeoV.at_
 have e1:0≤area*g.s∧area*g.s≤g.s:=by
  rcases (show area=0∨area=1 by omega) with rfl|rfl <;> omega
 have hm:=Int.mul_le_mul (show area*g.s+s≤64 by omega) (show g.k+g.m≤24 by omega) (by omega) (by omega)
 have hm0:0≤(area*g.s+s)*(g.k+g.m):=Int.mul_nonneg (by omega) (by omega)
 omega
def z6z (vol:Int)(g:GeoV)(area epoch no:Int):List (Nat × AV):=[(6,.p (.box [.raw (.int .i64 vol)])),(7,.p (.box g.pv)),(8,.p (.box [.raw (.int .i64 area)])),(9,.p (.box [.raw (.int .i64 epoch)])),(10,.p (.box [.raw (.int .i64 no)])),(12,.ref 0 0),(13,.ref 1 0)]
theorem v1d (vol:Int)(g:GeoV)(area epoch no:Int)(b:x8)(hk4:g.k≤4)(hm3:g.m≤3)(_hb:b.length≤1000000) :
 AF k0q x7w [i64 vol,g.av,i64 area,i64 epoch,i64 no,bA b] [] (Q8 (.tup [.p (.sl 2 (px (putsB vol g area epoch no b).1)),i64 (putsB vol g area epoch no b).2]) []):=by
 refine AF.mono (R:=fun r H'=>∃ z,z=putsB vol g area epoch no b∧r=.tup [.p (.sl 2 (px z.1)),i64 z.2]∧H'=[]) ?_ (by rintro r H' ⟨z,rfl,rfl,rfl⟩;exact⟨rfl,rfl⟩)
 have hbl:=Z0 b
 have wF:=z7z g area 0
 have wW:=x2i [vol,epoch,no] (by show 3≤64;decide)
 have wR:=y7w g
 have eZ:putsB vol g area epoch no b=match (q1v g area 0).2 != 0||!q4e [vol,epoch,no]with
  |true=>([],1)
  |false=>match decide ((b.length:Int) > g.room) with
   |true=>([],2)
   |false=>(q5s vol g area epoch no (z6h g.room.toNat b) g.k.toNat g.m.toNat g.s.toNat,0):=rfl
 generalize putsB vol g area epoch no b=Z at eZ
 have hfe:(q1v g area 0).2=0→q1z g area 0:=fun h=>by
  by_cases hf:q1z g area 0
  ·exact hf
  ·rw[z4v hf]at h;exact absurd h (by decide)
 generalize hF:q1v g area 0=F at wF eZ hfe
 refine Q7 hT Tryz.func62 rfl rfl Tryz.ntmps62 rfl ?_
 refine w9 ⟨⟨101,(5,bA b) :: z6z vol g area epoch no⟩,[.cells q1m [.p (.raw (.slice none 0 0))],.cells q1k [i64 0]]⟩ True (z8 hT ?_) (fun _=>?_)
 ·exact⟨Wk.trans (Z3 0 [.raw (.int .i64 vol)] rfl rfl) (Wk.trans (Z3 1 g.pv rfl rfl) (Wk.trans (Z3 2 [.raw (.int .i64 area)] rfl rfl) (Wk.trans (Z3 3 [.raw (.int .i64 epoch)] rfl rfl) (Wk.trans (Z3 4 [.raw (.int .i64 no)] rfl rfl) (z6 [5,6] [5,6,7,8,9,10,12,13] rfl))))),trivial⟩
 refine w9 ⟨⟨101,(5,bA b) :: z6z vol g area epoch no⟩,[.cells q1m [.p (.raw (.slice none 0 0))],.cells q1k [i64 0]]⟩ (q1z g area 0∧q4e [vol,epoch,no]=true∧¬ (b.length:Int) > g.room) (z7 hT ?_) ?_
 ·refine Q0 (Q4 wF _ rfl rfl) ?_
  refine y8 ?_
  refine Q3 (fun st=>∃ v,v=(F.2 != 0||!q4e [vol,epoch,no])∧st=⟨⟨101,(33,bl v) :: (5,bA b) :: z6z vol g area epoch no⟩,[.cells q1m [.p (.raw (.slice none 0 0))],.cells q1k [i64 0]]⟩) (z7 hT ?_) ?_
  ·refine y6 (u7 (fun h=>?_) (fun h=>?_))
   ·refine x6 ?_
    exact⟨_,z6 [0,1] [33,5,6,7,8,9,10,12,13] rfl,(F.2 != 0),by rw[show (F.2 != 0)=true from h];rfl,rfl⟩
   ·refine X3 (fun k=>Nat.beq 3 k) hT ?_
    refine⟨⟨rfl,rfl⟩,?_⟩
    refine Q0 (Q4 wW _ rfl rfl) ?_
    exact⟨_,z6 [0,1] [33,5,6,7,8,9,10,12,13] rfl,!q4e [vol,epoch,no],by rw[show (F.2 != 0)=false from h];rfl,rfl⟩
  rintro _ ⟨v,hv,rfl⟩
  rw[← hv]at eZ
  refine y6 (u7 (fun h=>?_) (fun h=>?_))
  ·have h:v=true:=h
   rw[h]at eZ
   refine z7 hT ?_
   refine Z2 (V8 0 [.p (.sl 2 [])] rfl ⟨.inr (.inr (.inr ⟨2,rfl,rfl⟩)),trivial⟩) ?_
   refine u0 ?_
   exact x7 [] ⟨([],1),eZ.symm,rfl,rfl⟩ rfl
  ·have h:v=false:=h
   rw[h]at eZ hv
   have hv:(F.2 != 0)=false∧(!q4e [vol,epoch,no])=false:=by rw[← Bool.or_eq_false_iff];exact hv.symm
   refine z7 hT ?_
   refine Q0 (Q4 wR _ rfl rfl) ?_
   refine y6 (u7 (fun h=>?_) (fun h=>?_))
   ·have h:decide ((((bx b).length:Nat):Int) > g.room)=true:=h
    rw[hbl]at h
    rw[h]at eZ
    refine z7 hT ?_
    refine Z2 (V8 0 [.p (.sl 2 [])] rfl ⟨.inr (.inr (.inr ⟨2,rfl,rfl⟩)),trivial⟩) ?_
    refine u0 ?_
    exact x7 [] ⟨([],2),eZ.symm,rfl,rfl⟩ rfl
   ·have h:decide ((((bx b).length:Nat):Int) > g.room)=false:=h
    rw[hbl]at h
    exact x6 ⟨z6 [0,1] [5,6,7,8,9,10,12,13] rfl,hfe (by have:=hv.1;simpa using this),by have:=hv.2;rwa [Bool.not_eq_false']at this,k0y h⟩
 rintro⟨hok,hw,hroom⟩
 have hF0:F.2=0:=by rw[← hF,z0x hok]
 rw[hF0,hw,k1s hroom]at eZ
 have eZ:Z=(q5s vol g area epoch no (z6h g.room.toNat b) g.k.toNat g.m.toNat g.s.toNat,0):=eZ
 obtain⟨hg,a0,a1,_,_⟩:=hok
 obtain⟨h1,h2,h3,h4,h5,h6,h7,h8⟩:=V4 (V2 hg)
 obtain⟨S,hS⟩:∃ n:Nat,g.s=n:=⟨g.s.toNat,by omega⟩
 obtain⟨k,hk⟩:∃ n:Nat,g.k=n:=⟨g.k.toNat,by omega⟩
 obtain⟨m,hm⟩:∃ n:Nat,g.m=n:=⟨g.m.toNat,by omega⟩
 obtain⟨R,hR⟩:∃ n:Nat,n=228*(S*k):=⟨_,rfl⟩
 have hroomR:g.room=(R:Int):=by unfold GeoV.room;rw[hg,hS,hk,hR];show (S:Int)*k*228=_;rw[Nat.mul_comm];simp
 rw[hroomR,hS,hk,hm,k0u,k0u,k0u,k0u]at eZ
 rw[hroomR]at hroom
 have hbR:b.length≤R:=by omega
 have wS:=w0j g b
 obtain⟨P,hPd⟩:∃ P,P=z6h R b:=⟨_,rfl⟩
 have hPl:=y0n hbR
 rw[← hPd]at eZ hPl
 clear wF wW wR hF hfe hF0 hbl hroom hw
 have hOl:=fun s=>q4w (vol:=vol) (g:=g) (area:=area) (epoch:=epoch) (no:=no) (P:=P) (k:=k) (m:=m) s
 have hOs:∀ s,q5s vol g area epoch no P k m (s+1)=q5s vol g area epoch no P k m s++z2k vol g area epoch no (J0 P k m s) s:=fun s=>rfl
 have hO0:q5s vol g area epoch no P k m 0=[]:=rfl
 generalize q5s vol g area epoch no P k m=O at eZ hOl hOs hO0
 refine z7 hT ?_
 refine Z2 (Wk.trans (W9 X7 2) (V8 2 [.msl 3 2 0 0] rfl ⟨.inr (.inr (.inl ⟨3,2,0,rfl,rfl⟩)),trivial⟩)) ?_
 refine u5 (z7 hT ?_)
 refine Q0 (Q4 wS _ rfl rfl) ?_
 refine y8 ?_
 refine z1r 3 101 [0,1,2,4,3] [6,7,8,9,10,12,13,16,50] shJ (fun L (_:Unit)=>shJ L ([],[])) ([],[]) (fun x=>x=(O S,[])) (fun _ _=>False) rfl rfl (fun L _=>⟨rfl,fun _=>rfl⟩) (fun L _=>⟨rfl,fun _=>rfl⟩) rfl ?_ ?_ ?_
 ·refine AFm.mono (w0i g hg S k R hS hk hR b hbR _ _ (z1x (by rfl)) P hPd.symm O hO0 ?_) ?_
  ·intro s hsS
   refine AYm.mono (v1c (J:=shJ) (Z:=fun L (_:Unit)=>shJ L ([],[])) (a:=(O s,_)) (Rnd:=fun x=>x=(O (s+1),[])) (Stp:=fun _ _=>False) (fun L _=>⟨rfl,fun _=>rfl⟩) (fun L _=>⟨rfl,fun _=>rfl⟩) ?_ ?_ rfl rfl ?_) ?_
   ·exact fun t u ht=>z3y (ks:=[6,7,8,9,10,12,13,16,50]) rfl ht
   ·show ∀ p∈[51,52],p<101
    decide
   ·intro B l hl q
    have hR1:228*((s+1)*k)≤P.length:=by
     rw[hPl,hR]
     exact Nat.mul_le_mul_left 228 (k2v k hsS)
    have hDl:=q9n P k s
    have we:=y8g (q1r P k s) m 228 (by omega) (by omega) (by omega) (by omega) (by decide) (by decide) (q9p hR1)
    rw[hDl]at we
    have hsl:=q9q P k m s
    have hsh:J0 P k m s=q1r P k s++q8w (q1r P k s) m 228:=rfl
    have hEl:=z4t (q1r P k s) m 228
    have hO1:=hOs s
    have hOls:=hOl s
    have wF:=z7z g area (s:Int)
    obtain⟨A,hA⟩:∃ A,A=g.at_ area s:=⟨_,rfl⟩
    rw[z0x ⟨hg,a0,a1,by omega,by omega⟩,← hA]at wF
    have hAr:=u1w hg a0 a1 (show 0≤(s:Int) by omega) (by omega)
    rw[← hA]at hAr
    have hSP:∀ i,i<k+m→(z2k vol g area epoch no (J0 P k m s) s)[i]?=some ⟨A+i,(Blk.mk 4 vol (A+i) epoch no ((J0 P k m s).getD i [])).sld.1⟩:=fun i hi=>by
     unfold z2k
     rw[k1z,k2s (by omega),hA];rfl
    have hSPl:(z2k vol g area epoch no (J0 P k m s) s).length=k+m:=by rw[y8u,hsl]
    generalize z2k vol g area epoch no (J0 P k m s) s=SP at hO1 hSP hSPl
    generalize q8w (q1r P k s) m 228=E at we hsh hEl
    generalize q1r P k s=D at we hsh hDl ⊢
    generalize J0 P k m s=ALL at hsl hsh hSP
    have hsk:s*(k+m)≤32*7:=Nat.mul_le_mul (by omega) (by omega)
    generalize O s=o at hO1 hOls ⊢
    generalize O (s+1)=o1 at hO1
    have hDc:=Y5 D
    have hEc:=Y5 E
    refine z7 hT ?_
    refine z8 hT ?_
    refine⟨rfl,?_⟩
    refine y8 ?_
    refine w9 ⟨⟨101,(16,.ref 2 0) :: (17,i64 s) :: (18,.msl 5 1 0 k) :: (19,.p (.sl 1 (x9 E))) :: (20,i64 0) :: z6z vol g area epoch no⟩,shJ (.lp q .busy none l) (o,[.row y7 1 (x9 D)])⟩ True (z8 hT ?_) (fun _=>?_)
    ·refine Q0 (Z7 [5] (hm ▸ we) rfl rfl rfl) ?_
     exact⟨U6 3 [0,1,2,3,4,5] [16,17,18,19,20,6,7,8,9,10,12,13] _ rfl hl rfl rfl rfl,trivial⟩
    refine u5 (z7 hT ?_)
    refine y6 ?_
    refine x6 ?_
    refine w9 ⟨⟨101,(16,.ref 2 0) :: (18,.msl 5 1 0 k) :: (19,.p (.sl 1 (x9 E))) :: (21,i64 A) :: z6z vol g area epoch no⟩,shJ (.lp q .busy none l) (o,[.row y7 1 (x9 D)])⟩ True (z8 hT ?_) (fun _=>?_)
    ·refine Q0 (Q4 wF _ rfl rfl) ?_
     exact⟨U6 3 [0,1,2,3,4,5] [16,18,19,21,6,7,8,9,10,12,13] _ rfl hl rfl rfl rfl,trivial⟩
    refine Q3 (fun st=>∃ X,X=ALL∧st=⟨⟨101,(16,.ref 2 0) :: (21,i64 A) :: (72,.msl 5 1 0 (x9 X).length) :: (73,i64 (x9 X).length) :: (74,i64 0) :: z6z vol g area epoch no⟩,shJ (.lp q .busy none l) (o,[.row y7 1 (x9 X)])⟩) (z8 hT ?_) ?_
    ·refine⟨by omega,⟨by show ((x9 D).length+(x9 E).length)*24≤_;omega,by omega⟩,?_⟩
     refine⟨_,U6 3 [0,1,2,3,4,6] [16,21,72,73,74,6,7,8,9,10,12,13] _ rfl hl rfl rfl rfl,ALL,rfl,?_⟩
     rw[hsh,q4v];rfl
    rintro _ ⟨X,rfl,rfl⟩
    have hXc:=Y5 X
    refine y8 ?_
    refine Q2 (fun n st=>∃ (j:Nat) (jj:Int) (Y:List Put9),n+j=k+m∧jj=j∧Y=o++SP.take j∧st=⟨⟨101,(16,.ref 2 0) :: (21,i64 A) :: (72,.msl 5 1 0 (x9 X).length) :: (73,i64 (x9 X).length) :: (74,i64 jj) :: z6z vol g area epoch no⟩,shJ (.lp q .busy none l) (Y,[.row y7 1 (x9 X)])⟩) (k+m) ⟨⟨101,_⟩,_⟩ (Wk.refl _ _) ⟨0,0,o,by omega,rfl,by rw[List.take_zero,List.append_nil],rfl⟩ ?_
    clear we wF
    rintro n st ⟨j,jj,Y,hnj,hjj,hY,rfl⟩
    refine z7 hT ?_
    refine u5 (y6 (u7 (fun h=>?_) (fun h=>?_)))
    ·have h:=k0z (show decide (jj<(((x9 X).length:Nat):Int))=true from h)
     have hjk:j<k+m:=by omega
     refine x6 ?_
     have hx:=k0w (show j<X.length by omega)
     have hSPj:=hSP j hjk
     rw[k0v,hx]at hSPj
     generalize X[j]=sh at hx hSPj
     have hSPj:SP[j]?=some ⟨A+j,(Blk.mk 4 vol (A+j) epoch no sh).sld.1⟩:=hSPj
     have hxp:(x9 X)[0+jj.toNat]?=some [bP sh]:=by rw[hjj,k0u,Nat.zero_add];exact Y2 hx
     have hwr:IntKind.i64.wrap (A+jj)=A+j:=by rw[Q1 _ (by omega) (by omega),hjj]
     have wb:=q6d (Blk.mk 4 vol (IntKind.i64.wrap (A+jj)) epoch no sh)
     rw[← hwr]at hSPj
     have hYl:Y.length≤s*(k+m)+(k+m):=by rw[hY,k1y,k2u];omega
     have hYc:=z8c Y
     have hY2:o++SP.take (j+1)=Y++[⟨IntKind.i64.wrap (A+jj),(Blk.mk 4 vol (IntKind.i64.wrap (A+jj)) epoch no sh).sld.1⟩]:=by
      rw[k2t,hSPj,hY,List.append_assoc];rfl
     generalize (Blk.mk 4 vol (IntKind.i64.wrap (A+jj)) epoch no sh).sld=sd at wb hY2
     refine Q3 (fun st=>∃ Y',Y'=o++SP.take (j+1)∧st=⟨⟨101,(16,.ref 2 0) :: (21,i64 A) :: (72,.msl 5 1 0 (x9 X).length) :: (73,i64 (x9 X).length) :: (74,i64 jj) :: z6z vol g area epoch no⟩,shJ (.lp q .busy none l) (Y',[.row y7 1 (x9 X)])⟩) (y8 ?_) ?_
     ·refine w9 ⟨⟨101,(16,.ref 2 0) :: (21,i64 A) :: (23,i64 jj) :: (24,bA sh) :: (72,.msl 5 1 0 (x9 X).length) :: (73,i64 (x9 X).length) :: (74,i64 jj) :: z6z vol g area epoch no⟩,shJ (.lp q .busy none l) (Y,[.row y7 1 (x9 X)])⟩ True (z8 hT ?_) (fun _=>?_)
      ·refine⟨⟨by omega,by omega⟩,?_⟩
       refine Z1 hxp ?_
       exact⟨U6 3 [0,1,2,3,4,5] [16,21,23,24,72,73,74,6,7,8,9,10,12,13] _ rfl hl rfl rfl rfl,trivial⟩
      refine w9 ⟨⟨101,(16,.ref 2 0) :: (21,i64 A) :: (23,i64 jj) :: (25,bA sd.1) :: (72,.msl 5 1 0 (x9 X).length) :: (73,i64 (x9 X).length) :: (74,i64 jj) :: z6z vol g area epoch no⟩,shJ (.lp q .busy none l) (Y,[.row y7 1 (x9 X)])⟩ True (z8 hT ?_) (fun _=>?_)
      ·refine Q0 (Q4 wb _ rfl rfl) ?_
       exact⟨U6 3 [0,1,2,3,4,5] [16,21,23,25,72,73,74,6,7,8,9,10,12,13] _ rfl hl rfl rfl rfl,trivial⟩
      refine z8 hT ?_
      refine⟨rfl,⟨by show ((px Y).length+1)*32≤_;omega,by show (px Y).length+1≤_;omega⟩,?_⟩
      refine⟨_,U6 3 [0,1,2,3,7,5] [16,21,72,73,74,6,7,8,9,10,12,13] _ rfl hl rfl rfl rfl,_,hY2.symm,?_⟩
      rw[u0t];rfl
     ·rintro _ ⟨Y',rfl,rfl⟩
      refine z8 hT ?_
      exact⟨n - 1,by omega,_,U6 3 [0,1,2,3,4,5] [16,21,72,73,74,6,7,8,9,10,12,13] _ rfl hl rfl rfl rfl,j+1,IntKind.i64.wrap (jj+1),_,by omega,by rw[Q1 _ (by omega) (by omega)];omega,rfl,rfl⟩
    ·have h:=k0y (show decide (jj<(((x9 X).length:Nat):Int))=false from h)
     rw[List.take_of_length_le (by omega),← hO1]at hY
     rw[hY]
     refine Q6 ?_
     exact⟨(o1,[]),⟨101,[]⟩,rfl,U6 3 [0,1,2,3,4] [] _ rfl hl rfl rfl rfl⟩
   ·rintro r H' (⟨hr,a',rfl,hH⟩|⟨hr,c,z,h3,hH⟩)
    ·exact⟨hr,hH⟩
    ·exact h3.elim
  ·rintro r H' rfl
   exact .inl ⟨_,rfl,rfl⟩
 ·rintro _ rfl
  refine z7 hT ?_
  refine Z2 (J9 4 0 0 _ rfl rfl rfl rfl) ?_
  refine u0 ?_
  exact x7 [] ⟨(O S,0),eZ.symm,rfl,rfl⟩ rfl
 ·intro _ _ h;exact h.elim
def q5t (vol at_ no:Int)(i:Nat)(s:x8):x8:=match (X8 s).2==0&&(X8 s).1.kind==4&&(X8 s).1.vol==vol&&(X8 s).1.addr==at_+i&&(X8 s).1.seq==no&&((X8 s).1.body.length:Int)==228 with
 |true=>(X8 s).1.body
 |false=>[]
def q7d (vol at_ no:Int)(l:List x8):List x8:=(List.range l.length).map fun i=>q5t vol at_ no i (l.getD i [])
def q1s (l:List x8)(vol:Int)(g:GeoV)(area stripe no:Int):List x8 × Int:=match (q1v g area stripe).2 != 0||!q4e [vol,no]||!((l.length:Int)==g.k+g.m) with
 |true=>([],1)
 |false=>match (z0u (q7d vol (q1v g area stripe).1 no l) g.k.toNat g.m.toNat 228).2 != 0 with
  |true=>([],22)
  |false=>((z0u (q7d vol (q1v g area stripe).1 no l) g.k.toNat g.m.toNat 228).1,0)
def z3g (f:Nat→x8)(n k:Nat):List x8:=(List.range n).map fun i=>if i<k then f i else []
theorem z0z (f:Nat→x8)(n k:Nat):(z3g f n k).length=n:=by unfold z3g;rw[k1x,k3q]
theorem z4x {f:Nat→x8}{n k i:Nat}(h:i<n):(z3g f n k)[i]?=some (if i<k then f i else []):=by
 unfold z3g;rw[k1z,k2s h];rfl
theorem v7m {f:Nat→x8}{n k:Nat}(h:k<n):(x9 (z3g f n k)).set k [bP (f k)]=x9 (z3g f n (k+1)):=by
 refine List.ext_getElem? fun j=>?_
 rw[List.getElem?_set,Y5,z0z]
 by_cases hj:j<n
 ·by_cases e:k=j
  ·subst e
   rw[if_pos rfl,if_pos h,Y2 (z4x h),if_pos (by omega)]
  ·rw[if_neg e,Y2 (z4x hj),Y2 (z4x hj)]
   by_cases h2:j<k
   ·rw[if_pos h2,if_pos (by omega)]
   ·rw[if_neg h2,if_neg (by omega)]
 ·rw[if_neg (by omega),List.getElem?_eq_none (by rw[Y5,z0z];omega),List.getElem?_eq_none (by rw[Y5,z0z];omega)]
theorem v1e {f:Nat→x8}{n k:Nat}(h:f k=[]):z3g f n (k+1)=z3g f n k:=by
 unfold z3g
 refine List.map_congr_left fun i _=>?_
 by_cases e:i=k
 ·subst e;rw[if_pos (by omega),if_neg (by omega),h]
 ·by_cases h2:i<k
  ·rw[if_pos (by omega),if_pos h2]
  ·rw[if_neg (by omega),if_neg h2]
theorem v1f (f:Nat→x8)(n:Nat):x9 (z3g f n 0)=List.replicate n [bP []]:=by
 refine List.ext_getElem? fun j=>?_
 rw[List.getElem?_replicate]
 by_cases hj:j<n
 ·rw[Y2 (z4x hj),if_neg (by omega),if_pos hj]
 ·rw[List.getElem?_eq_none (by rw[Y5,z0z];omega),if_neg hj]
theorem v7n (f:Nat→x8)(n:Nat):z3g f n n=(List.range n).map f:=by
 unfold z3g
 refine List.map_congr_left fun i hi=>?_
 rw[if_pos (List.mem_range.mp hi)]
theorem v1g (vol at_ no:Int)(l:List x8):(q7d vol at_ no l).length=l.length:=by unfold q7d;rw[k1x,k3q]
theorem v1h (vol at_ no:Int)(i:Nat)(s:x8):(q5t vol at_ no i s).length=0∨(q5t vol at_ no i s).length=228:=by
 unfold q5t
 split
 ·rename_i h
  simp only[Bool.and_eq_true,beq_iff_eq]at h
  right;omega
 ·exact .inl rfl
theorem w0k (l:List x8)(vol:Int)(g:GeoV)(area stripe no:Int)(hk4:g.k≤4)(hm3:g.m≤3)(hll:l.length≤1000000)(hls:∀ s∈l,s.length≤1000000) :
 AF k0q y9x [.p (.sl 1 (x9 l)),i64 vol,g.av,i64 area,i64 stripe,i64 no] [] (Q8 (.tup [.p (.sl 1 (x9 (q1s l vol g area stripe no).1)),i64 (q1s l vol g area stripe no).2]) []):=by
 refine AF.mono (R:=fun r H'=>∃ z,z=q1s l vol g area stripe no∧r=.tup [.p (.sl 1 (x9 z.1)),i64 z.2]∧H'=[]) ?_ (by rintro r H' ⟨z,rfl,rfl,rfl⟩;exact⟨rfl,rfl⟩)
 have hcl:=Y5 l
 have wF:=z7z g area stripe
 have wW:=x2i [vol,no] (by show 2≤64;decide)
 have eZ:q1s l vol g area stripe no=match (q1v g area stripe).2 != 0||!q4e [vol,no]||!((l.length:Int)==g.k+g.m) with
  |true=>([],1)
  |false=>match (z0u (q7d vol (q1v g area stripe).1 no l) g.k.toNat g.m.toNat 228).2 != 0 with
   |true=>([],22)
   |false=>((z0u (q7d vol (q1v g area stripe).1 no l) g.k.toNat g.m.toNat 228).1,0):=rfl
 generalize q1s l vol g area stripe no=Z at eZ
 have hfe:(q1v g area stripe).2=0→q1z g area stripe:=fun h=>by
  by_cases hf:q1z g area stripe
  ·exact hf
  ·rw[z4v hf]at h;exact absurd h (by decide)
 generalize hF:q1v g area stripe=F at wF eZ hfe
 refine Q7 hT Tryz.func92 rfl rfl Tryz.ntmps92 rfl ?_
 refine w9 ⟨⟨112,[(0,.p (.sl 1 (x9 l))),(1,i64 vol),(3,i64 area),(4,i64 stripe),(5,i64 no),(8,.p (.box g.pv))]⟩,[]⟩ True (z8 hT ?_) (fun _=>?_)
 ·exact⟨Wk.trans (Z3 0 g.pv rfl rfl) (z6 [] [0,1,3,4,5,8] rfl),trivial⟩
 refine w9 ⟨⟨112,[(0,.p (.sl 1 (x9 l))),(1,i64 vol),(5,i64 no),(8,.p (.box g.pv)),(14,i64 F.1),(15,i64 F.2)]⟩,[]⟩ True (z8 hT ?_) (fun _=>?_)
 ·refine Q0 (Q4 wF _ rfl rfl) ?_
  exact⟨z6 [] [0,1,5,8,14,15] rfl,trivial⟩
 refine w9 ⟨⟨112,[(0,.p (.sl 1 (x9 l))),(1,i64 vol),(5,i64 no),(8,.p (.box g.pv)),(14,i64 F.1)]⟩,[]⟩ (F.2=0∧q4e [vol,no]=true∧(l.length:Int)=g.k+g.m) ?_ ?_
 ·refine Q3 (fun st=>∃ v,(v=true→Z=([],1))∧(v=false→F.2=0∧q4e [vol,no]=true∧(l.length:Int)=IntKind.i64.wrap (g.k+g.m))∧st=⟨⟨112,[(0,.p (.sl 1 (x9 l))),(1,i64 vol),(5,i64 no),(8,.p (.box g.pv)),(14,i64 F.1),(47,bl v)]⟩,[]⟩) (X3 (fun k=>Nat.beq 5 k) hT ?_) ?_
  ·refine u7 (fun h=>?_) (fun h=>?_)
   ·have h:(F.2 != 0)=true:=h
    rw[h]at eZ
    exact⟨_,z6 [] [0,1,5,8,14,47] rfl,true,fun _=>eZ,fun e=>(by cases e),rfl⟩
   have h0:(F.2 != 0)=false:=h
   rw[h0]at eZ
   refine⟨⟨rfl,rfl⟩,?_⟩
   refine Q0 (Q4 wW _ rfl rfl) ?_
   refine u7 (fun h=>?_) (fun h=>?_)
   ·have h:(!q4e [vol,no])=true:=h
    rw[h]at eZ
    exact⟨_,z6 [] [0,1,5,8,14,47] rfl,true,fun _=>eZ,fun e=>(by cases e),rfl⟩
   have h1:(!q4e [vol,no])=false:=h
   rw[h1]at eZ
   have hok:=hfe (by simpa using h0)
   obtain⟨_,_,_,_,h5,h6,h7,h8⟩:=V4 (V2 hok.1)
   have hwr:IntKind.i64.wrap (g.k+g.m)=g.k+g.m:=Q1 _ (by omega) (by omega)
   refine⟨_,z6 [] [0,1,5,8,14,47] rfl,(((x9 l).length:Int) != IntKind.i64.wrap (g.k+g.m)),fun e=>?_,fun e=>?_,rfl⟩
   ·rw[hcl,hwr]at e
    rw[eZ,show (!((l.length:Int)==g.k+g.m))=true from e];rfl
   ·rw[hcl,hwr]at e
    exact⟨by simpa using h0,by simpa using h1,by rw[hwr];simpa using e⟩
  ·rintro _ ⟨v,hv1,hv2,rfl⟩
   refine y6 (u7 (fun h=>?_) (fun h=>?_))
   ·refine z7 hT ?_
    refine Z2 (J8 12 1 rfl) ?_
    refine u0 ?_
    exact x7 [] ⟨([],1),(hv1 h).symm,rfl,rfl⟩ rfl
   ·obtain⟨c1,c2,c3⟩:=hv2 h
    have hok:=hfe c1
    obtain⟨_,_,_,_,h5,h6,h7,h8⟩:=V4 (V2 hok.1)
    rw[Q1 _ (by omega) (by omega)]at c3
    exact x6 ⟨z6 [] [0,1,5,8,14] rfl,c1,c2,c3⟩
 rintro⟨c1,c2,c3⟩
 have hok:=hfe c1
 obtain⟨hg,a0,a1,s0,s1⟩:=hok
 obtain⟨h1,h2,h3,h4,h5,h6,h7,h8⟩:=V4 (V2 hg)
 rw[c1,c2,show ((l.length:Int)==g.k+g.m)=true from beq_iff_eq.mpr c3]at eZ
 obtain⟨A,hA⟩:∃ A,A=F.1:=⟨_,rfl⟩
 rw[← hA]at eZ
 have hAr:=u1w hg a0 a1 s0 s1
 have hAF:A=g.at_ area stripe:=by rw[hA,← hF,z0x ⟨hg,a0,a1,s0,s1⟩]
 rw[← hAF]at hAr
 rw[← hA]
 obtain⟨k,hk⟩:∃ n:Nat,g.k=n:=⟨g.k.toNat,by omega⟩
 obtain⟨m,hm⟩:∃ n:Nat,g.m=n:=⟨g.m.toNat,by omega⟩
 rw[hk,hm,k0u,k0u]at eZ
 have hlk:l.length=k+m:=by omega
 have eZ:Z=match (z0u (q7d vol A no l) k m 228).2 != 0 with
  |true=>([],22)
  |false=>((z0u (q7d vol A no l) k m 228).1,0):=eZ
 have hLl:=v1g vol A no l
 have hL:q7d vol A no l=z3g (fun i=>q5t vol A no i (l.getD i [])) l.length l.length:=by rw[v7n];rfl
 have hLs:∀ s∈q7d vol A no l,s.length=0∨s.length=228:=fun s hs=>by
  unfold q7d at hs
  rw[List.mem_map]at hs
  obtain⟨i,_,rfl⟩:=hs
  exact v1h _ _ _ _ _
 have wD:=v0t (q7d vol A no l) k m 228 (by omega) (by omega) (by omega) (by omega) (by decide) (by decide) (by omega) hLs (fun h=>u4t (by omega) h)
 generalize z0u (q7d vol A no l) k m 228=D at eZ wD
 generalize hLe:q7d vol A no l=LB at hL wD
 have hfd:∀ i s,l[i]?=some s→q5t vol A no i (l.getD i [])=q5t vol A no i s:=fun i s h=>by rw[k0v,h];rfl
 generalize hf:(fun i=>q5t vol A no i (l.getD i []))=f at hL
 have hfd:∀ i s,l[i]?=some s→f i=q5t vol A no i s:=fun i s h=>by rw[← hf];exact hfd i s h
 have hz:=v1f f l.length
 clear wF wW hfe hF c1 c2 c3 hLs hf hLe
 rw[← hk]at wD
 refine Q3 (fun st=>∃ X n,X=x9 (z3g f l.length 0)∧n=l.length∧st=⟨⟨112,[(0,.p (.sl 1 (x9 l))),(1,i64 vol),(5,i64 no),(8,.p (.box g.pv)),(14,i64 A),(16,.msl 0 1 0 n)]⟩,[.row y7 1 X]⟩) (z8 hT ?_) ?_
 ·refine⟨⟨rfl,by omega,by show (((x9 l).length:Nat):Int)*24≤_;omega,by omega⟩,?_⟩
  refine⟨_,Wk.trans (v4g 0 (List.replicate (x9 l).length [bP []]) rfl (by simp) ?_) (z6 [0] [0,1,5,8,14,16] rfl),_,(x9 l).length,by rw[hz,hcl],hcl,rfl⟩
  intro j e2 he
  rw[List.getElem?_replicate]at he
  split at he
  ·rename_i hj
   obtain rfl:=k0x he
   refine⟨[.raw (.slice none 0 0)],by
    show (List.replicate _ _)[j]?=_
    rw[List.getElem?_replicate,if_pos (by simpa using hj)];rfl,rfl,fun i u2 hu=>?_⟩
   cases i with
   |zero=>obtain rfl:=k0x hu;exact⟨_,rfl,.inr ⟨1,rfl,rfl⟩⟩
   |succ i=>simp at hu
  ·cases he
 rintro _ ⟨X,n,hX,hn,rfl⟩
 refine Q3 (fun st=>∃ X,X=x9 LB∧st=⟨⟨112,[(8,.p (.box g.pv)),(16,.msl 0 1 0 n)]⟩,[.row y7 1 X]⟩) (z7 hT ?_) ?_
 ·refine y8 ?_
  refine Q2 (fun c s=>∃ (j:Nat) (jj:Int) (X:_),c+j=n∧jj=j∧X=x9 (z3g f l.length j)∧s=⟨⟨112,[(1,i64 vol),(5,i64 no),(8,.p (.box g.pv)),(14,i64 A),(16,.msl 0 1 0 n),(51,.p (.sl 1 (x9 l))),(52,i64 (x9 l).length),(53,i64 jj)]⟩,[.row y7 1 X]⟩) n ⟨⟨112,_⟩,_⟩ (z6 [0] [1,5,8,14,16,51,52,53] rfl) ⟨0,0,X,by omega,rfl,hX,rfl⟩ ?_
  clear hX hz
  rintro c s ⟨j,jj,X,hcj,hjj,hX,rfl⟩
  refine z7 hT ?_
  refine u5 (y6 (u7 (fun h=>?_) (fun h=>?_)))
  ·have h:=k0z (show decide (jj<(((x9 l).length:Nat):Int))=true from h)
   have hj:j<l.length:=by omega
   refine x6 ?_
   have hx:=k0w hj
   have hsl:=hls _ (k1w hj)
   generalize l[j]=sec at hx hsl
   have hfj:=hfd j sec hx
   have hxp:(x9 l)[jj.toNat]?=some [bP sec]:=by rw[hjj,k0u];exact Y2 hx
   have wO:=z7v sec hsl
   have hkf:q5t vol A no j sec=match (X8 sec).2==0&&(X8 sec).1.kind==4&&(X8 sec).1.vol==vol&&(X8 sec).1.addr==A+j&&(X8 sec).1.seq==no&&((X8 sec).1.body.length:Int)==228 with
    |true=>(X8 sec).1.body
    |false=>[]:=rfl
   rw[← hfj]at hkf
   generalize X8 sec=OB at wO hkf
   obtain⟨ob,oe⟩:=OB
   have hbl:=Z0 ob.body
   have hXl:X.length=l.length:=by rw[hX,Y5,z0z]
   have hXg:X[0+jj.toNat]?=some [bP []]:=by
    rw[show 0+jj.toNat=j by omega,hX,Y2 (z4x hj),if_neg (by omega)]
   have hset:X.set (0+jj.toNat) [bP (f j)]=x9 (z3g f l.length (j+1)):=by
    rw[show 0+jj.toNat=j by omega,hX];exact v7m hj
   have hskip:f j=[]→X=x9 (z3g f l.length (j+1)):=fun e=>by rw[v1e e,hX]
   have hwr:IntKind.i64.wrap (A+jj)=A+j:=by rw[Q1 _ (by omega) (by omega),hjj]
   refine Q3 (fun st=>∃ X,X=x9 (z3g f l.length (j+1))∧st=⟨⟨112,[(1,i64 vol),(5,i64 no),(8,.p (.box g.pv)),(14,i64 A),(16,.msl 0 1 0 n),(51,.p (.sl 1 (x9 l))),(52,i64 (x9 l).length),(53,i64 jj)]⟩,[.row y7 1 X]⟩) (y8 ?_) ?_
   ·refine w9 ⟨⟨112,[(1,i64 vol),(5,i64 no),(8,.p (.box g.pv)),(14,i64 A),(16,.msl 0 1 0 n),(17,i64 jj),(18,bA sec),(51,.p (.sl 1 (x9 l))),(52,i64 (x9 l).length),(53,i64 jj)]⟩,[.row y7 1 X]⟩ True (z8 hT ?_) (fun _=>?_)
    ·refine⟨by omega,Z1 hxp ?_⟩
     exact⟨z6 [0] [1,5,8,14,16,17,18,51,52,53] rfl,trivial⟩
    refine w9 ⟨⟨112,[(1,i64 vol),(5,i64 no),(8,.p (.box g.pv)),(14,i64 A),(16,.msl 0 1 0 n),(17,i64 jj),(19,.p (.box ob.pv)),(20,i64 oe),(51,.p (.sl 1 (x9 l))),(52,i64 (x9 l).length),(53,i64 jj)]⟩,[.row y7 1 X]⟩ True (z8 hT ?_) (fun _=>?_)
    ·refine Q0 (Q4 wO _ rfl rfl) ?_
     exact⟨Wk.trans (Z3 1 ob.pv rfl rfl) (z6 [0] [1,5,8,14,16,17,19,20,51,52,53] rfl),trivial⟩
    refine Q3 (fun st=>∃ v,v=(oe==0&&ob.kind==4&&ob.vol==vol&&ob.addr==A+j&&ob.seq==no&&(ob.body.length:Int)==228)∧st=⟨⟨112,[(1,i64 vol),(5,i64 no),(8,.p (.box g.pv)),(14,i64 A),(16,.msl 0 1 0 n),(17,i64 jj),(19,.p (.box ob.pv)),(51,.p (.sl 1 (x9 l))),(52,i64 (x9 l).length),(53,i64 jj),(95,bl v)]⟩,[.row y7 1 X]⟩) (z8 hT ?_) ?_
    ·rw[← hwr,← hbl]
     refine u7 (fun h=>?_) (fun h=>?_)
     ·rw[show (oe==0)=true from h]
      refine u7 (fun h=>?_) (fun h=>?_)
      ·rw[show (ob.kind==4)=true from h]
       refine u7 (fun h=>?_) (fun h=>?_)
       ·rw[show (ob.vol==vol)=true from h]
        refine u7 (fun h=>?_) (fun h=>?_)
        ·rw[show (ob.addr==IntKind.i64.wrap (A+jj))=true from h]
         refine u7 (fun h=>?_) (fun h=>?_)
         ·rw[show (ob.seq==no)=true from h]
          exact⟨_,z6 [0] [1,5,8,14,16,17,19,51,52,53,95] rfl,_,rfl,rfl⟩
         ·rw[show (ob.seq==no)=false from h]
          exact⟨_,z6 [0] [1,5,8,14,16,17,19,51,52,53,95] rfl,_,rfl,rfl⟩
        ·rw[show (ob.addr==IntKind.i64.wrap (A+jj))=false from h]
         exact⟨_,z6 [0] [1,5,8,14,16,17,19,51,52,53,95] rfl,_,rfl,rfl⟩
       ·rw[show (ob.vol==vol)=false from h]
        exact⟨_,z6 [0] [1,5,8,14,16,17,19,51,52,53,95] rfl,_,rfl,rfl⟩
      ·rw[show (ob.kind==4)=false from h]
       exact⟨_,z6 [0] [1,5,8,14,16,17,19,51,52,53,95] rfl,_,rfl,rfl⟩
     ·rw[show (oe==0)=false from h]
      exact⟨_,z6 [0] [1,5,8,14,16,17,19,51,52,53,95] rfl,_,rfl,rfl⟩
    rintro _ ⟨v,hv,rfl⟩
    have hkf:f j=match (generalizing:=false) v with|true=>ob.body|false=>[]:=by rw[hv];exact hkf
    clear hv
    refine y6 (u7 (fun h=>?_) (fun h=>?_))
    ·have h:v=true:=h
     rw[h]at hkf
     rw[show f j=ob.body from hkf]at hset
     refine z8 hT ?_
     refine⟨⟨by omega,by omega⟩,?_⟩
     refine Z1 hXg ?_
     exact⟨_,z6 [0] [1,5,8,14,16,51,52,53] rfl,_,hset,rfl⟩
    ·have h:v=false:=h
     rw[h]at hkf
     exact x6 ⟨_,z6 [0] [1,5,8,14,16,51,52,53] rfl,X,hskip hkf,rfl⟩
   ·rintro _ ⟨X,rfl,rfl⟩
    refine z8 hT ?_
    exact⟨c - 1,by omega,_,z6 [0] [1,5,8,14,16,51,52,53] rfl,j+1,IntKind.i64.wrap (jj+1),_,by omega,by rw[Q1 _ (by omega) (by omega)];omega,rfl,rfl⟩
  ·have h:=k0y (show decide (jj<(((x9 l).length:Nat):Int))=false from h)
   rw[show j=l.length by omega,← hL]at hX
   refine Q6 ?_
   exact⟨_,z6 [0] [8,16] rfl,X,hX,rfl⟩
 rintro _ ⟨X,rfl,rfl⟩
 have hLc:=Y5 LB
 have hLl2:LB.length=n:=by rw[hL,z0z,hn]
 refine Z2 (q1e 16 0 n rfl (by omega) rfl rfl) ?_
 refine w9 ⟨⟨112,[(15,i64 D.2),(21,.p (.sl 1 (x9 D.1)))]⟩,[]⟩ True (z8 hT ?_) (fun _=>?_)
 ·refine Q0 (Q4 wD _ rfl rfl) ?_
  exact⟨z6 [] [15,21] rfl,trivial⟩
 refine u5 (z7 hT ?_)
 refine y6 (u7 (fun h=>?_) (fun h=>?_))
 ·have h:(D.2 != 0)=true:=h
  rw[h]at eZ
  refine z7 hT ?_
  refine Z2 (J8 12 1 rfl) ?_
  refine u0 ?_
  exact x7 [] ⟨([],22),eZ.symm,rfl,rfl⟩ rfl
 ·have h:(D.2 != 0)=false:=h
  rw[h]at eZ
  refine x6 ?_
  refine z7 hT ?_
  refine u0 ?_
  exact x7 [] ⟨(D.1,0),eZ.symm,rfl,rfl⟩ rfl
theorem v7p (l:List Int)(hl:l.length≤1000000):AF k0q w3g [.p (.sl 1 (ix l))] [] (Q8 (bl (l.all Y7)) []):=by
 refine Q7 hT Tryz.func125 rfl rfl Tryz.ntmps125 rfl ?_
 refine z7 hT ?_
 refine w9 ⟨⟨18,[]⟩,[]⟩ (l.all Y7=true) (z7 hT ?_) ?_
 ·refine y8 ?_
  refine Q2 (fun n s=>∃ (i:Nat) (j:Int),n+i=l.length∧j=i∧(l.take i).all Y7=true∧s=⟨⟨18,[(5,.p (.sl 1 (ix l))),(6,i64 l.length),(7,i64 j)]⟩,[]⟩) l.length ⟨⟨18,_⟩,[]⟩ (z6 [] [5,6,7] rfl) ⟨0,0,rfl,rfl,rfl,by rw[← ixl l];rfl⟩ ?_
  rintro n s ⟨i,j,hni,rfl,ht,rfl⟩
  refine z7 hT ?_
  refine u5 (y6 (u7 (fun h=>?_) (fun h=>?_)))
  ·have hi:i<l.length:=by
    have:=k0z (show decide ((i:Int)<(l.length:Int))=true from h)
    omega
   have hx:=k0w hi
   have hmem:=k1w hi
   have htk:l.take (i+1)=l.take i++[l[i]]:=by rw[k2t,hx];rfl
   generalize l[i]=c at hx htk hmem
   have hxp:(ix l)[((i:Nat):Int).toNat]?=some [.raw (.int .i64 c)]:=by rw[k0u];exact ixg hx
   have bad:Y7 c=false→l.all Y7=false:=fun h=>by
    rw[List.all_eq_false];exact⟨c,hmem,by rw[h];simp⟩
   refine x6 ?_
   refine w9 ⟨⟨18,[(5,.p (.sl 1 (ix l))),(6,i64 l.length),(7,i64 i)]⟩,[]⟩ (Y7 c=true) (y8 (z7 hT ?_)) ?_
   ·refine⟨k2w _,Z1 hxp ?_⟩
    refine z7 hT ?_
    refine u7 (fun h2=>?_) (fun h2=>?_)
    ·have h2:=k0z (show decide (c<0)=true from h2)
     refine y6 ?_
     refine z7 hT ?_
     refine u0 ?_
     rw[bad (by unfold Y7;rw[k1s (by omega)];rfl)]
     exact x7 [] ⟨rfl,rfl⟩ rfl
    ·have h2:=k0y (show decide (c<0)=false from h2)
     refine y6 (u7 (fun h3=>?_) (fun h3=>?_))
     ·have h3:=k0z (show decide (c > 4294967295)=true from h3)
      refine z7 hT ?_
      refine u0 ?_
      rw[bad (by unfold Y7;rw[k1s (show ¬ c≤4294967295 by omega),Bool.and_false])]
      exact x7 [] ⟨rfl,rfl⟩ rfl
     ·have h3:=k0y (show decide (c > 4294967295)=false from h3)
      exact x6 ⟨z6 [] [5,6,7] rfl,by unfold Y7;rw[k1t (show 0≤c by omega),k1t (show c≤4294967295 by omega)];rfl⟩
   ·intro hc
    refine z8 hT ?_
    refine⟨n - 1,by omega,_,z6 [] [5,6,7] rfl,i+1,IntKind.i64.wrap ((i:Int)+1),by omega,?_,?_,rfl⟩
    ·rw[Q1 _ (by omega) (by omega)];rfl
    ·rw[htk,List.all_append,ht];simp[hc]
  ·have hi:¬ (i:Int)<(l.length:Int):=k0y h
   have hil:i=l.length:=by omega
   subst hil
   rw[List.take_length]at ht
   refine Q6 ?_
   exact⟨z6 [] [] rfl,ht⟩
 ·intro h
  rw[h]
  refine z7 hT ?_
  refine u0 ?_
  exact x7 [] ⟨rfl,rfl⟩ rfl
structure Sup where
 vol:Int
 gen:Int
 epoch:Int
 area:Int
 snap:Int
 long:Int
 start:Int
 chain:Int
 g:GeoV
 deriving DecidableEq
abbrev Sup.pv (x:Sup):List PV:=[.raw (.int .i64 x.vol),.raw (.int .i64 x.gen),.raw (.int .i64 x.epoch),.raw (.int .i64 x.area),.raw (.int .i64 x.snap),.raw (.int .i64 x.long),.raw (.int .i64 x.start),.raw (.int .i64 x.chain),.raw (.int .i64 x.g.w),.raw (.int .i64 x.g.s),.raw (.int .i64 x.g.k),.raw (.int .i64 x.g.m)]
abbrev Sup.cv (x:Sup):List AV:=[i64 x.vol,i64 x.gen,i64 x.epoch,i64 x.area,i64 x.snap,i64 x.long,i64 x.start,i64 x.chain,i64 x.g.w,i64 x.g.s,i64 x.g.k,i64 x.g.m]
abbrev Sup.av (x:Sup):AV:=.agg x.cv
def Sup.words (x:Sup):Bool:=[x.vol,x.gen,x.epoch,x.snap,x.start,x.chain].all Y7
def Sup.may (x:Sup):Bool:=x.words&&decide (x.gen≥1)&&decide (x.area≥0)&&decide (x.area<2)&&x.g.may&&decide (x.long≥0)&&decide (x.long≤x.g.room)
theorem w7m (x:Sup):AF k0q w8w [x.av] [] (Q8 (bl x.may) []):=by
 refine AF.mono (R:=fun r H'=>∃ b,b=x.may∧r=bl b∧H'=[]) ?_ (by rintro r H' ⟨b,rfl,rfl,rfl⟩;exact⟨rfl,rfl⟩)
 refine Q7 hT Tryz.func77 rfl rfl Tryz.ntmps77 rfl ?_
 refine z7 hT ?_
 refine Z2 (Z3 0 x.pv rfl rfl) ?_
 refine Q3 (fun s=>∃ c,c=(x.words&&decide (x.gen≥1))∧s=⟨⟨52,[(1,.p (.box x.pv)),(3,bl c)]⟩,[]⟩) (X3 (fun k=>Nat.beq 12 k) hT ?_) ?_
 ·refine⟨⟨rfl,rfl⟩,?_⟩
  refine Q0 (Q4 (v7p [x.vol,x.gen,x.epoch,x.snap,x.start,x.chain] (by simp)) _ rfl rfl) ?_
  refine u7 (fun h=>?_) (fun h=>?_)
  ·have h:x.words=true:=h
   exact⟨_,z6 [] [1,3] rfl,_,by rw[h];rfl,rfl⟩
  ·have h:x.words=false:=h
   exact⟨_,z6 [] [1,3] rfl,_,by rw[h];rfl,rfl⟩
 rintro _ ⟨c,hc,rfl⟩
 have e:x.may=(c&&decide (x.area≥0)&&decide (x.area<2)&&x.g.may&&decide (x.long≥0)&&decide (x.long≤x.g.room)):=by unfold Sup.may;rw[hc]
 refine u5 ?_
 refine Q9 [] [] hT u6 (by rfl) ?_
 refine u7 (fun h0=>?_) (fun h0=>?_)
 ·have h0:c=true:=h0
  refine u7 (fun h1=>?_) (fun h1=>?_)
  ·have h1:decide (x.area≥0)=true:=h1
   refine u7 (fun h2=>?_) (fun h2=>?_)
   ·have h2:decide (x.area<2)=true:=h2
    refine⟨_,Q4 (q9i x.g) _ rfl rfl,?_⟩
    refine u7 (fun h3=>?_) (fun h3=>?_)
    ·have h3:x.g.may=true:=h3
     refine u7 (fun h4=>?_) (fun h4=>?_)
     ·have h4:decide (x.long≥0)=true:=h4
      refine⟨_,Q4 (y7w x.g) _ rfl rfl,?_⟩
      refine u0 ?_
      exact x7 [] ⟨_,by rw[e,h0,h1,h2,h3,h4];rfl,rfl,rfl⟩ rfl
     ·have h4:decide (x.long≥0)=false:=h4
      refine u0 ?_
      exact x7 [] ⟨_,by rw[e,h0,h1,h2,h3,h4];rfl,rfl,rfl⟩ rfl
    ·have h3:x.g.may=false:=h3
     refine u0 ?_
     exact x7 [] ⟨_,by rw[e,h0,h1,h2,h3];rfl,rfl,rfl⟩ rfl
   ·have h2:decide (x.area<2)=false:=h2
    refine u0 ?_
    exact x7 [] ⟨_,by rw[e,h0,h1,h2];rfl,rfl,rfl⟩ rfl
  ·have h1:decide (x.area≥0)=false:=h1
   refine u0 ?_
   exact x7 [] ⟨_,by rw[e,h0,h1];rfl,rfl,rfl⟩ rfl
 ·have h0:c=false:=h0
  refine u0 ?_
  exact x7 [] ⟨_,by rw[e,h0];rfl,rfl,rfl⟩ rfl
abbrev Sup.nine (x:Sup):List Int:=[x.area,x.snap,x.long,x.start,x.chain,x.g.w,x.g.s,x.g.k,x.g.m]
abbrev u4v (x:Sup):ABlk:=.cells y3g x.cv
abbrev x0j (x:Sup)(b:x8):List ABlk:=[u4v x,u0f 2 b,.row y9 1 (bx b)]
theorem w0m (x:Sup)(b:x8)(k n:Nat)(hk:k<9)(hx:x.nine[k]?=some (n:Int))(hn:n<2 ^ 63)(hb:b.length≤1000000) :
 AFm k0q 2 q2b [.ref 0 (3+k),.ref 1 0] (x0j x b) (Q8 (.tup []) (x0j x (b++q0d n))):=by
 have w:=w6y b n hn hb
 rcases k with _|_|_|_|_|_|_|_|_|k
 all_goals try omega
 all_goals
  have hx':_=(n:Int):=k0x hx
  rw[← hx']at w
  refine Z5 2 hT Tryz.func109 rfl rfl Tryz.ntmps109 rfl rfl ?_
  refine z8 hT ?_
  refine Q0 (Z7 [1,2] w rfl rfl rfl) ?_
  exact x7 [0,1,3] ⟨rfl,rfl⟩ rfl
theorem x5r (x:Sup)(hx:∀ n∈x.nine,0≤n∧n<9223372036854775808) :
 AFm k0q 2 w3e [.ref 0 0,.clo (.func q2b) [.ref 1 0]] (x0j x []) (Q8 (.tup []) (x0j x (U3 x.nine))):=by
 have hlen:∀ i,(U3 (x.nine.take i)).length≤9*i:=fun i=>by
  induction i with
  |zero=>simp[U3]
  |succ i ih=>
   by_cases h:i<x.nine.length
   ·have hm:=hx _ (k1w h)
    rw[k2t,k0w h]
    show (U3 (x.nine.take i++[x.nine[i]])).length≤_
    rw[z7x,k1y]
    have:=w6v x.nine[i].toNat (by omega)
    omega
   ·rw[List.take_of_length_le (by omega)]
    rw[List.take_of_length_le (by omega)]at ih
    omega
 refine Z5 2 hT Tryz.func108 rfl rfl Tryz.ntmps108 rfl rfl ?_
 refine w9 ⟨⟨47,[(1,.clo (.func q2b) [.ref 1 0]),(37,.msl 3 1 0 9),(38,i64 9),(39,i64 0)]⟩,x0j x []++[.cells z1v [.ref 0 3,.ref 0 4,.ref 0 5,.ref 0 6,.ref 0 7,.ref 0 8,.ref 0 9,.ref 0 10,.ref 0 11]]⟩ True ?_ (fun _=>?_)
 ·refine Q9 [31] [] hT u6 (by rfl) ?_
  exact⟨z6 [0,1,2,3] [1,37,38,39] rfl,trivial⟩
 refine y8 ?_
 refine Q2 (fun n s=>∃ (i:Nat) (j:Int),n+i=9∧j=i∧s=⟨⟨47,[(1,.clo (.func q2b) [.ref 1 0]),(37,.msl 3 1 0 9),(38,i64 9),(39,i64 j)]⟩,x0j x (U3 (x.nine.take i))++[.cells z1v [.ref 0 3,.ref 0 4,.ref 0 5,.ref 0 6,.ref 0 7,.ref 0 8,.ref 0 9,.ref 0 10,.ref 0 11]]⟩) 9 ⟨⟨47,_⟩,_⟩ (z6 [0,1,2,3] [1,37,38,39] rfl) ⟨0,0,rfl,rfl,rfl⟩ ?_
 rintro n s ⟨i,j,hni,rfl,rfl⟩
 refine z7 hT ?_
 refine u5 (y6 (u7 (fun h=>?_) (fun h=>?_)))
 ·have hi:i<9:=by
   have:=k0z (show decide ((i:Int)<9)=true from h)
   omega
  have hL:=hlen i
  have hx':=k0w (show i<x.nine.length from hi)
  have hm:=hx _ (k1w (show i<x.nine.length from hi))
  have htk:U3 (x.nine.take (i+1))=U3 (x.nine.take i)++q0d (x.nine[i]).toNat:=by
   rw[k2t,hx'];exact z7x _ _
  generalize x.nine[i]=v at hx' hm htk
  obtain⟨v,rfl⟩:∃ z:Nat,v=z:=⟨v.toNat,by omega⟩
  rw[k0u]at htk
  have w:=w0m x (U3 (x.nine.take i)) i v hi hx' (by omega) (by omega)
  rw[← htk]at w
  generalize hB':U3 (x.nine.take (i+1))=B' at w
  generalize U3 (x.nine.take i)=B at w
  refine x6 ?_
  refine w9 ⟨⟨47,[(1,.clo (.func q2b) [.ref 1 0]),(37,.msl 3 1 0 9),(38,i64 9),(39,i64 i)]⟩,x0j x B'++[.cells z1v [.ref 0 3,.ref 0 4,.ref 0 5,.ref 0 6,.ref 0 7,.ref 0 8,.ref 0 9,.ref 0 10,.ref 0 11]]⟩ True (y8 ?_) (fun _=>?_)
  ·refine w9 ⟨⟨47,[(1,.clo (.func q2b) [.ref 1 0]),(5,.ref 0 (3+i)),(37,.msl 3 1 0 9),(38,i64 9),(39,i64 i)]⟩,x0j x B++[.cells z1v [.ref 0 3,.ref 0 4,.ref 0 5,.ref 0 6,.ref 0 7,.ref 0 8,.ref 0 9,.ref 0 10,.ref 0 11]]⟩ True ?_ (fun _=>?_)
   ·clear hx' hL htk w hni
    rcases i with _|_|_|_|_|_|_|_|_|i
    all_goals try omega
    all_goals
     refine z8 hT ?_
     refine⟨⟨k2w _,by omega⟩,?_⟩
     exact⟨z6 [0,1,2,3] [1,5,37,38,39] rfl,trivial⟩
   ·refine z8 hT ?_
    refine Q0 (Z7 [0,1,2] w rfl rfl rfl) ?_
    exact⟨z6 [0,1,4,3] [1,37,38,39] rfl,trivial⟩
  ·subst hB'
   refine z8 hT ?_
   refine⟨n - 1,by omega,_,z6 [0,1,2,3] [1,37,38,39] rfl,i+1,IntKind.i64.wrap ((i:Int)+1),by omega,?_,rfl⟩
   rw[Q1 _ (by omega) (by omega)];rfl
 ·have hi:¬ (i:Int)<9:=k0y h
  have hi9:i=9:=by omega
  subst hi9
  refine Q6 ?_
  exact x7 [0,1,2] ⟨rfl,rfl⟩ rfl
def Sup.blk (x:Sup)(i:Int):Blk:=⟨2,x.vol,i,x.epoch,x.gen,U3 x.nine⟩
def Sup.sector (x:Sup)(i:Int):x8 × Int:=match x.may&&(!decide (i<0)&&!decide (i≥4)) with
 |false=>([],1)
 |true=>(x.blk i).sld
theorem u0u (g:GeoV):g.room≤116736:=by
 unfold GeoV.room
 cases h:g.may with
 |false=>show (0:Int)≤_;omega
 |true=>
  have hf:g.fits=true:=by unfold GeoV.may at h;rw[k1u]at h;exact h.1
  obtain⟨m1,m2,m3,m4,m5⟩:=z0p hf
  show g.s*g.k*228≤_
  omega
theorem w0n {x:Sup}(h:x.may=true):∀ n∈x.nine,0≤n∧n≤4294967295:=by
 have hr:=u0u x.g
 unfold Sup.may at h
 simp only[Bool.and_eq_true,decide_eq_true_eq]at h
 obtain⟨⟨⟨⟨⟨⟨hw,h1⟩,h2⟩,h3⟩,h4⟩,h5⟩,h6⟩:=h
 have hf:x.g.fits=true:=by unfold GeoV.may at h4;rw[k1u]at h4;exact h4.1
 obtain⟨g1,g2,g3,g4,g5,g6,g7,g8⟩:=V4 hf
 unfold Sup.words Y7 at hw
 simp only[List.all_cons,List.all_nil,Bool.and_true,Bool.and_eq_true,decide_eq_true_eq]at hw
 intro n hn
 simp only[List.mem_cons,List.not_mem_nil,or_false]at hn
 rcases hn with rfl|rfl|rfl|rfl|rfl|rfl|rfl|rfl|rfl <;> omega
theorem x2k {l:List Int}(h:∀ n∈l,0≤n∧n≤4294967295):(U3 l).length≤5*l.length:=by
 induction l with
 |nil=>simp[U3]
 |cons n r ih=>
  have h1:=h n (by simp)
  have h2:=ih fun n hn=>h n (by simp[hn])
  have h3:=q5q 4 n.toNat (by omega)
  show (q0d n.toNat++U3 r).length≤_
  rw[k1y,List.length_cons]
  omega
theorem y8v (x:Sup)(i:Int):AF k0q z9h [x.av,i64 i] [] (Q8 (.tup [bA (x.sector i).1,i64 (x.sector i).2]) []):=by
 refine AF.mono (R:=fun r H'=>∃ z,z=x.sector i∧r=.tup [bA z.1,i64 z.2]∧H'=[]) ?_ (by rintro r H' ⟨b,rfl,rfl,rfl⟩;exact⟨rfl,rfl⟩)
 refine Q7 hT Tryz.func61 rfl rfl Tryz.ntmps61 rfl ?_
 refine z7 hT ?_
 refine w9 ⟨⟨32,[(1,i64 i),(2,.ref 0 0)]⟩,[u4v x]⟩ ((x.may&&(!decide (i<0)&&!decide (i≥4)))=true) (z7 hT ?_) ?_
 ·refine Q0 (Q4 (w7m x) _ rfl rfl) ?_
  have bad:(x.may&&(!decide (i<0)&&!decide (i≥4)))=false→(([],1):x8 × Int)=x.sector i:=fun h=>by unfold Sup.sector;rw[h]
  refine u7 (fun h0=>?_) (fun h0=>?_)
  ·have h0:(!x.may)=true:=h0
   refine y6 ?_
   refine z7 hT ?_
   refine Z2 (J8 4 1 rfl) ?_
   refine u0 ?_
   exact x7 [] ⟨_,bad (by rw[(Bool.not_eq_true' _).mp h0];rfl),rfl,rfl⟩ rfl
  ·have h0:(!x.may)=false:=h0
   have h0:=(Bool.not_eq_false' _).mp h0
   refine u7 (fun h1=>?_) (fun h1=>?_)
   ·have h1:decide (i<0)=true:=h1
    refine y6 ?_
    refine z7 hT ?_
    refine Z2 (J8 4 1 rfl) ?_
    refine u0 ?_
    exact x7 [] ⟨_,bad (by rw[h0,h1];rfl),rfl,rfl⟩ rfl
   ·have h1:decide (i<0)=false:=h1
    refine y6 (u7 (fun h2=>?_) (fun h2=>?_))
    ·have h2:decide (i≥4)=true:=h2
     refine z7 hT ?_
     refine Z2 (J8 4 1 rfl) ?_
     refine u0 ?_
     exact x7 [] ⟨_,bad (by rw[h0,h1,h2];rfl),rfl,rfl⟩ rfl
    ·have h2:decide (i≥4)=false:=h2
     exact x6 ⟨z6 [0] [1,2] rfl,by rw[h0,h1,h2];rfl⟩
 intro hg
 have e:x.sector i=(x.blk i).sld:=by unfold Sup.sector;rw[hg]
 rw[k1u]at hg
 have hn:=w0n hg.1
 have hlen:=x2k hn
 have hlen:(U3 x.nine).length≤45:=hlen
 have wo:=x5r x fun n h=>⟨(hn n h).1,by have:=(hn n h).2;omega⟩
 have wa:=w6z (U3 x.nine) (by omega)
 have ws:=q6d (x.blk i)
 rw[← e]at ws
 unfold Sup.blk at ws
 generalize U3 x.nine=B at wo wa ws hlen
 generalize x.sector i=Z at ws
 refine w9 ⟨⟨32,[(1,i64 i),(2,.ref 0 0),(6,.ref 1 0)]⟩,x0j x []⟩ True (z8 hT ?_) (fun _=>?_)
 ·refine⟨Wk.trans (W9 y9 1) (Wk.trans (V8 1 [.msl 2 1 0 0] rfl ⟨.inr (.inr (.inl ⟨2,1,0,rfl,rfl⟩)),trivial⟩) (z6 [0,1,2] [1,2,6] rfl)),trivial⟩
 refine w9 ⟨⟨32,[(1,i64 i),(2,.ref 0 0),(6,.ref 1 0)]⟩,x0j x B⟩ True (z8 hT ?_) (fun _=>?_)
 ·refine Q0 (Z7 [0,1,2] wo rfl rfl rfl) ?_
  exact⟨z6 [0,1,3] [1,2,6] rfl,trivial⟩
 refine u5 ?_
 refine Q9 [] [] hT u6 (by rfl) ?_
 refine⟨_,Z7 [1,2] wa rfl rfl rfl,?_⟩
 refine⟨_,Q4 ws _ rfl rfl,?_⟩
 refine u0 ?_
 exact x7 [] ⟨Z,rfl,rfl,rfl⟩ rfl
structure Rg where
 vol:Int
 g:GeoV
 epoch:Int
 frm:Int
 start:Int
 next:Int
 chain:Int
abbrev rgC (R:Rg):ABlk:=.cells x8k [.clo (.func z1t) [.ref 1 0],i64 R.vol,i64 R.g.w,i64 R.g.s,i64 R.g.k,i64 R.g.m,i64 R.epoch,i64 R.frm,i64 R.start,i64 R.next,i64 R.chain]
abbrev rgH (R:Rg)(D:Dev):List ABlk:=[q3a D 3 4,.cells V1 [.ref 0 0],rgC R,.row Y4 4 (cx D.cells),.row Y0 2 (wx D.waits)]
def y8w (vol:Int)(g:GeoV)(epoch start next chain:Int):Bool:=g.may&&([vol,epoch,start,next,chain].all Y7&&(!decide (next<start)&&!decide (next - start > g.w)))
def u3r (vol:Int)(g:GeoV)(epoch start next chain:Int):Rg:=⟨vol,g,epoch,next,start,next,chain⟩
theorem v7q (D:Dev)(vol:Int)(g:GeoV)(epoch start next chain:Int)(h:y8w vol g epoch start next chain=true) :
 AFm k0q 1 y6j [.ref 0 0,i64 vol,g.av,i64 epoch,i64 start,i64 next,i64 chain] (Y1 D) (Q8 (.tup [.ref 2 0,i64 0]) (rgH (u3r vol g epoch start next chain) D)):=by
 have wm:=q9i g
 have ww:=y2q [vol,epoch,start,next,chain] (by simp)
 have h0:=h
 unfold y8w at h0
 rw[k1u,k1u,k1u]at h0
 obtain⟨hg,hw,h1,h2⟩:=h0
 rw[hg]at wm
 rw[hw]at ww
 have hw2:=hw
 unfold Y7 at hw2
 simp only[List.all_cons,List.all_nil,Bool.and_true,Bool.and_eq_true,decide_eq_true_eq]at hw2
 obtain⟨q1,q2,q3,q4,q5⟩:=hw2
 have h1:=k0y ((Bool.not_eq_true' _).mp h1)
 have h2:=k0y ((Bool.not_eq_true' _).mp h2)
 have hwr:IntKind.i64.wrap (next - start)=next - start:=Q1 _ (by omega) (by omega)
 refine Z5 1 hT Tryz.func33 rfl rfl Tryz.ntmps33 rfl rfl ?_
 refine z7 hT ?_
 refine Z2 (Z3 4 g.pv rfl rfl) ?_
 refine w9 ⟨⟨58,[(1,i64 vol),(3,i64 epoch),(4,i64 start),(5,i64 next),(6,i64 chain),(7,.ref 3 0),(9,.p (.box g.pv))]⟩,Y1 D++[.cells V1 [.ref 0 0]]⟩ True (u5 (X3 (fun k=>Nat.beq 13 k) hT ?_)) (fun _=>?_)
 ·refine Q0 (Q4 wm _ rfl rfl) ?_
  refine⟨⟨rfl,rfl⟩,?_⟩
  refine Q0 (Q4 ww _ rfl rfl) ?_
  refine u7 (fun h=>?_) (fun h=>?_)
  ·have h:=k0z (show decide (next<start)=true from h)
   omega
  refine y6 (u7 (fun h=>?_) (fun h=>?_))
  ·have h:=k0z (show decide (IntKind.i64.wrap (next - start) > g.w)=true from h)
   rw[hwr]at h
   omega
  exact x6 ⟨z6 [0,1,2,3] [1,3,4,5,6,7,9] rfl,trivial⟩
 refine z7 hT ?_
 refine z7 hT ?_
 refine u0 ?_
 exact x7 [0,3,4,1,2] ⟨rfl,rfl⟩ rfl
def q3x:Nat→x8→List x8
 |0,b=>[b]
 |f+1,b=>match decide (b.length > 200) with
  |true=>b.take 200 :: q3x f (b.drop 200)
  |false=>[b]
def X6 (b:x8):List x8:=q3x b.length b
theorem y8x:∀ (f:Nat) (b:x8),(q3x f b).length≤f+1
 |0,_=>k1v _
 |f+1,b=>by
  unfold q3x
  split
  ·rw[List.length_cons];have:=y8x f (b.drop 200);omega
  ·simp
theorem w4s (tx:x8)(htx:tx.length≤1000000):AF k0q x4s [bA tx] [] (Q8 (.p (.sl 1 (x9 (X6 tx)))) []):=by
 refine AF.mono (R:=fun r H'=>∃ z,z=X6 tx∧r=.p (.sl 1 (x9 z))∧H'=[]) ?_ (by rintro r H' ⟨b,rfl,rfl,rfl⟩;exact⟨rfl,rfl⟩)
 refine Q7 hT Tryz.func66 rfl rfl Tryz.ntmps66 rfl ?_
 refine z7 hT ?_
 refine w9 ⟨⟨18,[(0,bA tx),(3,.msl 0 1 0 0)]⟩,[.row y7 1 []]⟩ True (z8 hT ?_) (fun _=>?_)
 ·exact⟨Wk.trans (W9 y7 1) (Wk.trans (q5f 3 0 1 0 rfl) (z6 [0] [0,3] rfl)),trivial⟩
 refine Q3 (fun st=>∃ (L:List x8) (b:x8),L++[b]=X6 tx∧L.length≤1000000∧st=⟨⟨18,[(0,bA b),(3,.msl 0 1 0 (x9 L).length)]⟩,[.row y7 1 (x9 L)]⟩) (y8 ?_) ?_
 ·refine Q2 (fun n st=>∃ (L:List x8) (b:x8),b.length≤n∧n+L.length≤tx.length∧L++q3x n b=X6 tx∧st=⟨⟨18,[(0,bA b),(3,.msl 0 1 0 (x9 L).length)]⟩,[.row y7 1 (x9 L)]⟩) tx.length ⟨⟨18,_⟩,_⟩ (z6 [0] [0,3] rfl) ⟨[],tx,k1v _,k1v _,rfl,rfl⟩ ?_
  rintro n st ⟨L,b,hbn,hnL,hLb,rfl⟩
  have hbl:=Z0 b
  have hcl:=Y5 L
  refine u5 (z7 hT ?_)
  refine y6 (u7 (fun h=>?_) (fun h=>?_))
  ·have h:=k0z (show decide ((((bx b).length:Nat):Int) > 200)=true from h)
   obtain⟨n,rfl⟩:∃ m,n=m+1:=⟨n - 1,by omega⟩
   have e:q3x (n+1) b=b.take 200 :: q3x n (b.drop 200):=by
    show (match decide (b.length > 200) with|true=>b.take 200 :: q3x n (b.drop 200)|false=>[b])=_
    rw[k1t (show b.length > 200 by omega)]
   rw[e]at hLb
   have e1:((bx b).take (200:Int).toNat).drop (0:Int).toNat=bx (b.take 200):=by rw[z9z];rfl
   have e2:((bx b).take (((bx b).length:Nat):Int).toNat).drop (200:Int).toNat=bx (b.drop 200):=by rw[k0u,List.take_length,z2c];rfl
   have hrow:[[PV.sl 1 (((bx b).take (200:Int).toNat).drop (0:Int).toNat)]]=[[bP (b.take 200)]]:=by rw[e1]
   have hs0:AV.p (.sl 1 (((bx b).take (((bx b).length:Nat):Int).toNat).drop (200:Int).toNat))=bA (b.drop 200):=by rw[e2]
   refine x6 ?_
   refine y8 ?_
   refine Q9 [4] [3] hT u6 (by rfl) ?_
   refine⟨⟨Int.le_refl _,by decide,by omega⟩,?_⟩
   refine⟨⟨rfl,rfl⟩,?_⟩
   refine⟨rfl,⟨?_,?_⟩,?_⟩
   ·show ((x9 L).length+1)*24≤_
    omega
   ·show (x9 L).length+1≤_
    omega
   refine⟨⟨by decide,by omega,Int.le_refl _⟩,?_⟩
   refine⟨n,by omega,_,z6 [1] [0,3] rfl,L++[b.take 200],b.drop 200,by rw[List.length_drop];omega,by rw[k1y];simp;omega,by rw[List.append_assoc];exact hLb,?_⟩
   rw[y8i,← hrow,← hs0];rfl
  ·have h:=k0y (show decide ((((bx b).length:Nat):Int) > 200)=false from h)
   have e:q3x n b=[b]:=by
    cases n with
    |zero=>rfl
    |succ n=>
     show (match decide (b.length > 200) with|true=>b.take 200 :: q3x n (b.drop 200)|false=>[b])=_
     rw[k1s (show ¬ b.length > 200 by omega)]
   rw[e]at hLb
   refine Q6 ?_
   exact⟨_,z6 [0] [0,3] rfl,L,b,hLb,by omega,rfl⟩
 rintro _ ⟨L,b,hLb,hLl,rfl⟩
 have hcl:=Y5 L
 refine u5 (X3 (fun k=>Nat.beq 2 k) hT ?_)
 refine⟨⟨rfl,rfl⟩,?_⟩
 refine⟨rfl,⟨?_,?_⟩,?_⟩
 ·show ((x9 L).length+1)*24≤_
  omega
 ·show (x9 L).length+1≤_
  omega
 refine Z2 (q1e 2 1 _ (y8i L b).symm rfl rfl rfl) ?_
 refine u0 ?_
 exact x7 [] ⟨_,hLb,rfl,rfl⟩ rfl
theorem w4t (D:Dev)(l:List Put9)(b:Nat)(hD:D.Ok b)(hb:b+4*l.length<1000000):AFm k0q 2 z1t [.p (.sl 2 (px l)),.ref 1 0] [q3a D 2 3,.cells V1 [.ref 0 0],.row Y4 4 (cx D.cells),.row Y0 2 (wx D.waits)] (Q8 (i64 (D.all9 l).1) [q3a (D.all9 l).2 2 3,.cells V1 [.ref 0 0],.row Y4 4 (cx (D.all9 l).2.cells),.row Y0 2 (wx (D.all9 l).2.waits)]):=by
 have w:=y0m D l b hD hb
 generalize D.all9 l=Y at w
 obtain⟨e,E⟩:=Y
 refine Z5 2 hT Tryz.func65 rfl rfl Tryz.ntmps65 rfl rfl ?_
 refine z7 hT ?_
 refine z7 hT ?_
 refine Q0 (Z7 [0,2,3] w rfl rfl rfl) ?_
 refine u0 ?_
 exact x7 [0,1,4,5] ⟨rfl,rfl⟩ rfl
def q4x (R:Rg)(p:Pc):List Put9:=[⟨q0h R.g 0 (p.seq.tmod R.g.w),(p.sector R.vol R.g 0).1⟩,⟨q0h R.g 1 (p.seq.tmod R.g.w),(p.sector R.vol R.g 1).1⟩]
def q3c (R:Rg)(D:Dev)(p:Pc):Int × (Rg × Dev):=match (D.all9 (q4x R p)).1 != 0 with
 |true=>((D.all9 (q4x R p)).1,(R,(D.all9 (q4x R p)).2))
 |false=>(0,({ R with next:=R.next+1,chain:=z6g R.vol R.g p },(D.all9 (q4x R p)).2))
theorem v7r (R:Rg)(D:Dev)(p:Pc)(b:Nat)(hD:D.Ok b)(hb:b+8<1000000)(hp:p.may=true)(hg:R.g.may=true)(hv:Y7 R.vol=true)(hn0:0≤R.next)(hn:R.next≤4294967295) :
 AFm k0q 3 y4c [.ref 2 0,p.av] (rgH R D) (Q8 (i64 (q3c R D p).1) (rgH (q3c R D p).2.1 (q3c R D p).2.2)):=by
 refine AFm.mono (R:=fun r H'=>∃ z,z=q3c R D p∧r=i64 z.1∧H'=rgH z.2.1 z.2.2) ?_ (by rintro r H' ⟨b,rfl,rfl,rfl⟩;exact⟨rfl,rfl⟩)
 obtain⟨vol,g,epoch,frm,start,next,chain⟩:=R
 have hg:g.may=true:=hg
 have hv:Y7 vol=true:=hv
 have hn0:0≤next:=hn0
 have hn:next≤4294967295:=hn
 obtain⟨g1,g2,_⟩:=g.of_may hg
 have hpm:=p.of_may hp
 obtain⟨s0,s1⟩:=y0g hg hpm.1.1
 have o0:=q8p hp hg hv (Int.le_refl 0) (by omega)
 have o1:=q8p hp hg hv (show (0:Int)≤1 by omega) (by omega)
 have wS0:=q9j vol g 0 p
 have wS1:=q9j vol g 1 p
 have e0:(p.sector vol g 0).2=0:=by rw[o0.1]
 have e1:(p.sector vol g 1).2=0:=by rw[o1.1]
 have r0:=y2r g 0 (p.seq.tmod g.w) (by omega) (by omega) s0 (by omega)
 have r1:=y2r g 1 (p.seq.tmod g.w) (by omega) (by omega) s0 (by omega)
 have wA:=w4t D (q4x ⟨vol,g,epoch,frm,start,next,chain⟩ p) b hD (by show b+4*2<_;omega)
 have wsl:(p.sector vol g 0).1.length≤1000000:=by
  rw[o0.1]
  show (J3 _).length≤_
  rw[q3r,q6p _ (by show (pcB p).length≤228;have:=y4w hp;omega)];omega
 have wsum:=x4z (p.sector vol g 0).1 wsl
 have esum:((Crc.sum (p.sector vol g 0).1).toNat:Int)=z6g vol g p:=rfl
 rw[esum]at wsum
 have eP:q3c ⟨vol,g,epoch,frm,start,next,chain⟩ D p=match (D.all9 (q4x ⟨vol,g,epoch,frm,start,next,chain⟩ p)).1 != 0 with
  |true=>((D.all9 (q4x ⟨vol,g,epoch,frm,start,next,chain⟩ p)).1,(⟨vol,g,epoch,frm,start,next,chain⟩,(D.all9 (q4x ⟨vol,g,epoch,frm,start,next,chain⟩ p)).2))
  |false=>(0,(⟨vol,g,epoch,frm,start,next+1,z6g vol g p⟩,(D.all9 (q4x ⟨vol,g,epoch,frm,start,next,chain⟩ p)).2)):=rfl
 have eQ:q4x ⟨vol,g,epoch,frm,start,next,chain⟩ p=[⟨q0h g 0 (p.seq.tmod g.w),(p.sector vol g 0).1⟩,⟨q0h g 1 (p.seq.tmod g.w),(p.sector vol g 1).1⟩]:=rfl
 generalize q3c ⟨vol,g,epoch,frm,start,next,chain⟩ D p=Z at eP
 generalize D.all9 (q4x ⟨vol,g,epoch,frm,start,next,chain⟩ p)=Y at wA eP
 generalize q4x ⟨vol,g,epoch,frm,start,next,chain⟩ p=Q at wA eQ
 obtain⟨ea,E⟩:=Y
 have wA:AFm k0q 2 z1t [.p (.sl 2 (px Q)),.ref 1 0] [q3a D 2 3,.cells V1 [.ref 0 0],.row Y4 4 (cx D.cells),.row Y0 2 (wx D.waits)] (Q8 (i64 ea) [q3a E 2 3,.cells V1 [.ref 0 0],.row Y4 4 (cx E.cells),.row Y0 2 (wx E.waits)]):=wA
 have eP:Z=match ea != 0 with
  |true=>(ea,(⟨vol,g,epoch,frm,start,next,chain⟩,E))
  |false=>(0,(⟨vol,g,epoch,frm,start,next+1,z6g vol g p⟩,E)):=eP
 clear o0 o1 esum
 generalize z6g vol g p=sm at wsum eP
 generalize p.sector vol g 0=S0 at *
 generalize p.sector vol g 1=S1 at *
 obtain⟨t0,f0⟩:=S0
 obtain⟨t1,f1⟩:=S1
 have e0:f0=0:=e0
 have e1:f1=0:=e1
 subst e0
 subst e1
 have wS0:AF k0q q6m [i64 vol,g.av,i64 0,p.av] [] (Q8 (.tup [bA t0,i64 0]) []):=wS0
 have wS1:AF k0q q6m [i64 vol,g.av,i64 1,p.av] [] (Q8 (.tup [bA t1,i64 0]) []):=wS1
 have wsum:AF k0q y2c [bA t0] [] (Q8 (i64 sm) []):=wsum
 generalize q0h g 0 (p.seq.tmod g.w)=d0 at *
 generalize q0h g 1 (p.seq.tmod g.w)=d1 at *
 have eQ:Q=[⟨d0,t0⟩,⟨d1,t1⟩]:=eQ
 have hwn:IntKind.i64.wrap (next+1)=next+1:=Q1 _ (by omega) (by omega)
 refine Z5 3 hT Tryz.func67 rfl rfl Tryz.ntmps67 rfl rfl ?_
 refine z7 hT ?_
 refine Z2 (Z3 5 p.pv rfl rfl) ?_
 refine w9 ⟨⟨75,[(0,.ref 2 0),(3,.p (.box p.pv)),(5,.msl 5 2 0 0)]⟩,rgH ⟨vol,g,epoch,frm,start,next,chain⟩ D++[.row X7 2 []]⟩ True (z8 hT ?_) (fun _=>?_)
 ·exact⟨Wk.trans (z6 [0,1,2,3,4] [0,3,5] rfl) (Wk.trans (W9 X7 2) (Wk.trans (q5f 5 5 2 0 rfl) (z6 [0,1,2,3,4,5] [0,3,5] rfl))),trivial⟩
 refine w9 ⟨⟨75,[(0,.ref 2 0),(3,.p (.box p.pv)),(5,.p (.sl 2 (px Q)))]⟩,rgH ⟨vol,g,epoch,frm,start,next,chain⟩ D⟩ True (z7 hT ?_) (fun _=>?_)
 ·refine y8 ?_
  refine Q2 (fun n st=>(n=2∧st=⟨⟨75,[(0,.ref 2 0),(3,.p (.box p.pv)),(5,.msl 5 2 0 0),(10,i64 0)]⟩,rgH ⟨vol,g,epoch,frm,start,next,chain⟩ D++[.row X7 2 []]⟩)∨(n=1∧st=⟨⟨75,[(0,.ref 2 0),(3,.p (.box p.pv)),(5,.msl 5 2 0 1),(10,i64 1)]⟩,rgH ⟨vol,g,epoch,frm,start,next,chain⟩ D++[.row X7 2 [[.raw (.int .i64 d0),bP t0]]]⟩)∨(n=0∧st=⟨⟨75,[(0,.ref 2 0),(3,.p (.box p.pv)),(5,.msl 5 2 0 (px Q).length),(10,i64 2)]⟩,rgH ⟨vol,g,epoch,frm,start,next,chain⟩ D++[.row X7 2 (px Q)]⟩)) 2 ⟨⟨75,_⟩,_⟩ (z6 [0,1,2,3,4,5] [0,3,5,10] rfl) (.inl ⟨rfl,rfl⟩) ?_
  rintro n st (⟨rfl,rfl⟩|⟨rfl,rfl⟩|⟨rfl,rfl⟩)
  ·refine z7 hT ?_
   refine u5 (y6 ?_)
   refine x6 ?_
   refine w9 ⟨⟨75,[(0,.ref 2 0),(3,.p (.box p.pv)),(5,.msl 5 2 0 1),(10,i64 0)]⟩,rgH ⟨vol,g,epoch,frm,start,next,chain⟩ D++[.row X7 2 [[.raw (.int .i64 d0),bP t0]]]⟩ True (y8 (z7 hT ?_)) (fun _=>?_)
   ·refine w9 ⟨⟨75,[(0,.ref 2 0),(3,.p (.box p.pv)),(5,.msl 5 2 0 0),(6,i64 0),(7,bA t0),(8,i64 0),(10,i64 0)]⟩,rgH ⟨vol,g,epoch,frm,start,next,chain⟩ D++[.row X7 2 []]⟩ True ?_ (fun _=>?_)
    ·refine Q9 [] [] hT u6 (by rfl) ?_
     refine⟨_,Q4 wS0 _ rfl rfl,?_⟩
     exact⟨z6 [0,1,2,3,4,5] [0,3,5,6,7,8,10] rfl,trivial⟩
    refine u5 (z7 hT ?_)
    refine y6 ?_
    refine x6 ?_
    refine Q9 [18] [17] hT u6 (by rfl) ?_
    refine neI (y:=g.w) (by omega) ?_
    refine⟨_,Q4 r0 _ rfl rfl,?_⟩
    refine⟨⟨rfl,rfl⟩,?_⟩
    refine⟨rfl,⟨?_,?_⟩,?_⟩
    ·show (0+1)*32≤140737488355328
     decide
    ·show 0+1≤140737488355328
     decide
    skip
    exact⟨z6 [0,1,2,3,4,6] [0,3,5,10] rfl,trivial⟩
   ·refine z8 hT ?_
    exact⟨1,by omega,_,z6 [0,1,2,3,4,5] [0,3,5,10] rfl,.inr (.inl ⟨rfl,rfl⟩)⟩
  ·refine z7 hT ?_
   refine u5 (y6 ?_)
   refine x6 ?_
   refine w9 ⟨⟨75,[(0,.ref 2 0),(3,.p (.box p.pv)),(5,.msl 5 2 0 (px Q).length),(10,i64 1)]⟩,rgH ⟨vol,g,epoch,frm,start,next,chain⟩ D++[.row X7 2 (px Q)]⟩ True (y8 (z7 hT ?_)) (fun _=>?_)
   ·refine w9 ⟨⟨75,[(0,.ref 2 0),(3,.p (.box p.pv)),(5,.msl 5 2 0 1),(6,i64 1),(7,bA t1),(8,i64 0),(10,i64 1)]⟩,rgH ⟨vol,g,epoch,frm,start,next,chain⟩ D++[.row X7 2 [[.raw (.int .i64 d0),bP t0]]]⟩ True ?_ (fun _=>?_)
    ·refine Q9 [] [] hT u6 (by rfl) ?_
     refine⟨_,Q4 wS1 _ rfl rfl,?_⟩
     exact⟨z6 [0,1,2,3,4,5] [0,3,5,6,7,8,10] rfl,trivial⟩
    refine u5 (z7 hT ?_)
    refine y6 ?_
    refine x6 ?_
    refine Q9 [18] [17] hT u6 (by rfl) ?_
    refine neI (y:=g.w) (by omega) ?_
    refine⟨_,Q4 r1 _ rfl rfl,?_⟩
    refine⟨⟨rfl,rfl⟩,?_⟩
    refine⟨rfl,⟨?_,?_⟩,?_⟩
    ·show (1+1)*32≤140737488355328
     decide
    ·show 1+1≤140737488355328
     decide
    rw[eQ]
    exact⟨z6 [0,1,2,3,4,6] [0,3,5,10] rfl,trivial⟩
   ·refine z8 hT ?_
    exact⟨0,by omega,_,z6 [0,1,2,3,4,5] [0,3,5,10] rfl,.inr (.inr ⟨rfl,rfl⟩)⟩
  ·refine z7 hT ?_
   refine u5 (y6 ?_)
   refine Q6 ?_
   exact⟨Wk.trans (z9t 5 5 2 _ rfl rfl rfl rfl) (z6 [0,1,2,3,4] [0,3,5] rfl),trivial⟩
 refine w9 ⟨⟨75,[(0,.ref 2 0),(5,.p (.sl 2 (px Q)))]⟩,rgH ⟨vol,g,epoch,frm,start,next,chain⟩ E⟩ ((ea != 0)=false) (z7 hT ?_) ?_
 ·refine Q0 (Z7 [0,1,3,4] wA rfl rfl rfl) ?_
  refine z7 hT ?_
  refine y6 (u7 (fun h=>?_) (fun h=>?_))
  ·have h:(ea != 0)=true:=h
   rw[h]at eP
   refine z7 hT ?_
   refine u0 ?_
   exact x7 [0,1,2,5,6] ⟨_,eP.symm,rfl,rfl⟩ rfl
  ·have h:(ea != 0)=false:=h
   exact x6 ⟨z6 [0,1,2,5,6] [0,5] rfl,h⟩
 intro h
 rw[h]at eP
 have hxp:(px Q)[(0:Int).toNat]?=some [.raw (.int .i64 d0),bP t0]:=by rw[eQ];rfl
 refine w9 ⟨⟨75,[]⟩,rgH ⟨vol,g,epoch,frm,start,IntKind.i64.wrap (next+1),sm⟩ E⟩ True ?_ (fun _=>?_)
 ·refine Q9 [14,17] [] hT u6 (by rfl) ?_
  refine⟨Int.le_refl _,Z1 hxp ?_⟩
  refine⟨_,Q4 wsum _ rfl rfl,?_⟩
  repeat first|refine⟨rfl,?_⟩|refine⟨⟨_,Q4 wsum _ rfl rfl,rfl⟩,?_⟩|refine⟨⟨Int.le_refl _,Z1 hxp rfl⟩,?_⟩
  exact⟨z6 [0,1,2,3,4] [] rfl,trivial⟩
 refine z7 hT ?_
 refine u0 ?_
 refine x7 [0,1,2,3,4] ⟨_,eP.symm,rfl,?_⟩ rfl
 have hwn:IntKind.i64.wrap (next+1)=next+1:=hwn
 rw[hwn];rfl
structure Rg.Ok (R:Rg):Prop where
 g:R.g.may=true
 vol:Y7 R.vol=true
 e:0≤R.epoch∧R.epoch≤4294967295
 f:0≤R.frm∧R.frm≤R.next
 s:0≤R.start∧R.start≤R.next
 n:R.next≤4294967295
 c:0≤R.chain∧R.chain≤4294967295
def pcR (R:Rg)(i n:Int)(b:x8):Pc:=⟨R.next,R.epoch,R.frm,R.chain,i,n,b⟩
def z6i (n:Int):List x8→Int→Rg→Dev→Int × (Rg × Dev)
 |[],_,R,D=>(0,(R,D))
 |b :: r,i,R,D=>match (q3c R D (pcR R i n b)).1 != 0 with
  |true=>q3c R D (pcR R i n b)
  |false=>z6i n r (i+1) (q3c R D (pcR R i n b)).2.1 (q3c R D (pcR R i n b)).2.2
def Rg.append (R:Rg)(D:Dev)(tx:x8):Int × (Rg × Dev):=match decide ((X6 tx).length > 64) with
 |true=>(2,(R,D))
 |false=>match decide (R.next+(X6 tx).length - R.start > R.g.w)||decide (R.next+(X6 tx).length > 4294967295) with
  |true=>(4,(R,D))
  |false=>z6i (X6 tx).length (X6 tx) 0 R D
theorem y8y:∀ (f:Nat) (b:x8),b.length≤f→∀ s∈q3x f b,s.length≤200
 |0,b,h,s,hs=>by
  unfold q3x at hs
  simp only[List.mem_singleton]at hs
  subst hs;omega
 |f+1,b,h,s,hs=>by
  unfold q3x at hs
  split at hs
  ·rename_i hd
   have hd:=k0z hd
   simp only[List.mem_cons]at hs
   rcases hs with rfl|hs
   ·rw[k2u];omega
   ·exact y8y f _ (by rw[List.length_drop];omega) s hs
  ·rename_i hd
   have hd:=k0y hd
   simp only[List.mem_singleton]at hs
   subst hs;omega
theorem z2m (tx:x8):∀ s∈X6 tx,s.length≤200:=y8y _ _ (k1v _)
theorem w4u (tx:x8):1≤(X6 tx).length:=by
 unfold X6
 cases tx.length with
 |zero=>exact k1v _
 |succ n=>
  unfold q3x
  split
  ·rw[List.length_cons];omega
  ·exact k1v _
theorem y5b {R:Rg}(h:R.Ok){i n:Int}{b:x8}(h0:0≤i)(hi:i<n)(hn:n≤64)(hb:b.length≤200):(pcR R i n b).may=true:=by
 obtain⟨_,_,e,f,s,nn,c⟩:=h
 unfold pcR Pc.may Pc.words Y7
 simp only[List.all_cons,List.all_nil,Bool.and_true,Bool.and_eq_true,decide_eq_true_eq]
 omega
theorem z5y (vol:Int)(g:GeoV)(p:Pc):0≤z6g vol g p∧z6g vol g p≤4294967295:=by
 unfold z6g
 have:=(Crc.sum (p.sector vol g 0).1).isLt
 omega
theorem u0v {R:Rg}(_h:R.Ok){D:Dev}{b:Nat}(hD:D.Ok b)(hb:b+8<1000000)(p:Pc):(q3c R D p).2.2.Ok (b+8)∧((q3c R D p).1=0→(q3c R D p).2.1 = { R with next:=R.next+1,chain:=z6g R.vol R.g p })∧((q3c R D p).1≠0→(q3c R D p).2.1=R):=by
 have ok:(D.all9 (q4x R p)).2.Ok (b+4*2):=w7k x2j (q4x R p) hD (by show b+4*2<_;omega)
 unfold q3c
 cases hc:(D.all9 (q4x R p)).1 != 0 with
 |true=>exact⟨ok,fun h=>by simp only at h;rw[h]at hc;exact absurd hc (by decide),fun _=>rfl⟩
 |false=>exact⟨ok,fun _=>rfl,fun h=>absurd rfl h⟩
theorem w0p (R:Rg)(D:Dev)(tx:x8)(b:Nat)(hR:R.Ok)(hD:D.Ok b)(hb:b+600<1000000)(htx:tx.length≤1000000) :
 AFm k0q 3 z7i [.ref 2 0,bA tx] (rgH R D) (Q8 (i64 (R.append D tx).1) (rgH (R.append D tx).2.1 (R.append D tx).2.2)):=by
 refine AFm.mono (R:=fun r H'=>∃ z,z=R.append D tx∧r=i64 z.1∧H'=rgH z.2.1 z.2.2) ?_ (by rintro r H' ⟨b,rfl,rfl,rfl⟩;exact⟨rfl,rfl⟩)
 have ws:=w4s tx htx
 have hall:=z2m tx
 have hpos:=w4u tx
 have eA:R.append D tx=match decide ((X6 tx).length > 64) with
  |true=>(2,(R,D))
  |false=>match decide (R.next+(X6 tx).length - R.start > R.g.w)||decide (R.next+(X6 tx).length > 4294967295) with
   |true=>(4,(R,D))
   |false=>z6i (X6 tx).length (X6 tx) 0 R D:=rfl
 generalize R.append D tx=Z at eA
 have hll:=y8x tx.length tx
 have hll:(X6 tx).length≤tx.length+1:=hll
 generalize X6 tx=l at ws hall hpos eA hll
 have hcl:=Y5 l
 have hgo:=R.g.of_may hR.g
 have hn:=hR.n
 have hs:=hR.s
 refine Z5 3 hT Tryz.func34 rfl rfl Tryz.ntmps34 rfl rfl ?_
 refine z7 hT ?_
 refine u5 (z7 hT ?_)
 refine y6 ?_
 refine x6 ?_
 refine w9 ⟨⟨78,[(0,.ref 2 0),(5,.p (.sl 1 (x9 l)))]⟩,rgH R D⟩ True (z8 hT ?_) (fun _=>?_)
 ·refine Q0 (Q4 ws _ rfl rfl) ?_
  exact⟨z6 [0,1,2,3,4] [0,5] rfl,trivial⟩
 refine w9 ⟨⟨78,[(0,.ref 2 0),(5,.p (.sl 1 (x9 l)))]⟩,rgH R D⟩ (l.length≤64∧R.next+l.length≤4294967295∧Z=z6i l.length l 0 R D) (y8 (z7 hT ?_)) ?_
 ·refine y6 (u7 (fun h=>?_) (fun h=>?_))
  ·have h:=k0z (show decide ((((x9 l).length:Nat):Int) > 64)=true from h)
   rw[k1t (show l.length > 64 by omega)]at eA
   refine z7 hT ?_
   refine u0 ?_
   exact x7 [0,1,2,3,4] ⟨_,eA.symm,rfl,rfl⟩ rfl
  have h:=k0y (show decide ((((x9 l).length:Nat):Int) > 64)=false from h)
  rw[k1s (show ¬ l.length > 64 by omega)]at eA
  have hw1:IntKind.i64.wrap (R.next+(((x9 l).length:Nat):Int))=R.next+l.length:=by rw[hcl,Q1 _ (by omega) (by omega)]
  have hw2:IntKind.i64.wrap (IntKind.i64.wrap (R.next+(((x9 l).length:Nat):Int)) - R.start)=R.next+l.length - R.start:=by rw[hw1,Q1 _ (by omega) (by omega)]
  have full:(decide (R.next+(l.length:Int) - R.start > R.g.w)||decide (R.next+(l.length:Int) > 4294967295))=true→(4,(R,D))=Z:=fun hf=>by
   have eA:Z=match decide (R.next+(l.length:Int) - R.start > R.g.w)||decide (R.next+(l.length:Int) > 4294967295) with
    |true=>(4,(R,D))
    |false=>z6i l.length l 0 R D:=eA
   rw[hf]at eA;exact eA.symm
  refine Q3 (fun st=>∃ c,c=(decide (R.next+(l.length:Int) - R.start > R.g.w)||decide (R.next+(l.length:Int) > 4294967295))∧st=⟨⟨78,[(0,.ref 2 0),(5,.p (.sl 1 (x9 l))),(17,bl c)]⟩,rgH R D⟩) (u5 ?_) ?_
  ·refine Q9 [] [] hT u6 (by rfl) ?_
   refine y6 (u7 (fun h1=>?_) (fun h1=>?_))
   ·have h1:=k0z (show decide (IntKind.i64.wrap (IntKind.i64.wrap (R.next+(((x9 l).length:Nat):Int)) - R.start) > R.g.w)=true from h1)
    rw[hw2]at h1
    exact x6 ⟨_,z6 [0,1,2,3,4] [0,5,17] rfl,true,by rw[k1t h1];rfl,congrArg (fun c=>(⟨⟨78,[(0,.ref 2 0),(5,.p (.sl 1 (x9 l))),(17,bl c)]⟩,rgH R D⟩:St)) (k1t (by rw[hw2];exact h1))⟩
   ·have h1:=k0y (show decide (IntKind.i64.wrap (IntKind.i64.wrap (R.next+(((x9 l).length:Nat):Int)) - R.start) > R.g.w)=false from h1)
    rw[hw2]at h1
    refine z8 hT ?_
    exact⟨_,z6 [0,1,2,3,4] [0,5,17] rfl,_,by rw[k1s h1,hw1];rfl,rfl⟩
  rintro _ ⟨c,hc,rfl⟩
  rw[← hc]at full
  refine y6 (u7 (fun h1=>?_) (fun h1=>?_))
  ·have h1:c=true:=h1
   refine z7 hT ?_
   refine u0 ?_
   exact x7 [0,1,2,3,4] ⟨_,full h1,rfl,rfl⟩ rfl
  ·have h1:c=false:=h1
   rw[h1]at hc
   have hc:=hc.symm
   have eA:Z=match decide (R.next+(l.length:Int) - R.start > R.g.w)||decide (R.next+(l.length:Int) > 4294967295) with
    |true=>(4,(R,D))
    |false=>z6i l.length l 0 R D:=eA
   rw[hc]at eA
   rw[Bool.or_eq_false_iff]at hc
   have:=k0y hc.2
   exact x6 ⟨z6 [0,1,2,3,4] [0,5] rfl,by omega,by omega,eA⟩
 rintro⟨h64,hmax,hZ⟩
 clear eA
 refine Q3 (fun st=>∃ R' D',Z=(0,(R',D'))∧st=⟨⟨78,[]⟩,rgH R' D'⟩) (z7 hT ?_) ?_
 ·refine y8 ?_
  refine Q2 (fun n st=>∃ (k:Nat) (j:Int) (R':Rg) (D':Dev),n+k=l.length∧j=k∧R'.Ok∧R'.next+n≤4294967295∧D'.Ok (b+8*k)∧Z=z6i l.length (l.drop k) j R' D'∧st=⟨⟨78,[(0,.ref 2 0),(5,.p (.sl 1 (x9 l))),(44,.p (.sl 1 (x9 l))),(45,i64 (x9 l).length),(46,i64 j)]⟩,rgH R' D'⟩) l.length ⟨⟨78,_⟩,_⟩ (z6 [0,1,2,3,4] [0,5,44,45,46] rfl) ⟨0,0,R,D,rfl,rfl,hR,hmax,hD,hZ,rfl⟩ ?_
  rintro n st ⟨k,j,R',D',hnk,hj,hR',hmx,hD',hgo',rfl⟩
  refine z7 hT ?_
  refine u5 (y6 (u7 (fun h=>?_) (fun h=>?_)))
  ·have h:=k0z (show decide (j<(((x9 l).length:Nat):Int))=true from h)
   have hk:k<l.length:=by omega
   have hx:=k0w hk
   have hxa:=hall _ (k1w hk)
   have hd:=List.drop_eq_getElem_cons hk
   generalize l[k]=s at hx hxa hd
   rw[hd]at hgo'
   have hxp:(x9 l)[j.toNat]?=some [bP s]:=by rw[hj,k0u];exact Y2 hx
   have hpm:=y5b hR' (i:=j) (n:=l.length) (b:=s) (by omega) (by omega) (by omega) hxa
   have w:=v7r R' D' (pcR R' j l.length s) (b+8*k) hD' (by omega) hpm hR'.g hR'.vol (by have:=hR'.s;omega) hR'.n
   obtain⟨ok,k1,k2⟩:=u0v hR' hD' (by omega) (pcR R' j l.length s)
   have hgo2:Z=match (q3c R' D' (pcR R' j l.length s)).1 != 0 with
    |true=>q3c R' D' (pcR R' j l.length s)
    |false=>z6i l.length (l.drop (k+1)) (j+1) (q3c R' D' (pcR R' j l.length s)).2.1 (q3c R' D' (pcR R' j l.length s)).2.2:=hgo'
   have hsw:=z5y R'.vol R'.g (pcR R' j l.length s)
   generalize z6g R'.vol R'.g (pcR R' j l.length s)=sm at k1 hsw
   unfold pcR at w
   unfold pcR at hgo2 ok k1 k2
   generalize q3c R' D' ⟨R'.next,R'.epoch,R'.frm,R'.chain,j,l.length,s⟩=Y at w hgo2 ok k1 k2
   obtain⟨e,R2,D2⟩:=Y
   have ok:D2.Ok (b+8*k+8):=ok
   have k1:e=0→R2 = { R' with next:=R'.next+1,chain:=sm }:=k1
   have hgo2:Z=match e != 0 with
    |true=>(e,(R2,D2))
    |false=>z6i l.length (l.drop (k+1)) (j+1) R2 D2:=hgo2
   refine x6 ?_
   refine w9 ⟨⟨78,[(0,.ref 2 0),(5,.p (.sl 1 (x9 l))),(44,.p (.sl 1 (x9 l))),(45,i64 (x9 l).length),(46,i64 j)]⟩,rgH R2 D2⟩ (e=0) (y8 (z7 hT ?_)) (fun he=>?_)
   ·refine⟨by omega,Z1 hxp ?_⟩
    refine w9 ⟨⟨78,[(0,.ref 2 0),(5,.p (.sl 1 (x9 l))),(8,i64 e),(44,.p (.sl 1 (x9 l))),(45,i64 (x9 l).length),(46,i64 j)]⟩,rgH R2 D2⟩ True ?_ (fun _=>?_)
    ·refine Q9 [22] [] hT u6 (by rfl) ?_
     rw[← hcl]at w
     refine⟨_,_,Z7 [0,1,2,3,4] w rfl rfl rfl,?_⟩
     exact⟨z6 [0,1,2,5,6] [0,5,8,44,45,46] rfl,trivial⟩
    refine z7 hT ?_
    refine y6 (u7 (fun h1=>?_) (fun h1=>?_))
    ·have h1:(e != 0)=true:=h1
     rw[h1]at hgo2
     refine z7 hT ?_
     refine u0 ?_
     exact x7 [0,1,2,3,4] ⟨_,hgo2.symm,rfl,rfl⟩ rfl
    ·have h1:(e != 0)=false:=h1
     exact x6 ⟨z6 [0,1,2,3,4] [0,5,44,45,46] rfl,by simpa using h1⟩
   ·have hR2:=k1 he
    rw[he]at hgo2
    refine z8 hT ?_
    refine⟨n - 1,by omega,_,z6 [0,1,2,3,4] [0,5,44,45,46] rfl,k+1,IntKind.i64.wrap (j+1),R2,D2,by omega,?_,?_,?_,ok,?_,rfl⟩
    ·rw[Q1 _ (by omega) (by omega),hj];rfl
    ·rw[hR2]
     obtain⟨q1,q2,q3,q4,q5,q6,q7⟩:=hR'
     exact⟨q1,q2,q3,⟨q4.1,by show R'.frm≤R'.next+1;omega⟩,⟨q5.1,by show R'.start≤R'.next+1;omega⟩,by show R'.next+1≤_;omega,hsw⟩
    ·rw[hR2];show R'.next+1+((n - 1:Nat):Int)≤_;omega
    ·rw[Q1 _ (by omega) (by omega)];exact hgo2
  ·have h:=k0y (show decide (j<(((x9 l).length:Nat):Int))=false from h)
   rw[List.drop_eq_nil_of_le (by omega)]at hgo'
   refine Q6 ?_
   exact⟨_,z6 [0,1,2,3,4] [] rfl,R',D',hgo',rfl⟩
 rintro _ ⟨R',D',hZ',rfl⟩
 refine z7 hT ?_
 refine u0 ?_
 exact x7 [0,1,2,3,4] ⟨_,hZ'.symm,rfl,rfl⟩ rfl
structure CleanP (D:Dev) (N b:Nat):Prop where
 ok:D.Ok b
 dead:D.dead=false
 armed:D.armed=false
 waits:D.waits=[]
 len:D.cells.length=N
 well:∀ c∈D.cells,c.drop=0∧c.miss=[]
theorem x5s {D:Dev}{N k:Nat}(h:D.cells.length=N)(hk:k<N):D.has (k:Int)=true:=by
 unfold Dev.has;rw[h,k1t (show (k:Int)≥0 by omega),k1t (show (k:Int)<(N:Int) by omega)];rfl
theorem x5t {E:Dev}(h1:E.dead=false)(h2:E.armed=false):E.lives.dead=false:=by
 show (E.dead||(E.armed&&E.left==0))=false
 rw[h1,h2];rfl
theorem u1x {E:Dev}{a:Int}{s:x8}(hd:E.dead=false)(hw:E.waits=[])(hh:E.has a=true){c:Cell}(hc:E.cells[a.toNat]?=some c):E.hhas a s=((!c.lost&&(c.s==s),0),E.count):=by
 have hr:E.readAt a=match c.lost with|true=>(20,[])|false=>(0,c.s):=by
  unfold Dev.readAt;rw[hw];show (match E.cells[a.toNat]? with|some c=>_|none=>_)=_;rw[hc];rfl
 have e:E.read a=(((E.readAt a).2,(E.readAt a).1),E.count):=by unfold Dev.read;rw[hd,hh]
 unfold Dev.hhas
 rw[e,hr]
 cases c.lost with
 |true=>rfl
 |false=>rfl
theorem y3m {D:Dev}{N b:Nat}(h:CleanP D N b){k:Nat}(hk:k<N){s:x8}(hs:s.length=256) :
 ∃ E,D.once k s=((true,0),E)∧CleanP E N (b+1)∧E.cells=D.cells.set k ⟨s,false,0,[]⟩:=by
 obtain⟨c,hc⟩:∃ c,D.cells[k]?=some c:=⟨_,k0w (by rw[h.len];omega)⟩
 have hlt:=(k0t.1 hc).1
 obtain⟨cd,cm⟩:=h.well c (k2x hc)
 have hh:D.has k=true:=x5s h.len hk
 have hl:D.lives.dead=false:=x5t h.dead h.armed
 have ok:=(h.ok.write k s).flush
 have hput:D.lives.count.put k s = { D.lives.count with waits:=[⟨k,s⟩] }:=by
  unfold Dev.put
  rw[k0u,show D.lives.count.cells[k]?=some c from hc]
  simp only
  rw[cd,cm]
  show { D.lives.count with waits:=D.waits++[(⟨k,s⟩:Wr)] }=_
  rw[h.waits];rfl
 have e:D.write k s=(0,{ D.lives.count with waits:=[⟨k,s⟩] }):=by
  rw[← hput]
  unfold Dev.write
  rw[h.dead,hh,show ((s.length:Int) != 256)=false by rw[hs];rfl,hl]
 have hl2:Dev.dead (Dev.lives { D.lives.count with waits:=[⟨k,s⟩] })=false:=x5t hl h.armed
 have ef:Dev.flush { D.lives.count with waits:=[⟨k,s⟩] }=(0,(Dev.lives { D.lives.count with waits:=[⟨k,s⟩] }).drain [true]):=by
  unfold Dev.flush
  rw[show Dev.dead { D.lives.count with waits:=[⟨k,s⟩] }=false from hl,hl2]
 rw[e]at ok
 simp only at ok
 rw[ef]at ok
 have hcells:((Dev.lives { D.lives.count with waits:=[⟨k,s⟩] }).drain [true]).cells=D.cells.set k ⟨s,false,0,[]⟩:=by
  show q2d D.cells ⟨k,s⟩=_
  rw[q8g (x:=⟨k,s⟩) (show D.cells[((k:Nat):Int).toNat]?=some c by rw[k0u];exact hc)]
  show D.cells.set ((k:Nat):Int).toNat { c with s:=s,lost:=false }=_
  rw[k0u,cd,cm]
 have hwell:∀ c∈D.cells.set k ⟨s,false,0,[]⟩,c.drop=0∧c.miss=[]:=fun x hx=>by
  rcases List.mem_or_eq_of_mem_set hx with hx|rfl
  ·exact h.well x hx
  ·exact⟨rfl,rfl⟩
 have cE:CleanP ((Dev.lives { D.lives.count with waits:=[⟨k,s⟩] }).drain [true]) N (b+1):=⟨ok,hl2,h.armed,rfl,by rw[hcells,List.length_set];exact h.len,by rw[hcells];exact hwell⟩
 have eo:D.once k s=((Dev.lives { D.lives.count with waits:=[⟨k,s⟩] }).drain [true]).hhas k s:=by
  unfold Dev.once;rw[e];simp only;rw[ef];rfl
 generalize (Dev.lives { D.lives.count with waits:=[⟨k,s⟩] }).drain [true]=E at cE hcells eo
 have hce:E.cells[((k:Nat):Int).toNat]?=some ⟨s,false,0,[]⟩:=by rw[hcells,k0u];exact k2y hlt
 refine⟨E.count,?_,⟨cE.ok.count,cE.dead,cE.armed,cE.waits,cE.len,cE.well⟩,hcells⟩
 rw[eo,u1x cE.dead cE.waits (x5s cE.len hk) hce]
 simp
theorem y8z {D:Dev}{N b:Nat}(h:CleanP D N b){k:Nat}(hk:k<N){s:x8}(hs:s.length=256) :
 ∃ E,D.one k s=(0,E)∧CleanP E N (b+1)∧E.cells=D.cells.set k ⟨s,false,0,[]⟩:=by
 obtain⟨E,h1,h2,h3⟩:=y3m h hk hs
 refine⟨E,?_,h2,h3⟩
 show Dev.tryK 4 D k s=_
 unfold Dev.tryK
 rw[h1];rfl
abbrev y3n (k:Int):Flt:=⟨3,k,0,0,0,0,0,0,0⟩
theorem u4w {D:Dev}{N b k:Nat}(h:CleanP D N b)(hk:k<N) :
 ∃ E,D.fault (y3n k)=(0,E)∧CleanP E N (b+1)∧E.cells=D.cells.modify k fun c=>{ c with lost:=true }:=by
 have hok:=h.ok.fault (y3n k)
 have hm:D.may (y3n k)=0:=by
  unfold Dev.may
  rw[show D.has (y3n k).at_=true from x5s h.len hk]
  rfl
 have hs:D.settle (k:Int)=D:=by
  unfold Dev.settle;rw[h.waits]
  obtain⟨c,w,ar,de,le,op⟩:=D
  have hw:w=[]:=h.waits
  subst hw;rfl
 have e:D.fault (y3n k)=(0,D.upd k fun c=>{ c with lost:=true }):=by
  unfold Dev.fault;rw[hm]
  show (0,D.hurt (y3n k))=_
  unfold Dev.hurt
  rw[if_neg (show ¬ (3:Int)=1 by decide),if_neg (show ¬ (3:Int)=2 by decide),if_pos rfl]
  show (0,(D.settle (k:Int)).upd (k:Int) _)=_
  rw[hs]
 rw[e]at hok
 refine⟨_,e,⟨hok,h.dead,h.armed,h.waits,(List.length_modify ..).trans h.len,?_⟩,by unfold Dev.upd;rw[k0u]⟩
 intro c hc
 have hc:c∈D.cells.modify (k:Int).toNat fun c=>{ c with lost:=true }:=hc
 obtain⟨i,hi⟩:=List.getElem?_of_mem hc
 rw[List.getElem?_modify]at hi
 cases hx:D.cells[i]? with
 |none=>rw[hx]at hi;simp at hi
 |some c0=>
  rw[hx]at hi
  have h0:=h.well c0 (k2x hx)
  simp only[Int.toNat_natCast]at hi
  by_cases e:k=i
  ·simp[e]at hi;subst hi;exact h0
  ·simp[e]at hi;subst hi;exact h0
def u9 (D:Dev)(k:Nat):x8:=match D.cells[k]? with
 |some c=>match c.lost with|true=>[]|false=>c.s
 |none=>[]
theorem u4x {D:Dev}{N b k:Nat}(h:CleanP D N b)(hk:k<N):(D.read k).1.1=u9 D k∧(D.read k).2=D.count∧CleanP D.count N b:=by
 have e:D.read k=(((D.readAt k).2,(D.readAt k).1),D.count):=by unfold Dev.read;rw[h.dead,x5s h.len hk]
 refine⟨?_,by rw[e],⟨h.ok.count,h.dead,h.armed,h.waits,h.len,h.well⟩⟩
 rw[e]
 show (D.readAt k).2=_
 unfold Dev.readAt u9
 rw[h.waits,k0u]
 show (match D.cells[k]? with|some c=>(match c.lost with|true=>((20,[]):Int × x8)|false=>(0,c.s))|none=>(20,[])).2=_
 cases D.cells[k]? with
 |none=>rfl
 |some c=>cases hl:c.lost <;> simp[hl]
structure LiveP (D:Dev) (N b:Nat):Prop where
 ok:D.Ok b
 dead:D.dead=false
 waits:D.waits=[]
 len:D.cells.length=N
 well:∀ c∈D.cells,c.drop=0∧c.miss=[]
theorem CleanP.live {D:Dev}{N b:Nat}(h:CleanP D N b):LiveP D N b:=⟨h.ok,h.dead,h.waits,h.len,h.well⟩
theorem LiveP.arm {D:Dev}{N b:Nat}(h:LiveP D N b)(n:Int):LiveP (D.arm n) N b:=⟨h.ok.arm n,h.dead,h.waits,h.len,h.well⟩
def q2u (s:x8):Cell:=⟨s,false,0,[]⟩
structure DiedP (D E:Dev) (N b:Nat) (x:Put9):Prop where
 ok:E.Ok b
 dead:E.dead=true
 cells:E.cells=D.cells
 waits:E.waits=[]∨E.waits=[⟨x.at_,x.s⟩]
theorem w4v {D:Dev}{N b:Nat}(h:LiveP D N b){k:Nat}(hk:k<N){s:x8}(hs:s.length=256) :
 (∃ E,D.once k s=((true,0),E)∧LiveP E N (b+1)∧E.cells=D.cells.set k (q2u s))∨∃ E,D.once k s=((false,21),E)∧DiedP D E N (b+1) ⟨k,s⟩:=by
 obtain⟨c,hc⟩:∃ c,D.cells[k]?=some c:=⟨_,k0w (by rw[h.len];omega)⟩
 have hlt:=(k0t.1 hc).1
 obtain⟨cd,cm⟩:=h.well c (k2x hc)
 have hh:D.has k=true:=x5s h.len hk
 have okw:=h.ok.write k s
 cases hl:D.lives.dead with
 |true=>
  have e:D.write k s=(21,D.lives):=by
   unfold Dev.write
   rw[h.dead,hh,show ((s.length:Int) != 256)=false by rw[hs];rfl,hl]
  refine .inr ⟨D.lives,?_,⟨h.ok.lives.mono (Nat.le_succ _),hl,rfl,.inl h.waits⟩⟩
  unfold Dev.once;rw[e];rfl
 |false=>
  have hput:D.lives.count.put k s = { D.lives.count with waits:=[⟨k,s⟩] }:=by
   unfold Dev.put
   rw[k0u,show D.lives.count.cells[k]?=some c from hc]
   simp only
   rw[cd,cm]
   show { D.lives.count with waits:=D.waits++[(⟨k,s⟩:Wr)] }=_
   rw[h.waits];rfl
  have e:D.write k s=(0,{ D.lives.count with waits:=[⟨k,s⟩] }):=by
   rw[← hput]
   unfold Dev.write
   rw[h.dead,hh,show ((s.length:Int) != 256)=false by rw[hs];rfl,hl]
  rw[e]at okw
  simp only at okw
  have okf:=okw.flush
  cases hl2:Dev.dead (Dev.lives { D.lives.count with waits:=[⟨k,s⟩] }) with
  |true=>
   have ef:Dev.flush { D.lives.count with waits:=[⟨k,s⟩] }=(21,Dev.lives { D.lives.count with waits:=[⟨k,s⟩] }):=by
    unfold Dev.flush
    rw[show Dev.dead { D.lives.count with waits:=[⟨k,s⟩] }=false from hl,hl2]
   rw[ef]at okf
   refine .inr ⟨Dev.lives { D.lives.count with waits:=[⟨k,s⟩] },?_,⟨okf,hl2,rfl,.inr rfl⟩⟩
   unfold Dev.once;rw[e];simp only;rw[ef];rfl
  |false=>
   have ef:Dev.flush { D.lives.count with waits:=[⟨k,s⟩] }=(0,(Dev.lives { D.lives.count with waits:=[⟨k,s⟩] }).drain [true]):=by
    unfold Dev.flush
    rw[show Dev.dead { D.lives.count with waits:=[⟨k,s⟩] }=false from hl,hl2]
   rw[ef]at okf
   have hcells:((Dev.lives { D.lives.count with waits:=[⟨k,s⟩] }).drain [true]).cells=D.cells.set k (q2u s):=by
    show q2d D.cells ⟨k,s⟩=_
    rw[q8g (x:=⟨k,s⟩) (show D.cells[((k:Nat):Int).toNat]?=some c by rw[k0u];exact hc)]
    show D.cells.set ((k:Nat):Int).toNat { c with s:=s,lost:=false }=_
    rw[k0u,cd,cm];rfl
   have hwell:∀ c∈D.cells.set k (q2u s),c.drop=0∧c.miss=[]:=fun x hx=>by
    rcases List.mem_or_eq_of_mem_set hx with hx|rfl
    ·exact h.well x hx
    ·exact⟨rfl,rfl⟩
   have cE:LiveP ((Dev.lives { D.lives.count with waits:=[⟨k,s⟩] }).drain [true]) N (b+1):=⟨okf,hl2,rfl,by rw[hcells,List.length_set];exact h.len,by rw[hcells];exact hwell⟩
   have eo:D.once k s=((Dev.lives { D.lives.count with waits:=[⟨k,s⟩] }).drain [true]).hhas k s:=by
    unfold Dev.once;rw[e];simp only;rw[ef];rfl
   generalize (Dev.lives { D.lives.count with waits:=[⟨k,s⟩] }).drain [true]=E at cE hcells eo
   have hce:E.cells[((k:Nat):Int).toNat]?=some (q2u s):=by rw[hcells,k0u];exact k2y hlt
   refine .inl ⟨E.count,?_,⟨cE.ok.count,cE.dead,cE.waits,cE.len,cE.well⟩,hcells⟩
   rw[eo,u1x cE.dead cE.waits (x5s cE.len hk) hce]
   simp[q2u]
theorem v1i {D:Dev}{N b:Nat}(h:LiveP D N b){k:Nat}(hk:k<N){s:x8}(hs:s.length=256) :
 (∃ E,D.one k s=(0,E)∧LiveP E N (b+1)∧E.cells=D.cells.set k (q2u s))∨∃ E,D.one k s=(21,E)∧DiedP D E N (b+1) ⟨k,s⟩:=by
 rcases w4v h hk hs with ⟨E,h1,h2,h3⟩|⟨E,h1,h2⟩
 ·refine .inl ⟨E,?_,h2,h3⟩
  show Dev.tryK 4 D k s=_
  unfold Dev.tryK
  rw[h1];rfl
 ·refine .inr ⟨E,?_,h2⟩
  show Dev.tryK 4 D k s=_
  unfold Dev.tryK
  rw[h1];rfl
def q0m:List Put9→List Cell→List Cell
 |[],cs=>cs
 |p :: r,cs=>q0m r (cs.set p.at_.toNat (q2u p.s))
theorem z1a:∀ (l:List Put9) (cs:List Cell),(q0m l cs).length=cs.length
 |[],_=>rfl
 |p :: r,cs=>by rw[q0m,z1a r,List.length_set]
theorem x2m (l r:List Put9)(cs:List Cell):q0m (l++r) cs=q0m r (q0m l cs):=by
 induction l generalizing cs with
 |nil=>rfl
 |cons p l ih=>exact ih _
def x0k (N:Nat)(p:Put9):Prop:=0≤p.at_∧p.at_<(N:Int)∧p.s.length=256
theorem z8d {N:Nat}:∀ (ps:List Put9) {D:Dev} {b:Nat} (m:Int),(∀ p∈ps,x0k N p)→LiveP D N b →
 (∃ E m',q3u z4w ps D m=(0,(E,m'))∧LiveP E N (b+ps.length)∧E.cells=q0m ps D.cells) ∨
 ∃ E m' j x,j<ps.length∧ps[j]?=some x∧q3u z4w ps D m=(21,(E,m'))∧E.Ok (b+ps.length)∧E.dead=true∧E.cells=q0m (ps.take j) D.cells∧(E.waits=[]∨E.waits=[⟨x.at_,x.s⟩])
 |[],D,b,m,_,h=>.inl ⟨D,m,rfl,h,rfl⟩
 |p :: r,D,b,m,hp,h=>by
  obtain⟨h0,h1,h2⟩:=hp p (by simp)
  have hk:((p.at_.toNat:Nat):Int)=p.at_:=by omega
  have eg:∀ e E,D.one p.at_ p.s=(e,E)→z4w D m p.at_ p.s=(e,(E,y0k e m)):=fun e E he=>by unfold z4w;rw[he]
  rcases v1i h (k:=p.at_.toNat) (by omega) h2 with ⟨E,g1,g2,g3⟩|⟨E,g1,g2⟩
  ·rw[hk]at g1
   have eg:=eg _ _ g1
   rcases z8d r (y0k 0 m) (fun q hq=>hp q (by simp[hq])) g2 with ⟨F,m',k1,k2,k3⟩|⟨F,m',j,x,k0,k1,k2,k3,k4,k5,k6⟩
   ·refine .inl ⟨F,m',?_,by rw[List.length_cons,show b+(r.length+1)=b+1+r.length by omega];exact k2,by rw[k3,g3];rfl⟩
    rw[q4q,eg];exact k1
   ·refine .inr ⟨F,m',j+1,x,by rw[List.length_cons];omega,by rw[List.getElem?_cons_succ];exact k1,?_,by rw[List.length_cons,show b+(r.length+1)=b+1+r.length by omega];exact k3,k4,by rw[k5,g3];rfl,k6⟩
    rw[q4q,eg];exact k2
  ·rw[hk]at g1 g2
   have eg:=eg _ _ g1
   refine .inr ⟨E,y0k 21 m,0,p,by simp,rfl,?_,g2.ok.mono (by rw[List.length_cons];omega),g2.dead,g2.cells,g2.waits⟩
   rw[q4q,eg];rfl
theorem v7s {N:Nat}(ps:List Put9){D:Dev}{b:Nat}(hp:∀ p∈ps,x0k N p)(h:LiveP D N b)(keep:List Bool) :
 (D.all9 ps).2.Ok (b+ps.length)∧∃ j,j≤ps.length∧CleanP ((D.all9 ps).2.crashed keep) N (b+ps.length)∧((D.all9 ps).2.crashed keep).cells=q0m (ps.take j) D.cells∧(((D.all9 ps).1=0∧j=ps.length)∨(D.all9 ps).1=21):=by
 have wellS:∀ (l:List Put9) (cs:List Cell),(∀ c∈cs,c.drop=0∧c.miss=[])→∀ c∈q0m l cs,c.drop=0∧c.miss=[]:=by
  intro l
  induction l with
  |nil=>exact fun cs h=>h
  |cons p l ih=>
   intro cs hcs
   refine ih _ fun c hc=>?_
   rcases List.mem_or_eq_of_mem_set hc with hc|rfl
   ·exact hcs c hc
   ·exact⟨rfl,rfl⟩
 have fin:∀ (E:Dev) (j:Nat),(E.crashed keep).cells=q0m (ps.take j) D.cells→E.Ok (b+ps.length)→CleanP (E.crashed keep) N (b+ps.length):=fun E j hE ok=>
  ⟨ok.crashed keep,rfl,rfl,rfl,by rw[hE,z1a,h.len],by rw[hE];exact wellS _ _ h.well⟩
 rcases z8d ps 0 hp h with ⟨E,m',h1,h2,h3⟩|⟨E,m',j,x,h0,hx,h1,h2,h3,h4,h5⟩
 ·have e:D.all9 ps=(0,E):=by unfold Dev.all9;rw[h1]
  rw[e]
  have hc:(E.crashed keep).cells=q0m (ps.take ps.length) D.cells:=by
   show q2m E.waits keep E.waits.length E.cells=_
   rw[h2.waits,List.take_length];exact h3
  exact⟨h2.ok,ps.length,k1v _,fin E _ hc h2.ok,hc,.inl ⟨rfl,rfl⟩⟩
 ·have e:D.all9 ps=(21,E):=by unfold Dev.all9;rw[h1]
  rw[e]
  refine⟨h2,?_⟩
  have hj:(E.crashed keep).cells=q0m (ps.take j) D.cells∨(E.crashed keep).cells=q0m (ps.take (j+1)) D.cells:=by
   show q2m E.waits keep E.waits.length E.cells=_∨q2m E.waits keep E.waits.length E.cells=_
   rcases h5 with h5|h5
   ·rw[h5];exact .inl h4
   ·rw[h5]
    show (match kept keep 0 with|true=>q2d E.cells ⟨x.at_,x.s⟩|false=>E.cells)=_∨(match kept keep 0 with|true=>q2d E.cells ⟨x.at_,x.s⟩|false=>E.cells)=_
    cases kept keep 0 with
    |false=>exact .inl h4
    |true=>
     right
     obtain⟨q0,q1,q2⟩:=hp x (k2x hx)
     have hlen:x.at_.toNat<E.cells.length:=by rw[h4,z1a,h.len];omega
     have hc:=k0w hlen
     have hw:∀ c∈E.cells,c.drop=0∧c.miss=[]:=by rw[h4];exact wellS _ _ h.well
     have hcw:=hw _ (k1w hlen)
     generalize E.cells[x.at_.toNat]=c at hc hcw
     show q2d E.cells ⟨x.at_,x.s⟩=_
     rw[q8g (x:=⟨x.at_,x.s⟩) hc,k2t,hx,x2m,← h4]
     show E.cells.set x.at_.toNat { c with s:=x.s,lost:=false }=E.cells.set x.at_.toNat (q2u x.s)
     unfold q2u
     rw[← hcw.1,← hcw.2]
  rcases hj with hj|hj
  ·exact⟨j,by omega,fin E _ hj h2,hj,.inr rfl⟩
  ·exact⟨j+1,by omega,fin E _ hj h2,hj,.inr rfl⟩
def y0p (vol:Int)(a:Nat):Blk:=⟨1,vol,a,0,0,[]⟩
def q0b (vol:Int)(a:Nat):x8:=(y0p vol a).sld.1
def wrK (vol:Int)(D:Dev):Nat→Dev
 |0=>D
 |k+1=>((wrK vol D k).write k (q0b vol k)).2
def GeoV.secs (g:GeoV):Nat:=(4+2*g.w+2*g.s*(g.k+g.m)).toNat
def q5u (vol:Int)(g:GeoV):Dev:=(wrK vol (Dev.new g.secs) g.secs).flush.2
theorem w4w (vol:Int){D:Dev}{b:Nat}(h:D.Ok b):∀ k,(wrK vol D k).Ok (b+k)
 |0=>h
 |k+1=>(w4w vol h k).write _ _
theorem q9r {g:GeoV}(hg:g.may=true):(g.secs:Int)=4+2*g.w+2*g.s*(g.k+g.m)∧g.secs≤4096∧4+2*g.w≤(g.secs:Int):=by
 have hg2:=hg
 unfold GeoV.may at hg2
 rw[k1u,decide_eq_true_eq]at hg2
 obtain⟨m1,m2,m3,m4,m5⟩:=z0p hg2.1
 have hb:=g.of_may hg
 unfold GeoV.secs
 have h0:0≤2*g.s*(g.k+g.m):=by rw[Int.mul_assoc];omega
 omega
def q9s (vol:Int)(g:GeoV):Bool:=g.may&&(!decide (g.w > 16)&&(!decide (vol<0)&&!decide (vol > 4294967295)))
abbrev w7n:AV:=.p (.raw (.pointer none))
theorem y9a (vol:Int)(g:GeoV)(h:q9s vol g=false):AF k0q z6r [i64 vol,g.av] [] (Q8 w7n []):=by
 have wm:=z5r g
 unfold q9s at h
 refine Q7 hT Tryz.func30 rfl rfl Tryz.ntmps30 rfl ?_
 refine z7 hT ?_
 refine Z2 (Z3 0 g.pv rfl rfl) ?_
 refine z7 hT ?_
 refine Q0 (Q4 wm _ rfl rfl) ?_
 refine u5 (z7 hT ?_)
 refine u7 (fun h0=>?_) (fun h0=>?_)
 ·refine y6 ?_
  refine z7 hT ?_
  refine u0 ?_
  exact x7 [] ⟨rfl,rfl⟩ rfl
 have h0:(!g.may)=false:=h0
 refine u7 (fun h1=>?_) (fun h1=>?_)
 ·refine y6 ?_
  refine z7 hT ?_
  refine u0 ?_
  exact x7 [] ⟨rfl,rfl⟩ rfl
 have h1:decide (g.w > 16)=false:=h1
 refine u7 (fun h2=>?_) (fun h2=>?_)
 ·refine y6 ?_
  refine z7 hT ?_
  refine u0 ?_
  exact x7 [] ⟨rfl,rfl⟩ rfl
 have h2:decide (vol<0)=false:=h2
 refine y6 (u7 (fun h3=>?_) (fun h3=>?_))
 ·refine z7 hT ?_
  refine u0 ?_
  exact x7 [] ⟨rfl,rfl⟩ rfl
 have h3:decide (vol > 4294967295)=false:=h3
 rw[(Bool.not_eq_false' _).mp h0,h1,h2,h3]at h
 exact absurd h (by decide)
theorem y3p (vol:Int)(g:GeoV)(h:q9s vol g=true):AF k0q z6r [i64 vol,g.av] [] (Q8 (.ref 0 0) (Y1 (q5u vol g))):=by
 have wm:=z5r g
 unfold q9s at h
 simp only[Bool.and_eq_true,Bool.not_eq_true',decide_eq_false_iff_not]at h
 obtain⟨hg,h16,hv0,hv1⟩:=h
 rw[hg]at wm
 obtain⟨g1,g2,g3,g4,g5,g6,g7,g8⟩:=g.of_may hg
 obtain⟨q1,q2,q3⟩:=q9r hg
 obtain⟨m1,m2,m3,m4,m5⟩:=z0p (by unfold GeoV.may at hg;rw[k1u]at hg;exact hg.1)
 have hX:=m5
 obtain⟨N,hN⟩:∃ N,N=g.secs:=⟨_,rfl⟩
 have hnv:IntKind.i64.wrap (IntKind.i64.wrap (4+IntKind.i64.wrap (2*g.w))+IntKind.i64.wrap (IntKind.i64.wrap (2*g.s)*IntKind.i64.wrap (g.k+g.m)))=(N:Int):=by
  rw[hN,Q1 (2*g.w) (by omega) (by omega),Q1 (4+2*g.w) (by omega) (by omega),Q1 (2*g.s) (by omega) (by omega),Q1 (g.k+g.m) (by omega) (by omega),Q1 (2*g.s*(g.k+g.m)) (by omega) (by omega),Q1 _ (by omega) (by omega),q1]
 have n1:=v5f N (by omega) (by omega)
 have okD:=w4w vol (v5n N 0)
 refine Q7 hT Tryz.func30 rfl rfl Tryz.ntmps30 rfl ?_
 refine z7 hT ?_
 refine Z2 (Z3 0 g.pv rfl rfl) ?_
 refine z7 hT ?_
 refine Q0 (Q4 wm _ rfl rfl) ?_
 refine w9 ⟨⟨67,[(0,i64 vol),(3,.p (.box g.pv))]⟩,[]⟩ True (z7 hT ?_) (fun _=>?_)
 ·refine u7 (fun h=>?_) (fun _=>?_)
  ·have h:=k0z (show decide (g.w > 16)=true from h)
   omega
  refine u7 (fun h=>?_) (fun _=>?_)
  ·have h:=k0z (show decide (vol<0)=true from h)
   omega
  refine y6 (u7 (fun h=>?_) (fun _=>?_))
  ·have h:=k0z (show decide (vol > 4294967295)=true from h)
   omega
  exact x6 ⟨z6 [] [0,3] rfl,trivial⟩
 refine w9 ⟨⟨67,[(0,i64 vol),(6,i64 N)]⟩,[]⟩ True (z8 hT ?_) (fun _=>?_)
 ·rw[← hnv]
  exact⟨z6 [] [0,6] rfl,trivial⟩
 clear hnv
 refine w9 ⟨⟨67,[(0,i64 vol),(6,i64 N),(7,.ref 0 0)]⟩,Y1 (Dev.new N)⟩ True (z8 hT ?_) (fun _=>?_)
 ·refine Q0 n1 ?_
  exact⟨z6 [0,1,2] [0,6,7] rfl,trivial⟩
 have eB:q5u vol g=(wrK vol (Dev.new N) N).flush.2:=by rw[hN];rfl
 refine w9 ⟨⟨67,[(7,.ref 0 0)]⟩,Y1 (wrK vol (Dev.new N) N)⟩ True (z7 hT ?_) (fun _=>?_)
 ·refine y8 ?_
  refine Q2 (fun n st=>∃ (k:Nat) (j:Int) (E:Dev),n+k=N∧j=k∧E=wrK vol (Dev.new N) k∧st=⟨⟨67,[(0,i64 vol),(6,i64 N),(7,.ref 0 0),(9,i64 j)]⟩,Y1 E⟩) N ⟨⟨67,_⟩,_⟩ (z6 [0,1,2] [0,6,7,9] rfl) ⟨0,0,_,rfl,rfl,rfl,rfl⟩ ?_
  rintro n st ⟨k,j,E,hnk,hj,hE,rfl⟩
  have hEo:E.Ok (0+k):=by rw[hE];exact okD k
  refine u5 (z7 hT ?_)
  refine y6 (u7 (fun h=>?_) (fun h=>?_))
  ·have h:=k0z (show decide (j<(N:Int))=true from h)
   have ws:=w3y ⟨1,vol,j,0,0,[]⟩
   have eS:(Blk.mk 1 vol j 0 0 []).sld.1=q0b vol k:=by rw[hj];rfl
   have eE:wrK vol (Dev.new N) (k+1)=(E.write j (q0b vol k)).2:=by rw[hE,hj];rfl
   have ww:=y7e E j (q0b vol k) (by have:=hEo.wl;omega)
   rw[eS]at ws
   generalize (Blk.mk 1 vol j 0 0 []).sld.2=e at ws
   generalize q0b vol k=s at ws ww eE
   generalize E.write j s=Y at ww eE
   obtain⟨f,F⟩:=Y
   have ww:AFm k0q 1 q9c [.ref 0 0,i64 j,bA s] (Y1 E) (Q8 (i64 f) (Y1 F)):=ww
   have eE:wrK vol (Dev.new N) (k+1)=F:=eE
   refine x6 ?_
   refine w9 ⟨⟨67,[(0,i64 vol),(6,i64 N),(7,.ref 0 0),(9,i64 j)]⟩,Y1 F⟩ True (y8 (z7 hT ?_)) (fun _=>?_)
   ·refine Q0 (y2k (Q4 ws _ rfl rfl) ⟨.inl rfl,.inl rfl,.inl rfl,.inl rfl,.inl rfl,.inr ⟨rfl,1,rfl⟩,trivial⟩) ?_
    refine z8 hT ?_
    refine Q0 (Z7 [0,1,2] ww rfl rfl rfl) ?_
    exact⟨z6 [0,3,4] [0,6,7,9] rfl,trivial⟩
   ·refine z8 hT ?_
    refine⟨n - 1,by omega,_,z6 [0,1,2] [0,6,7,9] rfl,k+1,IntKind.i64.wrap (j+1),F,by omega,?_,eE.symm,rfl⟩
    rw[Q1 _ (by omega) (by omega),hj];rfl
  ·have h:=k0y (show decide (j<(N:Int))=false from h)
   have hk:k=N:=by omega
   rw[hk]at hE
   rw[← hE]
   refine Q6 ?_
   exact⟨z6 [0,1,2] [7] rfl,trivial⟩
 have okN:=okD N
 have wf:=y7c (wrK vol (Dev.new N) N) okN.at_ (by have:=okN.wl;omega)
 rw[← eB]at wf
 generalize (wrK vol (Dev.new N) N).flush.1=f at wf
 generalize q5u vol g=B at wf
 refine z7 hT ?_
 refine Q0 (Z7 [0,1,2] wf rfl rfl rfl) ?_
 refine z7 hT ?_
 refine u0 ?_
 exact x7 [0,3,4] ⟨rfl,rfl⟩ rfl
theorem x2n (vol:Int)(hv:Y7 vol=true)(a:Nat)(ha:a≤4294967295):q0b vol a=J3 (y0p vol a).all∧X8 (J3 (y0p vol a).all)=(y0p vol a,0)∧(q0b vol a).length=256:=by
 have hn:(y0p vol a).nums=true:=by
  unfold Blk.nums y0p
  simp only[List.all_cons,List.all_nil,Bool.and_eq_true,decide_eq_true_eq]
  have w1:Y7 (a:Int)=true:=by unfold Y7;simp only[Bool.and_eq_true,decide_eq_true_eq];omega
  exact⟨by decide,hv,w1,by decide,by decide,trivial⟩
 have hb:(y0p vol a).body.length≤228:=Nat.zero_le _
 have e:q0b vol a=J3 (y0p vol a).all:=by
  unfold q0b Blk.sld
  rw[hn,k1s (show ¬ (y0p vol a).body.length > 228 by omega)]
 refine⟨e,z5s hn hb,?_⟩
 rw[e,q3r,q6p _ hb]
theorem x2p (vol:Int)(hv:Y7 vol=true)(N:Nat)(hN:N≤4096):∀ k,k≤N→(wrK vol (Dev.new N) k).cells=(Dev.new N).cells∧(wrK vol (Dev.new N) k).waits=(List.range k).map (fun(a:Nat)=>(⟨(a:Int),q0b vol a⟩:Wr))∧(wrK vol (Dev.new N) k).dead=false∧(wrK vol (Dev.new N) k).armed=false
 |0,_=>⟨rfl,rfl,rfl,rfl⟩
 |k+1,hk=>by
  obtain⟨h1,h2,h3,h4⟩:=x2p vol hv N hN k (by omega)
  have hl:=(x2n vol hv k (by omega)).2.2
  have hc:(Dev.new N).cells[k]?=some cell1:=by
   show (List.replicate N cell1)[k]?=_
   rw[List.getElem?_replicate,if_pos (by omega)]
  show ((wrK vol (Dev.new N) k).write k (q0b vol k)).2.cells=_∧_
  generalize hE:wrK vol (Dev.new N) k=E at h1 h2 h3 h4
  have hh:E.has k=true:=x5s (N:=N) (by rw[h1];show (List.replicate N cell1).length=N;rw[k2z]) (by omega)
  have hld:E.lives.dead=false:=x5t h3 h4
  have hput:E.lives.count.put k (q0b vol k) = { E.lives.count with waits:=E.waits++[⟨(k:Int),q0b vol k⟩] }:=by
   unfold Dev.put
   rw[k0u,show E.lives.count.cells[k]?=some cell1 by show E.cells[k]?=_;rw[h1];exact hc]
   rfl
  have e:E.write k (q0b vol k)=(0,{ E.lives.count with waits:=E.waits++[⟨(k:Int),q0b vol k⟩] }):=by
   rw[← hput]
   unfold Dev.write
   rw[h3,hh,show (((q0b vol k).length:Int) != 256)=false by rw[hl];rfl,hld]
  have e2:wrK vol (Dev.new N) (k+1) = { E.lives.count with waits:=E.waits++[⟨(k:Int),q0b vol k⟩] }:=by
   show ((wrK vol (Dev.new N) k).write k (q0b vol k)).2=_
   rw[hE,e]
  rw[e,e2]
  refine⟨h1,?_,hld,h4⟩
  rw[List.range_succ,List.map_append,← h2];rfl
theorem x2q (vol:Int)(cs:List Cell)(hw:∀ c∈cs,c.drop=0∧c.miss=[])(N:Nat)(hN:N≤cs.length):∀ i,i≤N→∀ a,(q2m ((List.range N).map (fun(a:Nat)=>(⟨(a:Int),q0b vol a⟩:Wr))) [true] i cs)[a]?=if a<i then some (q2u (q0b vol a)) else cs[a]?
 |0,_,a=>by rw[if_neg (by omega)];rfl
 |i+1,hi,a=>by
  have ih:=x2q vol cs hw N hN i (by omega)
  have hk:kept [true] i=true:=by
   unfold kept
   rw[show i % [true].length=0 from Nat.mod_one i];rfl
  have hg:((List.range N).map (fun(a:Nat)=>(⟨(a:Int),q0b vol a⟩:Wr))).getD i ⟨0,[]⟩=⟨(i:Int),q0b vol i⟩:=by
   rw[k0v,k1z,k2s (by omega)];rfl
  have hlen:=q6c ((List.range N).map (fun(a:Nat)=>(⟨(a:Int),q0b vol a⟩:Wr))) [true] cs i
  unfold q2m
  rw[hk,hg]
  show (q2d _ _)[a]?=_
  have hci:(q2m ((List.range N).map (fun(a:Nat)=>(⟨(a:Int),q0b vol a⟩:Wr))) [true] i cs)[i]?=cs[i]?:=by rw[ih i,if_neg (by omega)]
  obtain⟨c,hc⟩:∃ c,cs[i]?=some c:=⟨_,k0w (by omega)⟩
  have hcw:=hw c (k2x hc)
  rw[hc]at hci
  generalize q2m ((List.range N).map (fun(a:Nat)=>(⟨(a:Int),q0b vol a⟩:Wr))) [true] i cs=L at ih hlen hci ⊢
  rw[q8g (x:=⟨(i:Int),q0b vol i⟩) (c:=c) (by show L[((i:Nat):Int).toNat]?=_;rw[k0u];exact hci)]
  show (L.set ((i:Nat):Int).toNat { c with s:=q0b vol i,lost:=false })[a]?=_
  rw[k0u,List.getElem?_set]
  by_cases e:i=a
  ·subst e
   rw[if_pos rfl,if_pos (by omega),if_pos (by omega)]
   unfold q2u
   rw[← hcw.1,← hcw.2]
  ·rw[if_neg e,ih a]
   by_cases e2:a<i
   ·rw[if_pos e2,if_pos (by omega)]
   ·rw[if_neg e2,if_neg (by omega)]
theorem u3s (vol:Int)(hv:Y7 vol=true)(g:GeoV)(hg:g.may=true):CleanP (q5u vol g) g.secs g.secs∧∀ a,a<g.secs→(q5u vol g).cells[a]?=some (q2u (q0b vol a)):=by
 obtain⟨_,q2,_⟩:=q9r hg
 have okN:=w4w vol (v5n g.secs 0) g.secs
 obtain⟨h1,h2,h3,h4⟩:=x2p vol hv g.secs q2 g.secs (k1v _)
 have okF:=okN.flush
 have eB:q5u vol g=(wrK vol (Dev.new g.secs) g.secs).flush.2:=rfl
 rw[← eB,Nat.zero_add]at okF
 generalize wrK vol (Dev.new g.secs) g.secs=E at h1 h2 h3 h4 eB
 have hld:E.lives.dead=false:=x5t h3 h4
 have e:E.flush=(0,E.lives.drain [true]):=by unfold Dev.flush;rw[h3,hld]
 rw[e]at eB
 have hcl:(Dev.new g.secs).cells.length=g.secs:=k2z
 have hwl:∀ c∈(Dev.new g.secs).cells,c.drop=0∧c.miss=[]:=fun c hc=>by rw[List.eq_of_mem_replicate hc];exact⟨rfl,rfl⟩
 have hcs:(q5u vol g).cells=q2m ((List.range g.secs).map (fun(a:Nat)=>(⟨(a:Int),q0b vol a⟩:Wr))) [true] g.secs (Dev.new g.secs).cells:=by
  rw[eB]
  show q2m E.waits [true] E.waits.length E.cells=_
  rw[h2,h1,k1x,k3q]
 have hca:=x2q vol (Dev.new g.secs).cells hwl g.secs (by omega) g.secs (k1v _)
 have hcell:∀ a,a<g.secs→(q5u vol g).cells[a]?=some (q2u (q0b vol a)):=fun a ha=>by rw[hcs,hca a,if_pos ha]
 have hlen:(q5u vol g).cells.length=g.secs:=by rw[hcs,q6c];exact hcl
 refine⟨⟨okF,by rw[eB];exact hld,by rw[eB];exact h4,by rw[eB];rfl,hlen,fun c hc=>?_⟩,hcell⟩
 obtain⟨i,hi⟩:=List.getElem?_of_mem hc
 have hlt:=(k0t.1 hi).1
 rw[hcell i (by omega)]at hi
 obtain rfl:=k0x hi
 exact⟨rfl,rfl⟩
end Go.Proofs.YtkjklhcfgbaceaaGreat.AL
