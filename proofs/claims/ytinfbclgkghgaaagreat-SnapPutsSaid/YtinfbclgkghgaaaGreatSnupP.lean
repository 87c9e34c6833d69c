/- A part of the proof. -/
import Derived.Test.YtinfbclgkghgaaaGreatSnupO
/- The layer 12 (snap): a snapshot's data,stripe by stripe. -/
namespace Go.Proofs.YtinfbclgkghgaaaGreat.AL
open Go Go.Proofs
def q5w (n:Nat)(b:z7):z7:=b++List.replicate (n - b.length) 0
theorem z1q {n:Nat}{b:z7}(h:b.length≤n):(q5w n b).length=n:=by unfold q5w;rw[List.length_append,List.length_replicate];omega
theorem v6e {n:Nat}{b:z7}:X7 (List.replicate n [u8 0]) 0 (bx b)=bx (q5w n b):=by
 have hb:=w9 b
 unfold q5w X7
 rw[q1n,List.take_zero,List.nil_append,List.drop_replicate,Nat.zero_add,hb]
 unfold bx
 rw[List.map_replicate]
def z9k (P:z7)(i:Nat):z7:=(P.drop (228*i)).take 228
def V2 (P:z7)(k s:Nat):List z7:=(List.range k).map fun j=>z9k P (s*k+j)
theorem q1u (P:z7)(k s:Nat):(V2 P k s).length=k:=by unfold V2;rw[List.length_map,List.length_range]
theorem z1r {P:z7}{k s j:Nat}(h:j<k):(V2 P k s)[j]?=some (z9k P (s*k+j)):=by
 unfold V2;rw[List.getElem?_map,List.getElem?_range h];rfl
theorem w0s {P:z7}{i:Nat}(h:228*(i+1)≤P.length):(z9k P i).length=228:=by unfold z9k;rw[List.length_take,List.length_drop];omega
theorem q5i {P:z7}{k s:Nat}(h:228*((s+1)*k)≤P.length):∀ x∈V2 P k s,x.length=228:=fun x hx=>by
 unfold V2 at hx
 rw[List.mem_map]at hx
 obtain⟨j,hj,rfl⟩:=hx
 have hj:=List.mem_range.mp hj
 refine w0s (Nat.le_trans (Nat.mul_le_mul_left 228 ?_) h)
 rw[Nat.succ_mul];omega
abbrev u7w (b:Nat)(O:List Put9):ABlk:=.cells q0n [.msl b 2 0 (px O).length]
abbrev shJ (L:ABlk)(x:List Put9 × List ABlk):List ABlk:=.cells q0n [.p (.raw (.slice none 0 0))] :: .cells q0m [i64 0] :: u7w 4 x.1 :: L :: .row Y6 2 (px x.1) :: x.2
abbrev shK (L:ABlk)(O:List Put9):List ABlk:=[.cells q0n [.p (.raw (.slice none 0 0))],.cells q0m [i64 0],u7w 6 O,L,.dead,.dead,.row Y6 2 (px O)]
theorem v0n {q:RecK}{l:List AV}{O O':List Put9}{D:List z7}{s k:Nat}(hl:U1 4 l=true)
 (h:AYm Tryz.prog 4 3 [i64 s,.msl 5 1 0 k] (shJ (.lp q .ready none l) (O,[.row z0 1 (z4 D)])) (fun r H'=>r=bl true∧H'=shJ (.lp q .ready none l) (O',[]))) :
 AY Tryz.prog 3 [i64 s,.msl 5 1 0 k] (shJ (.lp q .ready none l) (O,[.row z0 1 (z4 D)])) (fun r H'=>r=bl true∧H'=shK (.lp q .ready none l) O'):=by
 have hid:∀ c,c<4→rho 6 [0,1,2,3,4,5] c=c:=fun c hc=>by
  rcases c with _|_|_|_|c
  ·rfl
  ·rfl
  ·rfl
  ·rfl
  ·omega
 have hid2:∀ c,c<4→q0s 6 [0,1,2,3] c=c:=fun c hc=>by
  rcases c with _|_|_|_|c
  ·rfl
  ·rfl
  ·rfl
  ·rfl
  ·omega
 refine u0c [0,1,2,3,4,5] h ⟨rfl,by decide,?_⟩ (show ∀ p∈[0,1,2,3,4,5],p<6 by decide) (by decide) rfl rfl ?_
 ·intro c k hk
  right
  rcases c with _|_|_|_|_|_|c
  ·obtain rfl:=Option.some.inj hk;exact⟨0,rfl,rfl⟩
  ·obtain rfl:=Option.some.inj hk;exact⟨1,rfl,rfl⟩
  ·obtain rfl:=Option.some.inj hk;exact⟨2,rfl,rfl⟩
  ·obtain rfl:=Option.some.inj hk
   refine⟨3,rfl,?_⟩
   show some (ABlk.lp q .ready none l)=some (ABlk.lp q .ready none (q2g (rho 6 [0,1,2,3,4,5]) l))
   rw[q3u hid l hl]
  ·obtain rfl:=Option.some.inj hk;exact⟨4,rfl,rfl⟩
  ·obtain rfl:=Option.some.inj hk;exact⟨5,rfl,rfl⟩
  ·simp at hk
 ·rintro r1 H1' ⟨rfl,rfl⟩
  refine⟨show 4≤5 by decide,rfl,?_⟩
  show [_,_,_,ABlk.lp q .ready none (q2g (q0s 6 [0,1,2,3]) l),_,_,_]=_
  rw[q3u hid2 l hl]
  rfl
set_option maxHeartbeats 2000000 in
set_option maxRecDepth 20000 in
theorem w4r (g:GeoV)(hg:g.may=true)(S k R:Nat)(hs:g.s=S)(hk:g.k=k)(hR:R=228*(S*k))(b:z7)(hb:b.length≤R)(q:RecK)(l:List AV)(hl:U1 4 l=true)(O:Nat→List Put9)
 (hy:∀ s,s<S→AYm Tryz.prog 4 3 [i64 s,.msl 5 1 0 k] (shJ (.lp q .ready none l) (O s,[.row z0 1 (z4 (V2 (q5w R b) k s))])) (fun r H'=>r=bl true∧H'=shJ (.lp q .ready none l) (O (s+1),[]))) :
 AFm Tryz.prog 4 q5q [.yld 3,.p (.box g.pv),.p (.box [bP b])] (shJ (.lp q .ready none l) (O 0,[])) (fun _ H'=>H'=shJ (.lp q .ready none l) (O S,[])):=by
 obtain⟨h1,h2,h3,h4,h5,h6,h7,h8⟩:=U2 (J5 hg)
 have hSk:S*k≤32*16:=Nat.mul_le_mul (by omega) (by omega)
 have wR:=y5k g
 rw[show g.room=(R:Int) by unfold GeoV.room;rw[hg,hs,hk,hR];show (S:Int)*k*228=_;rw[Nat.mul_comm];simp]at wR
 have hpl:=z1q hb
 have hps:=v6e (n:=R) (b:=b)
 have hbl:=w9 b
 generalize q5w R b=P at hy hpl hps
 refine Q5 4 hT y0t rfl rfl y0u rfl rfl ?_
 refine z8 ⟨⟨36,[(0,.yld 3),(1,.p (.box g.pv)),(2,.p (.box [bP b])),(4,.msl 5 1 0 R)]⟩,shJ (.lp q .ready none l) (O 0,[.row z1 1 (List.replicate R [u8 0])])⟩ True (q7 hT ?_) (fun _=>?_)
 ·refine y9 (w7 wR _ rfl rfl) ?_
  refine⟨⟨rfl,by omega,by show (R:Int)*1≤_;omega,by omega⟩,?_⟩
  exact⟨V9 3 [0,1,2,3,4,5] [0,1,2,4] _ rfl hl rfl rfl rfl,trivial⟩
 refine z8 ⟨⟨36,[(0,.yld 3),(1,.p (.box g.pv)),(4,bA P)]⟩,shJ (.lp q .ready none l) (O 0,[])⟩ True (q7 hT ?_) (fun _=>?_)
 ·refine⟨⟨?_,?_⟩,?_⟩
  ·show 0+R≤(List.replicate R _).length
   rw[List.length_replicate];omega
  ·show (bx b).length≤R
   omega
  have hSl:(X7 (List.replicate R [u8 0]) 0 (bx b)).length=R:=by rw[hps,w9,hpl]
  exact⟨Wk.trans (V3 4 5 R hps hSl.symm rfl rfl) (V9 3 [0,1,2,3,4] [0,1,4] _ rfl hl rfl rfl rfl),trivial⟩
 refine q8 (q7 hT ?_)
 refine z3 ?_
 refine y8 (fun n st=>∃ (s:Nat) (js Sv:Int) (rest:z7) (o:List Put9),n+s=S∧js=s∧Sv=S∧rest=P.drop (228*(s*k))∧o=O s∧st=⟨⟨36,[(0,.yld 3),(1,.p (.box g.pv)),(4,bA rest),(14,i64 Sv),(15,i64 js)]⟩,shJ (.lp q .ready none l) (o,[])⟩) S ⟨⟨36,_⟩,_⟩ (V9 3 [0,1,2,3,4] [0,1,4,14,15] _ rfl hl rfl rfl rfl) ⟨0,0,g.s,P,O 0,by omega,rfl,hs,by rw[Nat.zero_mul,Nat.mul_zero,List.drop_zero],rfl,rfl⟩ ?_
 clear hps hbl hb
 rintro n st ⟨s,js,Sv,rest,o,hns,hjs,hSv,hrest,ho,rfl⟩
 refine q8 (q7 hT ?_)
 refine q8 (z2 (y4 (fun h=>?_) (fun h=>?_)))
 ·have h:=of_decide_eq_true (show decide (js<Sv)=true from h)
  have hsS:s<S:=by omega
  refine z5 ?_
  have hy:=hy s hsS
  rw[← ho]at hy
  have hroom:228*((s+1)*k)≤P.length:=by
   rw[hpl,hR]
   exact Nat.mul_le_mul_left 228 (Nat.mul_le_mul_right k hsS)
  have hDl:=q1u P k s
  have hDg:=fun j hj=>z1r (P:=P) (k:=k) (s:=s) (j:=j) hj
  generalize V2 P k s=D at hy hDl hDg
  refine y6 (fun st=>∃ rest,rest=P.drop (228*((s+1)*k))∧st=⟨⟨36,[(0,.yld 3),(1,.p (.box g.pv)),(4,bA rest),(14,i64 Sv),(15,i64 js)]⟩,shJ (.lp q .ready none l) (O (s+1),[])⟩) (z3 (q8 (q7 hT ?_))) ?_
  ·refine z8 ⟨⟨36,[(0,.yld 3),(1,.p (.box g.pv)),(4,bA rest),(5,i64 js),(6,.msl 5 1 0 0),(14,i64 Sv),(15,i64 js)]⟩,shJ (.lp q .ready none l) (o,[.row z0 1 (z4 [])])⟩ True (q7 hT ?_) (fun _=>?_)
   ·exact⟨Wk.trans (X5 z0 1) (Wk.trans (q2h 6 5 1 0 rfl) (V9 3 [0,1,2,3,4,5] [0,1,4,5,6,14,15] _ rfl hl rfl rfl rfl)),trivial⟩
   refine y6 (fun st=>∃ rest X,rest=P.drop (228*((s+1)*k))∧X=D∧st=⟨⟨36,[(0,.yld 3),(1,.p (.box g.pv)),(4,bA rest),(5,i64 js),(6,.msl 5 1 0 (z4 X).length),(14,i64 Sv),(15,i64 js)]⟩,shJ (.lp q .ready none l) (o,[.row z0 1 (z4 X)])⟩) (q8 (q7 hT ?_)) ?_
   ·refine z3 ?_
    refine y8 (fun n st=>∃ (j:Nat) (jj kv:Int) (rest:z7) (X:List z7),n+j=k∧jj=j∧kv=k∧rest=P.drop (228*(s*k+j))∧X=D.take j∧st=⟨⟨36,[(0,.yld 3),(1,.p (.box g.pv)),(4,bA rest),(5,i64 js),(6,.msl 5 1 0 (z4 X).length),(14,i64 Sv),(15,i64 js),(19,i64 kv),(20,i64 jj)]⟩,shJ (.lp q .ready none l) (o,[.row z0 1 (z4 X)])⟩) k ⟨⟨36,_⟩,_⟩ (V9 3 [0,1,2,3,4,5] [0,1,4,5,6,14,15,19,20] _ rfl hl rfl rfl rfl) ⟨0,0,g.k,rest,[],by omega,rfl,hk,hrest,rfl,rfl⟩ ?_
    rintro n st ⟨j,jj,kv,rest,X,hnj,hjj,hkv,hrest,hX,rfl⟩
    refine q8 (q7 hT ?_)
    refine q8 (z2 (y4 (fun h=>?_) (fun h=>?_)))
    ·have h:=of_decide_eq_true (show decide (jj<kv)=true from h)
     have hjk:j<k:=by omega
     refine z5 ?_
     have hroom2:228*(s*k+j+1)≤P.length:=by
      refine Nat.le_trans (Nat.mul_le_mul_left 228 ?_) hroom
      rw[Nat.succ_mul];omega
     have hrl:rest.length=P.length - 228*(s*k+j):=by rw[hrest,List.length_drop]
     have hrl2:=w9 rest
     have hXl:(z4 X).length=j:=by rw[Q2,hX,List.length_take];omega
     have e1:((bx rest).take (228:Int).toNat).drop (0:Int).toNat=bx (rest.take 228):=by rw[y2a];rfl
     have e2:((bx rest).take (((bx rest).length:Nat):Int).toNat).drop (228:Int).toNat=bx (rest.drop 228):=by rw[Int.toNat_natCast,List.take_length,x3z];rfl
     have hrow:[[PV.sl 1 (((bx rest).take (228:Int).toNat).drop (0:Int).toNat)]]=[[bP (rest.take 228)]]:=by rw[e1]
     have hs0:AV.p (.sl 1 (((bx rest).take (((bx rest).length:Nat):Int).toNat).drop (228:Int).toNat))=bA (rest.drop 228):=by rw[e2]
     have hc:rest.take 228=z9k P (s*k+j):=by unfold z9k;rw[hrest]
     have hX2:X++[rest.take 228]=D.take (j+1):=by rw[show D.take (j+1)=D.take j++D[j]?.toList from List.take_add_one,hDg j hjk,hX,hc];rfl
     refine y6 (fun st=>∃ rest' X',rest'=rest.drop 228∧X'=X++[rest.take 228]∧st=⟨⟨36,[(0,.yld 3),(1,.p (.box g.pv)),(4,bA rest'),(5,i64 js),(6,.msl 5 1 0 (z4 X').length),(14,i64 Sv),(15,i64 js),(19,i64 kv),(20,i64 jj)]⟩,shJ (.lp q .ready none l) (o,[.row z0 1 (z4 X')])⟩) (z3 ?_) ?_
     ·refine x6 [3,4] [] hT z6 (by rfl) ?_
      refine⟨⟨Int.le_refl _,by decide,by omega⟩,?_⟩
      refine⟨rfl,⟨?_,?_⟩,?_⟩
      ·show ((z4 X).length+1)*24≤_
       omega
      ·show (z4 X).length+1≤_
       omega
      refine⟨⟨by decide,by omega,Int.le_refl _⟩,?_⟩
      repeat first|refine⟨rfl,?_⟩
      refine⟨_,V9 3 [0,1,2,3,4,7] [0,1,4,5,6,14,15,19,20] _ rfl hl rfl rfl rfl,rest.drop 228,X++[rest.take 228],rfl,rfl,?_⟩
      rw[x0m,← hrow,← hs0];rfl
     ·rintro _ ⟨rest',X',rfl,rfl,rfl⟩
      refine q7 hT ?_
      exact⟨n - 1,by omega,_,V9 3 [0,1,2,3,4,5] [0,1,4,5,6,14,15,19,20] _ rfl hl rfl rfl rfl,j+1,IntKind.i64.wrap (jj+1),kv,_,_,by omega,by rw[y7 _ (by omega) (by omega)];omega,hkv,by rw[hrest,List.drop_drop];congr 1,hX2,rfl⟩
    ·have h:=of_decide_eq_false (show decide (jj<kv)=false from h)
     rw[List.take_of_length_le (by omega)]at hX
     have hjk:j=k:=by omega
     refine x9 ?_
     exact⟨_,V9 3 [0,1,2,3,4,5] [0,1,4,5,6,14,15] _ rfl hl rfl rfl rfl,rest,X,by rw[hrest,hjk,Nat.add_mul s 1 k,Nat.one_mul],hX,rfl⟩
   ·rintro _ ⟨rest,X,hrest,rfl,rfl⟩
    have hXl:(z4 X).length=k:=by rw[Q2,hDl]
    have hy:=v0n hl hy
    rw[← hjs,← hXl]at hy
    refine q8 (q7 hT ?_)
    refine⟨_,hy,?_⟩
    rintro r H' ⟨rfl,rfl⟩
    refine z2 ?_
    refine z5 ?_
    exact⟨_,V9 3 [0,1,2,3,6] [0,1,4,14,15] _ rfl hl rfl rfl rfl,rest,hrest,rfl⟩
  ·rintro _ ⟨rest,hrest,rfl⟩
   refine q7 hT ?_
   exact⟨n - 1,by omega,_,V9 3 [0,1,2,3,4] [0,1,4,14,15] _ rfl hl rfl rfl rfl,s+1,IntKind.i64.wrap (js+1),Sv,rest,O (s+1),by omega,by rw[y7 _ (by omega) (by omega)];omega,hSv,hrest,rfl,rfl⟩
 ·have h:=of_decide_eq_false (show decide (js<Sv)=false from h)
  rw[show s=S by omega]at ho
  rw[ho]
  refine x9 ?_
  exact⟨_,_,V9 3 [0,1,2,3,4] [0] _ rfl hl rfl rfl rfl,rfl⟩
theorem w0t (g:GeoV)(hg:g.may=true)(S k R:Nat)(hs:g.s=S)(hk:g.k=k)(hR:R=228*(S*k))(b:z7)(hb:b.length≤R)(q:RecK)(l:List AV)(hl:U1 4 l=true)(P:z7)(hP:q5w R b=P)(O:Nat→List Put9)(h0:O 0=[])
 (hy:∀ s,s<S→AYm Tryz.prog 4 3 [i64 s,.msl 5 1 0 k] (shJ (.lp q .ready none l) (O s,[.row z0 1 (z4 (V2 P k s))])) (fun r H'=>r=bl true∧H'=shJ (.lp q .ready none l) (O (s+1),[]))) :
 AFm Tryz.prog 4 q5q [.yld 3,.p (.box g.pv),.p (.box [bP b])] (shJ (.lp q .ready none l) ([],[])) (fun _ H'=>H'=shJ (.lp q .ready none l) (O S,[])):=by
 subst hP
 have:=w4r g hg S k R hs hk hR b hb q l hl O hy
 rwa [h0]at this
end Go.Proofs.YtinfbclgkghgaaaGreat.AL
/- The layer 12 (snap): all sectors of a snapshot. -/
namespace Go.Proofs.YtinfbclgkghgaaaGreat.AL
open Go Go.Proofs
theorem w0u (g:GeoV)(b:z7):AF Tryz.prog y7g [g.av,bA b] [] (v9 (.clo (.func q5q) [.p (.box g.pv),.p (.box [bP b])]) []):=by
 refine v8 hT y7h rfl rfl y7i rfl ?_
 refine q8 (q7 hT ?_)
 refine Q1 (Q3 0 g.pv rfl rfl) ?_
 refine Q1 (Q3 1 [bP b] rfl rfl) ?_
 refine q8 (q7 hT ?_)
 refine y5 ?_
 exact z9 [] ⟨rfl,rfl⟩ rfl
theorem v0p {P:Program}{α β:Type}{M n:Nat}{q:RecK}{lf:List (Nat × AV)}{args:List AV}{J:ABlk→α→List ABlk}{Z:ABlk→β→List ABlk}{a:α}{Rnd:α→Prop}{Stp:Code→β→Prop}
 (hJ:∀ L a,(J L a)[M]?=some L∧∀ L',(J L a).set M L'=J L' a) (hZ:∀ L z,(Z L z)[M]?=some L∧∀ L',(Z L z).set M L'=Z L' z)
 (hlf:∀ t u,Z9 lf t=some u→t<n) (hps:∀ p∈q.ps.toList,p<n) (hpa:q.ps.size=args.length) (hbf:q5p (M+1) lf=true)
 (hround:∀ B l,U1 (M+1) l=true→∀ q2:RecK,AW P (some B) (M+1) q.assign ⟨⟨n,z5a lf q.ps.toList args⟩,J (.lp q2 .ready none l) a⟩
  (z9t (fun s1=>s1.H[M]?=some (.lp q2 .ready none l)∧AW P (some B) (M+1) q.body ⟨s1.fr,s1.H.set M (.lp q2 .busy none l)⟩ (w2j M J Z (.lp q2 .busy none l) Rnd Stp)) (fun _ _=>False))) :
 AYm P (M+1) M args (J (.lp q .ready none (W8 n lf)) a) (fun r H'=>(r=.p (.raw (.bool true))∧∃ a',Rnd a'∧H'=J (.lp q .ready none (W8 n lf)) a')∨(r=.p (.raw (.bool false))∧∃ c z,Stp c z∧H'=Z (.lp q .done (some c) (W8 n lf)) z)):=
 y9n hJ hZ hlf hps hpa hbf fun B l hl=>hround B l hl q
theorem v8r (L:ABlk)(Y:List Put9)(x:Put9)(r:List ABlk):shJ L (Y++[x],r)=.cells q0n [.p (.raw (.slice none 0 0))] :: .cells q0m [i64 0] :: .cells q0n [.msl 4 2 0 (px Y++[x.pv]).length] :: L :: .row Y6 2 (px Y++[x.pv]) :: r:=by
 show _ :: _ :: ABlk.cells q0n [.msl 4 2 0 (px (Y++[x])).length] :: _ :: .row Y6 2 (px (Y++[x])) :: _=_
 rw[show px (Y++[x])=px Y++[x.pv] by simp[px]]
def v6f (vol:Int)(g:GeoV)(area epoch no:Int)(all:List z7)(s i:Nat):Put9:=⟨g.at_ area s+i,(Blk.mk 4 vol (g.at_ area s+i) epoch no (all.getD i [])).sld.1⟩
def q3b (vol:Int)(g:GeoV)(area epoch no:Int)(all:List z7)(s:Nat):List Put9:=(List.range all.length).map (v6f vol g area epoch no all s)
def Y8 (P:z7)(k m s:Nat):List z7:=V2 P k s++q4b (V2 P k s) m 228
def q0r (vol:Int)(g:GeoV)(area epoch no:Int)(P:z7)(k m:Nat):Nat→List Put9
 |0=>[]
 |s+1=>q0r vol g area epoch no P k m s++q3b vol g area epoch no (Y8 P k m s) s
def putsB (vol:Int)(g:GeoV)(area epoch no:Int)(b:z7):List Put9 × Int:=match (W5 g area 0).2 != 0||!U5 [vol,epoch,no]with
 |true=>([],1)
 |false=>match decide ((b.length:Int) > g.room) with
  |true=>([],2)
  |false=>(q0r vol g area epoch no (q5w g.room.toNat b) g.k.toNat g.m.toNat g.s.toNat,0)
theorem q5j (P:z7)(k m s:Nat):(Y8 P k m s).length=k+m:=by unfold Y8;rw[List.length_append,q1u,q8n]
theorem z4k {vol:Int}{g:GeoV}{area epoch no:Int}{all:List z7}{s:Nat}:(q3b vol g area epoch no all s).length=all.length:=by unfold q3b;rw[List.length_map,List.length_range]
theorem q2e {vol:Int}{g:GeoV}{area epoch no:Int}{P:z7}{k m:Nat}:∀ s,(q0r vol g area epoch no P k m s).length=s*(k+m)
 |0=>(Nat.zero_mul _).symm
 |s+1=>by
  unfold q0r
  rw[List.length_append,q2e s,z4k,q5j,Nat.succ_mul]
theorem w0v {g:GeoV}(hg:g.may=true){area s:Int}(a0:0≤area)(a1:area≤1)(s0:0≤s)(s1:s<g.s):0≤g.at_ area s∧g.at_ area s+(g.k+g.m)≤100000:=by
 obtain⟨h1,h2,h3,h4,h5,h6,h7,h8⟩:=U2 (J5 hg)
 unfold GeoV.at_
 have e1:0≤area*g.s∧area*g.s≤g.s:=by
  rcases (show area=0∨area=1 by omega) with rfl|rfl <;> omega
 have hm:=Int.mul_le_mul (show area*g.s+s≤64 by omega) (show g.k+g.m≤24 by omega) (by omega) (by omega)
 have hm0:0≤(area*g.s+s)*(g.k+g.m):=Int.mul_nonneg (by omega) (by omega)
 omega
def z3p (vol:Int)(g:GeoV)(area epoch no:Int):List (Nat × AV):=[(6,.p (.box [.raw (.int .i64 vol)])),(7,.p (.box g.pv)),(8,.p (.box [.raw (.int .i64 area)])),(9,.p (.box [.raw (.int .i64 epoch)])),(10,.p (.box [.raw (.int .i64 no)])),(12,.ref 0 0),(13,.ref 1 0)]
set_option maxHeartbeats 4000000 in
set_option maxRecDepth 20000 in
theorem x0n (vol:Int)(g:GeoV)(area epoch no:Int)(b:z7)(hk4:g.k≤4)(hm3:g.m≤3)(_hb:b.length≤1000000) :
 AF Tryz.prog x6c [i64 vol,g.av,i64 area,i64 epoch,i64 no,bA b] [] (v9 (.tup [.p (.sl 2 (px (putsB vol g area epoch no b).1)),i64 (putsB vol g area epoch no b).2]) []):=by
 refine AF.mono (R:=fun r H'=>∃ z,z=putsB vol g area epoch no b∧r=.tup [.p (.sl 2 (px z.1)),i64 z.2]∧H'=[]) ?_ (by rintro r H' ⟨z,rfl,rfl,rfl⟩;exact⟨rfl,rfl⟩)
 have hbl:=w9 b
 have wF:=q4s g area 0
 have wW:=z9j [vol,epoch,no] (by show 3≤64;decide)
 have wR:=y5k g
 have eZ:putsB vol g area epoch no b=match (W5 g area 0).2 != 0||!U5 [vol,epoch,no]with
  |true=>([],1)
  |false=>match decide ((b.length:Int) > g.room) with
   |true=>([],2)
   |false=>(q0r vol g area epoch no (q5w g.room.toNat b) g.k.toNat g.m.toNat g.s.toNat,0):=rfl
 generalize putsB vol g area epoch no b=Z at eZ
 have hfe:(W5 g area 0).2=0→W6 g area 0:=fun h=>by
  by_cases hf:W6 g area 0
  ·exact hf
  ·rw[q5h hf]at h;exact absurd h (by decide)
 generalize hF:W5 g area 0=F at wF eZ hfe
 refine v8 hT x6d rfl rfl x6e rfl ?_
 refine z8 ⟨⟨101,(5,bA b) :: z3p vol g area epoch no⟩,[.cells q0n [.p (.raw (.slice none 0 0))],.cells q0m [i64 0]]⟩ True (q7 hT ?_) (fun _=>?_)
 ·exact⟨Wk.trans (Q3 0 [.raw (.int .i64 vol)] rfl rfl) (Wk.trans (Q3 1 g.pv rfl rfl) (Wk.trans (Q3 2 [.raw (.int .i64 area)] rfl rfl) (Wk.trans (Q3 3 [.raw (.int .i64 epoch)] rfl rfl) (Wk.trans (Q3 4 [.raw (.int .i64 no)] rfl rfl) (q9 [5,6] [5,6,7,8,9,10,12,13] rfl))))),trivial⟩
 refine z8 ⟨⟨101,(5,bA b) :: z3p vol g area epoch no⟩,[.cells q0n [.p (.raw (.slice none 0 0))],.cells q0m [i64 0]]⟩ (W6 g area 0∧U5 [vol,epoch,no]=true∧¬ (b.length:Int) > g.room) (q8 (q7 hT ?_)) ?_
 ·refine y9 (w7 wF _ rfl rfl) ?_
  refine z3 ?_
  refine y6 (fun st=>∃ v,v=(F.2 != 0||!U5 [vol,epoch,no])∧st=⟨⟨101,(33,bl v) :: (5,bA b) :: z3p vol g area epoch no⟩,[.cells q0n [.p (.raw (.slice none 0 0))],.cells q0m [i64 0]]⟩) (q8 (q7 hT ?_)) ?_
  ·refine z2 (y4 (fun h=>?_) (fun h=>?_))
   ·refine z5 ?_
    exact⟨_,q9 [0,1] [33,5,6,7,8,9,10,12,13] rfl,(F.2 != 0),by rw[show (F.2 != 0)=true from h];rfl,rfl⟩
   ·refine W4 (fun k=>Nat.beq 3 k) hT ?_
    refine⟨⟨rfl,rfl⟩,?_⟩
    refine y9 (w7 wW _ rfl rfl) ?_
    exact⟨_,q9 [0,1] [33,5,6,7,8,9,10,12,13] rfl,!U5 [vol,epoch,no],by rw[show (F.2 != 0)=false from h];rfl,rfl⟩
  rintro _ ⟨v,hv,rfl⟩
  rw[← hv]at eZ
  refine z2 (y4 (fun h=>?_) (fun h=>?_))
  ·have h:v=true:=h
   rw[h]at eZ
   refine q8 (q7 hT ?_)
   refine Q1 (q0w 0 [.p (.sl 2 [])] rfl ⟨.inr (.inr (.inr ⟨2,rfl,rfl⟩)),trivial⟩) ?_
   refine y5 ?_
   exact z9 [] ⟨([],1),eZ.symm,rfl,rfl⟩ rfl
  ·have h:v=false:=h
   rw[h]at eZ hv
   have hv:(F.2 != 0)=false∧(!U5 [vol,epoch,no])=false:=by rw[← Bool.or_eq_false_iff];exact hv.symm
   refine q8 (q7 hT ?_)
   refine y9 (w7 wR _ rfl rfl) ?_
   refine z2 (y4 (fun h=>?_) (fun h=>?_))
   ·have h:decide ((((bx b).length:Nat):Int) > g.room)=true:=h
    rw[hbl]at h
    rw[h]at eZ
    refine q8 (q7 hT ?_)
    refine Q1 (q0w 0 [.p (.sl 2 [])] rfl ⟨.inr (.inr (.inr ⟨2,rfl,rfl⟩)),trivial⟩) ?_
    refine y5 ?_
    exact z9 [] ⟨([],2),eZ.symm,rfl,rfl⟩ rfl
   ·have h:decide ((((bx b).length:Nat):Int) > g.room)=false:=h
    rw[hbl]at h
    exact z5 ⟨q9 [0,1] [5,6,7,8,9,10,12,13] rfl,hfe (by have:=hv.1;simpa using this),by have:=hv.2;rwa [Bool.not_eq_false']at this,of_decide_eq_false h⟩
 rintro⟨hok,hw,hroom⟩
 have hF0:F.2=0:=by rw[← hF,q1m hok]
 rw[hF0,hw,decide_eq_false hroom]at eZ
 have eZ:Z=(q0r vol g area epoch no (q5w g.room.toNat b) g.k.toNat g.m.toNat g.s.toNat,0):=eZ
 obtain⟨hg,a0,a1,_,_⟩:=hok
 obtain⟨h1,h2,h3,h4,h5,h6,h7,h8⟩:=U2 (J5 hg)
 obtain⟨S,hS⟩:∃ n:Nat,g.s=n:=⟨g.s.toNat,by omega⟩
 obtain⟨k,hk⟩:∃ n:Nat,g.k=n:=⟨g.k.toNat,by omega⟩
 obtain⟨m,hm⟩:∃ n:Nat,g.m=n:=⟨g.m.toNat,by omega⟩
 obtain⟨R,hR⟩:∃ n:Nat,n=228*(S*k):=⟨_,rfl⟩
 have hroomR:g.room=(R:Int):=by unfold GeoV.room;rw[hg,hS,hk,hR];show (S:Int)*k*228=_;rw[Nat.mul_comm];simp
 rw[hroomR,hS,hk,hm,Int.toNat_natCast,Int.toNat_natCast,Int.toNat_natCast,Int.toNat_natCast]at eZ
 rw[hroomR]at hroom
 have hbR:b.length≤R:=by omega
 have wS:=w0u g b
 obtain⟨P,hPd⟩:∃ P,P=q5w R b:=⟨_,rfl⟩
 have hPl:=z1q hbR
 rw[← hPd]at eZ hPl
 clear wF wW wR hF hfe hF0 hbl hroom hw
 have hOl:=fun s=>q2e (vol:=vol) (g:=g) (area:=area) (epoch:=epoch) (no:=no) (P:=P) (k:=k) (m:=m) s
 have hOs:∀ s,q0r vol g area epoch no P k m (s+1)=q0r vol g area epoch no P k m s++q3b vol g area epoch no (Y8 P k m s) s:=fun s=>rfl
 have hO0:q0r vol g area epoch no P k m 0=[]:=rfl
 generalize q0r vol g area epoch no P k m=O at eZ hOl hOs hO0
 refine q8 (q7 hT ?_)
 refine Q1 (Wk.trans (X5 Y6 2) (q0w 2 [.msl 3 2 0 0] rfl ⟨.inr (.inr (.inl ⟨3,2,0,rfl,rfl⟩)),trivial⟩)) ?_
 refine q8 (q8 (q7 hT ?_))
 refine y9 (w7 wS _ rfl rfl) ?_
 refine z3 ?_
 refine z5c 3 101 [0,1,2,4,3] [6,7,8,9,10,12,13,16,50] shJ (fun L (_:Unit)=>shJ L ([],[])) ([],[]) (fun x=>x=(O S,[])) (fun _ _=>False) rfl rfl (fun L _=>⟨rfl,fun _=>rfl⟩) (fun L _=>⟨rfl,fun _=>rfl⟩) rfl ?_ ?_ ?_
 ·refine AFm.mono (w0t g hg S k R hS hk hR b hbR _ _ (z6i (by rfl)) P hPd.symm O hO0 ?_) ?_
  ·intro s hsS
   refine AYm.mono (v0p (J:=shJ) (Z:=fun L (_:Unit)=>shJ L ([],[])) (a:=(O s,_)) (Rnd:=fun x=>x=(O (s+1),[])) (Stp:=fun _ _=>False) (fun L _=>⟨rfl,fun _=>rfl⟩) (fun L _=>⟨rfl,fun _=>rfl⟩) ?_ ?_ rfl rfl ?_) ?_
   ·exact fun t u ht=>z5b (ks:=[6,7,8,9,10,12,13,16,50]) rfl ht
   ·show ∀ p∈[51,52],p<101
    decide
   ·intro B l hl q
    have hR1:228*((s+1)*k)≤P.length:=by
     rw[hPl,hR]
     exact Nat.mul_le_mul_left 228 (Nat.mul_le_mul_right k hsS)
    have hDl:=q1u P k s
    have we:=y5u (V2 P k s) m 228 (by omega) (by omega) (by omega) (by omega) (by decide) (by decide) (q5i hR1)
    rw[hDl]at we
    have hsl:=q5j P k m s
    have hsh:Y8 P k m s=V2 P k s++q4b (V2 P k s) m 228:=rfl
    have hEl:=q8n (V2 P k s) m 228
    have hO1:=hOs s
    have hOls:=hOl s
    have wF:=q4s g area (s:Int)
    obtain⟨A,hA⟩:∃ A,A=g.at_ area s:=⟨_,rfl⟩
    rw[q1m ⟨hg,a0,a1,by omega,by omega⟩,← hA]at wF
    have hAr:=w0v hg a0 a1 (show 0≤(s:Int) by omega) (by omega)
    rw[← hA]at hAr
    have hSP:∀ i,i<k+m→(q3b vol g area epoch no (Y8 P k m s) s)[i]?=some ⟨A+i,(Blk.mk 4 vol (A+i) epoch no ((Y8 P k m s).getD i [])).sld.1⟩:=fun i hi=>by
     unfold q3b
     rw[List.getElem?_map,List.getElem?_range (by omega),hA];rfl
    have hSPl:(q3b vol g area epoch no (Y8 P k m s) s).length=k+m:=by rw[z4k,hsl]
    generalize q3b vol g area epoch no (Y8 P k m s) s=SP at hO1 hSP hSPl
    generalize q4b (V2 P k s) m 228=E at we hsh hEl
    generalize V2 P k s=D at we hsh hDl ⊢
    generalize Y8 P k m s=ALL at hsl hsh hSP
    have hsk:s*(k+m)≤32*7:=Nat.mul_le_mul (by omega) (by omega)
    generalize O s=o at hO1 hOls ⊢
    generalize O (s+1)=o1 at hO1
    have hDc:=Q2 D
    have hEc:=Q2 E
    refine q8 (q7 hT ?_)
    refine q7 hT ?_
    refine⟨rfl,?_⟩
    refine z3 ?_
    refine z8 ⟨⟨101,(16,.ref 2 0) :: (17,i64 s) :: (18,.msl 5 1 0 k) :: (19,.p (.sl 1 (z4 E))) :: (20,i64 0) :: z3p vol g area epoch no⟩,shJ (.lp q .busy none l) (o,[.row z0 1 (z4 D)])⟩ True (q7 hT ?_) (fun _=>?_)
    ·refine y9 (u6 [5] (hm ▸ we) rfl rfl rfl) ?_
     exact⟨V9 3 [0,1,2,3,4,5] [16,17,18,19,20,6,7,8,9,10,12,13] _ rfl hl rfl rfl rfl,trivial⟩
    refine q8 (q8 (q7 hT ?_))
    refine z2 ?_
    refine z5 ?_
    refine z8 ⟨⟨101,(16,.ref 2 0) :: (18,.msl 5 1 0 k) :: (19,.p (.sl 1 (z4 E))) :: (21,i64 A) :: z3p vol g area epoch no⟩,shJ (.lp q .busy none l) (o,[.row z0 1 (z4 D)])⟩ True (q7 hT ?_) (fun _=>?_)
    ·refine y9 (w7 wF _ rfl rfl) ?_
     exact⟨V9 3 [0,1,2,3,4,5] [16,18,19,21,6,7,8,9,10,12,13] _ rfl hl rfl rfl rfl,trivial⟩
    refine y6 (fun st=>∃ X,X=ALL∧st=⟨⟨101,(16,.ref 2 0) :: (21,i64 A) :: (72,.msl 5 1 0 (z4 X).length) :: (73,i64 (z4 X).length) :: (74,i64 0) :: z3p vol g area epoch no⟩,shJ (.lp q .busy none l) (o,[.row z0 1 (z4 X)])⟩) (q7 hT ?_) ?_
    ·refine⟨by omega,⟨by show ((z4 D).length+(z4 E).length)*24≤_;omega,by omega⟩,?_⟩
     refine⟨_,V9 3 [0,1,2,3,4,6] [16,21,72,73,74,6,7,8,9,10,12,13] _ rfl hl rfl rfl rfl,ALL,rfl,?_⟩
     rw[hsh,J4];rfl
    rintro _ ⟨X,rfl,rfl⟩
    have hXc:=Q2 X
    refine z3 ?_
    refine y8 (fun n st=>∃ (j:Nat) (jj:Int) (Y:List Put9),n+j=k+m∧jj=j∧Y=o++SP.take j∧st=⟨⟨101,(16,.ref 2 0) :: (21,i64 A) :: (72,.msl 5 1 0 (z4 X).length) :: (73,i64 (z4 X).length) :: (74,i64 jj) :: z3p vol g area epoch no⟩,shJ (.lp q .busy none l) (Y,[.row z0 1 (z4 X)])⟩) (k+m) ⟨⟨101,_⟩,_⟩ (Wk.refl _ _) ⟨0,0,o,by omega,rfl,by rw[List.take_zero,List.append_nil],rfl⟩ ?_
    clear we wF
    rintro n st ⟨j,jj,Y,hnj,hjj,hY,rfl⟩
    refine q8 (q7 hT ?_)
    refine q8 (z2 (y4 (fun h=>?_) (fun h=>?_)))
    ·have h:=of_decide_eq_true (show decide (jj<(((z4 X).length:Nat):Int))=true from h)
     have hjk:j<k+m:=by omega
     refine z5 ?_
     have hx:=List.getElem?_eq_getElem (show j<X.length by omega)
     have hSPj:=hSP j hjk
     rw[List.getD_eq_getElem?_getD,hx]at hSPj
     generalize X[j]=sh at hx hSPj
     have hSPj:SP[j]?=some ⟨A+j,(Blk.mk 4 vol (A+j) epoch no sh).sld.1⟩:=hSPj
     have hxp:(z4 X)[0+jj.toNat]?=some [bP sh]:=by rw[hjj,Int.toNat_natCast,Nat.zero_add];exact Q4 hx
     have hwr:IntKind.i64.wrap (A+jj)=A+j:=by rw[y7 _ (by omega) (by omega),hjj]
     have wb:=y5i (Blk.mk 4 vol (IntKind.i64.wrap (A+jj)) epoch no sh)
     rw[← hwr]at hSPj
     have hYl:Y.length≤s*(k+m)+(k+m):=by rw[hY,List.length_append,List.length_take];omega
     have hYc:=y6f Y
     have hY2:o++SP.take (j+1)=Y++[⟨IntKind.i64.wrap (A+jj),(Blk.mk 4 vol (IntKind.i64.wrap (A+jj)) epoch no sh).sld.1⟩]:=by
      rw[List.take_add_one,hSPj,hY,List.append_assoc];rfl
     generalize (Blk.mk 4 vol (IntKind.i64.wrap (A+jj)) epoch no sh).sld=sd at wb hY2
     refine y6 (fun st=>∃ Y',Y'=o++SP.take (j+1)∧st=⟨⟨101,(16,.ref 2 0) :: (21,i64 A) :: (72,.msl 5 1 0 (z4 X).length) :: (73,i64 (z4 X).length) :: (74,i64 jj) :: z3p vol g area epoch no⟩,shJ (.lp q .busy none l) (Y',[.row z0 1 (z4 X)])⟩) (z3 ?_) ?_
     ·refine z8 ⟨⟨101,(16,.ref 2 0) :: (21,i64 A) :: (23,i64 jj) :: (24,bA sh) :: (72,.msl 5 1 0 (z4 X).length) :: (73,i64 (z4 X).length) :: (74,i64 jj) :: z3p vol g area epoch no⟩,shJ (.lp q .busy none l) (Y,[.row z0 1 (z4 X)])⟩ True (q7 hT ?_) (fun _=>?_)
      ·refine⟨⟨by omega,by omega⟩,?_⟩
       refine v7 hxp ?_
       exact⟨V9 3 [0,1,2,3,4,5] [16,21,23,24,72,73,74,6,7,8,9,10,12,13] _ rfl hl rfl rfl rfl,trivial⟩
      refine z8 ⟨⟨101,(16,.ref 2 0) :: (21,i64 A) :: (23,i64 jj) :: (25,bA sd.1) :: (72,.msl 5 1 0 (z4 X).length) :: (73,i64 (z4 X).length) :: (74,i64 jj) :: z3p vol g area epoch no⟩,shJ (.lp q .busy none l) (Y,[.row z0 1 (z4 X)])⟩ True (q7 hT ?_) (fun _=>?_)
      ·refine y9 (w7 wb _ rfl rfl) ?_
       exact⟨V9 3 [0,1,2,3,4,5] [16,21,23,25,72,73,74,6,7,8,9,10,12,13] _ rfl hl rfl rfl rfl,trivial⟩
      refine q7 hT ?_
      refine⟨rfl,⟨by show ((px Y).length+1)*32≤_;omega,by show (px Y).length+1≤_;omega⟩,?_⟩
      refine⟨_,V9 3 [0,1,2,3,7,5] [16,21,72,73,74,6,7,8,9,10,12,13] _ rfl hl rfl rfl rfl,_,hY2.symm,?_⟩
      rw[v8r];rfl
     ·rintro _ ⟨Y',rfl,rfl⟩
      refine q7 hT ?_
      exact⟨n - 1,by omega,_,V9 3 [0,1,2,3,4,5] [16,21,72,73,74,6,7,8,9,10,12,13] _ rfl hl rfl rfl rfl,j+1,IntKind.i64.wrap (jj+1),_,by omega,by rw[y7 _ (by omega) (by omega)];omega,rfl,rfl⟩
    ·have h:=of_decide_eq_false (show decide (jj<(((z4 X).length:Nat):Int))=false from h)
     rw[List.take_of_length_le (by omega),← hO1]at hY
     rw[hY]
     refine x9 ?_
     exact⟨(o1,[]),⟨101,[]⟩,rfl,V9 3 [0,1,2,3,4] [] _ rfl hl rfl rfl rfl⟩
   ·rintro r H' (⟨hr,a',rfl,hH⟩|⟨hr,c,z,h3,hH⟩)
    ·exact⟨hr,hH⟩
    ·exact h3.elim
  ·rintro r H' rfl
   exact .inl ⟨_,rfl,rfl⟩
 ·rintro _ rfl
  refine q8 (q7 hT ?_)
  refine Q1 (U8 4 0 0 _ rfl rfl rfl rfl) ?_
  refine y5 ?_
  exact z9 [] ⟨(O S,0),eZ.symm,rfl,rfl⟩ rfl
 ·intro _ _ h;exact h.elim
end Go.Proofs.YtinfbclgkghgaaaGreat.AL
namespace Go.Proofs.YtinfbclgkghgaaaGreat.AL
open Go Go.Proofs
def q1v (vol at_ no:Int)(i:Nat)(s:z7):z7:=match (U3 s).2==0&&(U3 s).1.kind==4&&(U3 s).1.vol==vol&&(U3 s).1.addr==at_+i&&(U3 s).1.seq==no&&((U3 s).1.body.length:Int)==228 with
 |true=>(U3 s).1.body
 |false=>[]
def q4g (vol at_ no:Int)(l:List z7):List z7:=(List.range l.length).map fun i=>q1v vol at_ no i (l.getD i [])
def J1 (l:List z7)(vol:Int)(g:GeoV)(area stripe no:Int):List z7 × Int:=match (W5 g area stripe).2 != 0||!U5 [vol,no]||!((l.length:Int)==g.k+g.m) with
 |true=>([],1)
 |false=>match (q7x (q4g vol (W5 g area stripe).1 no l) g.k.toNat g.m.toNat 228).2 != 0 with
  |true=>([],22)
  |false=>((q7x (q4g vol (W5 g area stripe).1 no l) g.k.toNat g.m.toNat 228).1,0)
def z0b (f:Nat→z7)(n k:Nat):List z7:=(List.range n).map fun i=>if i<k then f i else []
theorem q8q (f:Nat→z7)(n k:Nat):(z0b f n k).length=n:=by unfold z0b;rw[List.length_map,List.length_range]
theorem z1s {f:Nat→z7}{n k i:Nat}(h:i<n):(z0b f n k)[i]?=some (if i<k then f i else []):=by
 unfold z0b;rw[List.getElem?_map,List.getElem?_range h];rfl
theorem v6g {f:Nat→z7}{n k:Nat}(h:k<n):(z4 (z0b f n k)).set k [bP (f k)]=z4 (z0b f n (k+1)):=by
 refine List.ext_getElem? fun j=>?_
 rw[List.getElem?_set,Q2,q8q]
 by_cases hj:j<n
 ·by_cases e:k=j
  ·subst e
   rw[if_pos rfl,if_pos h,Q4 (z1s h),if_pos (by omega)]
  ·rw[if_neg e,Q4 (z1s hj),Q4 (z1s hj)]
   by_cases h2:j<k
   ·rw[if_pos h2,if_pos (by omega)]
   ·rw[if_neg h2,if_neg (by omega)]
 ·rw[if_neg (by omega),List.getElem?_eq_none (by rw[Q2,q8q];omega),List.getElem?_eq_none (by rw[Q2,q8q];omega)]
theorem v0q {f:Nat→z7}{n k:Nat}(h:f k=[]):z0b f n (k+1)=z0b f n k:=by
 unfold z0b
 refine List.map_congr_left fun i _=>?_
 by_cases e:i=k
 ·subst e;rw[if_pos (by omega),if_neg (by omega),h]
 ·by_cases h2:i<k
  ·rw[if_pos (by omega),if_pos h2]
  ·rw[if_neg (by omega),if_neg h2]
theorem v0r (f:Nat→z7)(n:Nat):z4 (z0b f n 0)=List.replicate n [bP []]:=by
 refine List.ext_getElem? fun j=>?_
 rw[List.getElem?_replicate]
 by_cases hj:j<n
 ·rw[Q4 (z1s hj),if_neg (by omega),if_pos hj]
 ·rw[List.getElem?_eq_none (by rw[Q2,q8q];omega),if_neg hj]
theorem v6h (f:Nat→z7)(n:Nat):z0b f n n=(List.range n).map f:=by
 unfold z0b
 refine List.map_congr_left fun i hi=>?_
 rw[if_pos (List.mem_range.mp hi)]
theorem x0p (vol at_ no:Int)(l:List z7):(q4g vol at_ no l).length=l.length:=by unfold q4g;rw[List.length_map,List.length_range]
theorem x0q (vol at_ no:Int)(i:Nat)(s:z7):(q1v vol at_ no i s).length=0∨(q1v vol at_ no i s).length=228:=by
 unfold q1v
 split
 ·rename_i h
  simp only[Bool.and_eq_true,beq_iff_eq]at h
  right;omega
 ·exact .inl rfl
set_option maxHeartbeats 4000000 in
set_option maxRecDepth 20000 in
theorem w0w (l:List z7)(vol:Int)(g:GeoV)(area stripe no:Int)(hk4:g.k≤4)(hm3:g.m≤3)(hll:l.length≤1000000)(hls:∀ s∈l,s.length≤1000000) :
 AF Tryz.prog y6x [.p (.sl 1 (z4 l)),i64 vol,g.av,i64 area,i64 stripe,i64 no] [] (v9 (.tup [.p (.sl 1 (z4 (J1 l vol g area stripe no).1)),i64 (J1 l vol g area stripe no).2]) []):=by
 refine AF.mono (R:=fun r H'=>∃ z,z=J1 l vol g area stripe no∧r=.tup [.p (.sl 1 (z4 z.1)),i64 z.2]∧H'=[]) ?_ (by rintro r H' ⟨z,rfl,rfl,rfl⟩;exact⟨rfl,rfl⟩)
 have hcl:=Q2 l
 have wF:=q4s g area stripe
 have wW:=z9j [vol,no] (by show 2≤64;decide)
 have eZ:J1 l vol g area stripe no=match (W5 g area stripe).2 != 0||!U5 [vol,no]||!((l.length:Int)==g.k+g.m) with
  |true=>([],1)
  |false=>match (q7x (q4g vol (W5 g area stripe).1 no l) g.k.toNat g.m.toNat 228).2 != 0 with
   |true=>([],22)
   |false=>((q7x (q4g vol (W5 g area stripe).1 no l) g.k.toNat g.m.toNat 228).1,0):=rfl
 generalize J1 l vol g area stripe no=Z at eZ
 have hfe:(W5 g area stripe).2=0→W6 g area stripe:=fun h=>by
  by_cases hf:W6 g area stripe
  ·exact hf
  ·rw[q5h hf]at h;exact absurd h (by decide)
 generalize hF:W5 g area stripe=F at wF eZ hfe
 refine v8 hT y6y rfl rfl y6z rfl ?_
 refine z8 ⟨⟨112,[(0,.p (.sl 1 (z4 l))),(1,i64 vol),(3,i64 area),(4,i64 stripe),(5,i64 no),(8,.p (.box g.pv))]⟩,[]⟩ True (q7 hT ?_) (fun _=>?_)
 ·exact⟨Wk.trans (Q3 0 g.pv rfl rfl) (q9 [] [0,1,3,4,5,8] rfl),trivial⟩
 refine z8 ⟨⟨112,[(0,.p (.sl 1 (z4 l))),(1,i64 vol),(5,i64 no),(8,.p (.box g.pv)),(14,i64 F.1),(15,i64 F.2)]⟩,[]⟩ True (q7 hT ?_) (fun _=>?_)
 ·refine y9 (w7 wF _ rfl rfl) ?_
  exact⟨q9 [] [0,1,5,8,14,15] rfl,trivial⟩
 refine z8 ⟨⟨112,[(0,.p (.sl 1 (z4 l))),(1,i64 vol),(5,i64 no),(8,.p (.box g.pv)),(14,i64 F.1)]⟩,[]⟩ (F.2=0∧U5 [vol,no]=true∧(l.length:Int)=g.k+g.m) ?_ ?_
 ·refine y6 (fun st=>∃ v,(v=true→Z=([],1))∧(v=false→F.2=0∧U5 [vol,no]=true∧(l.length:Int)=IntKind.i64.wrap (g.k+g.m))∧st=⟨⟨112,[(0,.p (.sl 1 (z4 l))),(1,i64 vol),(5,i64 no),(8,.p (.box g.pv)),(14,i64 F.1),(47,bl v)]⟩,[]⟩) (W4 (fun k=>Nat.beq 5 k) hT ?_) ?_
  ·refine y4 (fun h=>?_) (fun h=>?_)
   ·have h:(F.2 != 0)=true:=h
    rw[h]at eZ
    exact⟨_,q9 [] [0,1,5,8,14,47] rfl,true,fun _=>eZ,fun e=>(by cases e),rfl⟩
   have h0:(F.2 != 0)=false:=h
   rw[h0]at eZ
   refine⟨⟨rfl,rfl⟩,?_⟩
   refine y9 (w7 wW _ rfl rfl) ?_
   refine y4 (fun h=>?_) (fun h=>?_)
   ·have h:(!U5 [vol,no])=true:=h
    rw[h]at eZ
    exact⟨_,q9 [] [0,1,5,8,14,47] rfl,true,fun _=>eZ,fun e=>(by cases e),rfl⟩
   have h1:(!U5 [vol,no])=false:=h
   rw[h1]at eZ
   have hok:=hfe (by simpa using h0)
   obtain⟨_,_,_,_,h5,h6,h7,h8⟩:=U2 (J5 hok.1)
   have hwr:IntKind.i64.wrap (g.k+g.m)=g.k+g.m:=y7 _ (by omega) (by omega)
   refine⟨_,q9 [] [0,1,5,8,14,47] rfl,(((z4 l).length:Int) != IntKind.i64.wrap (g.k+g.m)),fun e=>?_,fun e=>?_,rfl⟩
   ·rw[hcl,hwr]at e
    rw[eZ,show (!((l.length:Int)==g.k+g.m))=true from e];rfl
   ·rw[hcl,hwr]at e
    exact⟨by simpa using h0,by simpa using h1,by rw[hwr];simpa using e⟩
  ·rintro _ ⟨v,hv1,hv2,rfl⟩
   refine z2 (y4 (fun h=>?_) (fun h=>?_))
   ·refine q8 (q7 hT ?_)
    refine Q1 (q2t 12 1 rfl) ?_
    refine y5 ?_
    exact z9 [] ⟨([],1),(hv1 h).symm,rfl,rfl⟩ rfl
   ·obtain⟨c1,c2,c3⟩:=hv2 h
    have hok:=hfe c1
    obtain⟨_,_,_,_,h5,h6,h7,h8⟩:=U2 (J5 hok.1)
    rw[y7 _ (by omega) (by omega)]at c3
    exact z5 ⟨q9 [] [0,1,5,8,14] rfl,c1,c2,c3⟩
 rintro⟨c1,c2,c3⟩
 have hok:=hfe c1
 obtain⟨hg,a0,a1,s0,s1⟩:=hok
 obtain⟨h1,h2,h3,h4,h5,h6,h7,h8⟩:=U2 (J5 hg)
 rw[c1,c2,show ((l.length:Int)==g.k+g.m)=true from beq_iff_eq.mpr c3]at eZ
 obtain⟨A,hA⟩:∃ A,A=F.1:=⟨_,rfl⟩
 rw[← hA]at eZ
 have hAr:=w0v hg a0 a1 s0 s1
 have hAF:A=g.at_ area stripe:=by rw[hA,← hF,q1m ⟨hg,a0,a1,s0,s1⟩]
 rw[← hAF]at hAr
 rw[← hA]
 obtain⟨k,hk⟩:∃ n:Nat,g.k=n:=⟨g.k.toNat,by omega⟩
 obtain⟨m,hm⟩:∃ n:Nat,g.m=n:=⟨g.m.toNat,by omega⟩
 rw[hk,hm,Int.toNat_natCast,Int.toNat_natCast]at eZ
 have hlk:l.length=k+m:=by omega
 have eZ:Z=match (q7x (q4g vol A no l) k m 228).2 != 0 with
  |true=>([],22)
  |false=>((q7x (q4g vol A no l) k m 228).1,0):=eZ
 have hLl:=x0p vol A no l
 have hL:q4g vol A no l=z0b (fun i=>q1v vol A no i (l.getD i [])) l.length l.length:=by rw[v6h];rfl
 have hLs:∀ s∈q4g vol A no l,s.length=0∨s.length=228:=fun s hs=>by
  unfold q4g at hs
  rw[List.mem_map]at hs
  obtain⟨i,_,rfl⟩:=hs
  exact x0q _ _ _ _ _
 have wD:=v0c (q4g vol A no l) k m 228 (by omega) (by omega) (by omega) (by omega) (by decide) (by decide) (by omega) hLs (fun h=>u7v (by omega) h)
 generalize q7x (q4g vol A no l) k m 228=D at eZ wD
 generalize hLe:q4g vol A no l=LB at hL wD
 have hfd:∀ i s,l[i]?=some s→q1v vol A no i (l.getD i [])=q1v vol A no i s:=fun i s h=>by rw[List.getD_eq_getElem?_getD,h];rfl
 generalize hf:(fun i=>q1v vol A no i (l.getD i []))=f at hL
 have hfd:∀ i s,l[i]?=some s→f i=q1v vol A no i s:=fun i s h=>by rw[← hf];exact hfd i s h
 have hz:=v0r f l.length
 clear wF wW hfe hF c1 c2 c3 hLs hf hLe
 rw[← hk]at wD
 refine y6 (fun st=>∃ X n,X=z4 (z0b f l.length 0)∧n=l.length∧st=⟨⟨112,[(0,.p (.sl 1 (z4 l))),(1,i64 vol),(5,i64 no),(8,.p (.box g.pv)),(14,i64 A),(16,.msl 0 1 0 n)]⟩,[.row z0 1 X]⟩) (q7 hT ?_) ?_
 ·refine⟨⟨rfl,by omega,by show (((z4 l).length:Nat):Int)*24≤_;omega,by omega⟩,?_⟩
  refine⟨_,Wk.trans (v3b 0 (List.replicate (z4 l).length [bP []]) rfl (by simp) ?_) (q9 [0] [0,1,5,8,14,16] rfl),_,(z4 l).length,by rw[hz,hcl],hcl,rfl⟩
  intro j e2 he
  rw[List.getElem?_replicate]at he
  split at he
  ·rename_i hj
   obtain rfl:=Option.some.inj he
   refine⟨[.raw (.slice none 0 0)],by
    show (List.replicate _ _)[j]?=_
    rw[List.getElem?_replicate,if_pos (by simpa using hj)];rfl,rfl,fun i u2 hu=>?_⟩
   cases i with
   |zero=>obtain rfl:=Option.some.inj hu;exact⟨_,rfl,.inr ⟨1,rfl,rfl⟩⟩
   |succ i=>simp at hu
  ·cases he
 rintro _ ⟨X,n,hX,hn,rfl⟩
 refine y6 (fun st=>∃ X,X=z4 LB∧st=⟨⟨112,[(8,.p (.box g.pv)),(16,.msl 0 1 0 n)]⟩,[.row z0 1 X]⟩) (q8 (q7 hT ?_)) ?_
 ·refine z3 ?_
  refine y8 (fun c s=>∃ (j:Nat) (jj:Int) (X:_),c+j=n∧jj=j∧X=z4 (z0b f l.length j)∧s=⟨⟨112,[(1,i64 vol),(5,i64 no),(8,.p (.box g.pv)),(14,i64 A),(16,.msl 0 1 0 n),(51,.p (.sl 1 (z4 l))),(52,i64 (z4 l).length),(53,i64 jj)]⟩,[.row z0 1 X]⟩) n ⟨⟨112,_⟩,_⟩ (q9 [0] [1,5,8,14,16,51,52,53] rfl) ⟨0,0,X,by omega,rfl,hX,rfl⟩ ?_
  clear hX hz
  rintro c s ⟨j,jj,X,hcj,hjj,hX,rfl⟩
  refine q8 (q7 hT ?_)
  refine q8 (z2 (y4 (fun h=>?_) (fun h=>?_)))
  ·have h:=of_decide_eq_true (show decide (jj<(((z4 l).length:Nat):Int))=true from h)
   have hj:j<l.length:=by omega
   refine z5 ?_
   have hx:=List.getElem?_eq_getElem hj
   have hsl:=hls _ (List.getElem_mem hj)
   generalize l[j]=sec at hx hsl
   have hfj:=hfd j sec hx
   have hxp:(z4 l)[jj.toNat]?=some [bP sec]:=by rw[hjj,Int.toNat_natCast];exact Q4 hx
   have wO:=w3z sec hsl
   have hkf:q1v vol A no j sec=match (U3 sec).2==0&&(U3 sec).1.kind==4&&(U3 sec).1.vol==vol&&(U3 sec).1.addr==A+j&&(U3 sec).1.seq==no&&((U3 sec).1.body.length:Int)==228 with
    |true=>(U3 sec).1.body
    |false=>[]:=rfl
   rw[← hfj]at hkf
   generalize U3 sec=OB at wO hkf
   obtain⟨ob,oe⟩:=OB
   have hbl:=w9 ob.body
   have hXl:X.length=l.length:=by rw[hX,Q2,q8q]
   have hXg:X[0+jj.toNat]?=some [bP []]:=by
    rw[show 0+jj.toNat=j by omega,hX,Q4 (z1s hj),if_neg (by omega)]
   have hset:X.set (0+jj.toNat) [bP (f j)]=z4 (z0b f l.length (j+1)):=by
    rw[show 0+jj.toNat=j by omega,hX];exact v6g hj
   have hskip:f j=[]→X=z4 (z0b f l.length (j+1)):=fun e=>by rw[v0q e,hX]
   have hwr:IntKind.i64.wrap (A+jj)=A+j:=by rw[y7 _ (by omega) (by omega),hjj]
   refine y6 (fun st=>∃ X,X=z4 (z0b f l.length (j+1))∧st=⟨⟨112,[(1,i64 vol),(5,i64 no),(8,.p (.box g.pv)),(14,i64 A),(16,.msl 0 1 0 n),(51,.p (.sl 1 (z4 l))),(52,i64 (z4 l).length),(53,i64 jj)]⟩,[.row z0 1 X]⟩) (z3 ?_) ?_
   ·refine z8 ⟨⟨112,[(1,i64 vol),(5,i64 no),(8,.p (.box g.pv)),(14,i64 A),(16,.msl 0 1 0 n),(17,i64 jj),(18,bA sec),(51,.p (.sl 1 (z4 l))),(52,i64 (z4 l).length),(53,i64 jj)]⟩,[.row z0 1 X]⟩ True (q7 hT ?_) (fun _=>?_)
    ·refine⟨by omega,v7 hxp ?_⟩
     exact⟨q9 [0] [1,5,8,14,16,17,18,51,52,53] rfl,trivial⟩
    refine z8 ⟨⟨112,[(1,i64 vol),(5,i64 no),(8,.p (.box g.pv)),(14,i64 A),(16,.msl 0 1 0 n),(17,i64 jj),(19,.p (.box ob.pv)),(20,i64 oe),(51,.p (.sl 1 (z4 l))),(52,i64 (z4 l).length),(53,i64 jj)]⟩,[.row z0 1 X]⟩ True (q7 hT ?_) (fun _=>?_)
    ·refine y9 (w7 wO _ rfl rfl) ?_
     exact⟨Wk.trans (Q3 1 ob.pv rfl rfl) (q9 [0] [1,5,8,14,16,17,19,20,51,52,53] rfl),trivial⟩
    refine y6 (fun st=>∃ v,v=(oe==0&&ob.kind==4&&ob.vol==vol&&ob.addr==A+j&&ob.seq==no&&(ob.body.length:Int)==228)∧st=⟨⟨112,[(1,i64 vol),(5,i64 no),(8,.p (.box g.pv)),(14,i64 A),(16,.msl 0 1 0 n),(17,i64 jj),(19,.p (.box ob.pv)),(51,.p (.sl 1 (z4 l))),(52,i64 (z4 l).length),(53,i64 jj),(95,bl v)]⟩,[.row z0 1 X]⟩) (q7 hT ?_) ?_
    ·rw[← hwr,← hbl]
     refine y4 (fun h=>?_) (fun h=>?_)
     ·rw[show (oe==0)=true from h]
      refine y4 (fun h=>?_) (fun h=>?_)
      ·rw[show (ob.kind==4)=true from h]
       refine y4 (fun h=>?_) (fun h=>?_)
       ·rw[show (ob.vol==vol)=true from h]
        refine y4 (fun h=>?_) (fun h=>?_)
        ·rw[show (ob.addr==IntKind.i64.wrap (A+jj))=true from h]
         refine y4 (fun h=>?_) (fun h=>?_)
         ·rw[show (ob.seq==no)=true from h]
          exact⟨_,q9 [0] [1,5,8,14,16,17,19,51,52,53,95] rfl,_,rfl,rfl⟩
         ·rw[show (ob.seq==no)=false from h]
          exact⟨_,q9 [0] [1,5,8,14,16,17,19,51,52,53,95] rfl,_,rfl,rfl⟩
        ·rw[show (ob.addr==IntKind.i64.wrap (A+jj))=false from h]
         exact⟨_,q9 [0] [1,5,8,14,16,17,19,51,52,53,95] rfl,_,rfl,rfl⟩
       ·rw[show (ob.vol==vol)=false from h]
        exact⟨_,q9 [0] [1,5,8,14,16,17,19,51,52,53,95] rfl,_,rfl,rfl⟩
      ·rw[show (ob.kind==4)=false from h]
       exact⟨_,q9 [0] [1,5,8,14,16,17,19,51,52,53,95] rfl,_,rfl,rfl⟩
     ·rw[show (oe==0)=false from h]
      exact⟨_,q9 [0] [1,5,8,14,16,17,19,51,52,53,95] rfl,_,rfl,rfl⟩
    rintro _ ⟨v,hv,rfl⟩
    have hkf:f j=match (generalizing:=false) v with|true=>ob.body|false=>[]:=by rw[hv];exact hkf
    clear hv
    refine z2 (y4 (fun h=>?_) (fun h=>?_))
    ·have h:v=true:=h
     rw[h]at hkf
     rw[show f j=ob.body from hkf]at hset
     refine q7 hT ?_
     refine⟨⟨by omega,by omega⟩,?_⟩
     refine v7 hXg ?_
     exact⟨_,q9 [0] [1,5,8,14,16,51,52,53] rfl,_,hset,rfl⟩
    ·have h:v=false:=h
     rw[h]at hkf
     exact z5 ⟨_,q9 [0] [1,5,8,14,16,51,52,53] rfl,X,hskip hkf,rfl⟩
   ·rintro _ ⟨X,rfl,rfl⟩
    refine q7 hT ?_
    exact⟨c - 1,by omega,_,q9 [0] [1,5,8,14,16,51,52,53] rfl,j+1,IntKind.i64.wrap (jj+1),_,by omega,by rw[y7 _ (by omega) (by omega)];omega,rfl,rfl⟩
  ·have h:=of_decide_eq_false (show decide (jj<(((z4 l).length:Nat):Int))=false from h)
   rw[show j=l.length by omega,← hL]at hX
   refine x9 ?_
   exact⟨_,q9 [0] [8,16] rfl,X,hX,rfl⟩
 rintro _ ⟨X,rfl,rfl⟩
 have hLc:=Q2 LB
 have hLl2:LB.length=n:=by rw[hL,q8q,hn]
 refine Q1 (V3 16 0 n rfl (by omega) rfl rfl) ?_
 refine z8 ⟨⟨112,[(15,i64 D.2),(21,.p (.sl 1 (z4 D.1)))]⟩,[]⟩ True (q7 hT ?_) (fun _=>?_)
 ·refine y9 (w7 wD _ rfl rfl) ?_
  exact⟨q9 [] [15,21] rfl,trivial⟩
 refine q8 (q8 (q7 hT ?_))
 refine z2 (y4 (fun h=>?_) (fun h=>?_))
 ·have h:(D.2 != 0)=true:=h
  rw[h]at eZ
  refine q8 (q7 hT ?_)
  refine Q1 (q2t 12 1 rfl) ?_
  refine y5 ?_
  exact z9 [] ⟨([],22),eZ.symm,rfl,rfl⟩ rfl
 ·have h:(D.2 != 0)=false:=h
  rw[h]at eZ
  refine z5 ?_
  refine q8 (q7 hT ?_)
  refine y5 ?_
  exact z9 [] ⟨(D.1,0),eZ.symm,rfl,rfl⟩ rfl
end Go.Proofs.YtinfbclgkghgaaaGreat.AL
namespace Go.Proofs.YtinfbclgkghgaaaGreat.AL
open Go Go.Proofs
def Dev.snapWrite (D:Dev)(vol:Int)(g:GeoV)(area epoch no:Int)(b:z7):Int × Dev:=match (putsB vol g area epoch no b).2 != 0 with
 |true=>((putsB vol g area epoch no b).2,D)
 |false=>D.all9 (putsB vol g area epoch no b).1
theorem x0r {vol:Int}{g:GeoV}{area epoch no:Int}{b:z7}(hk4:g.k≤4)(hm3:g.m≤3):(putsB vol g area epoch no b).1.length≤224:=by
 unfold putsB
 split
 ·exact Nat.zero_le _
 ·rename_i h
  split
  ·exact Nat.zero_le _
  ·have hf:W6 g area 0:=by
    by_cases hf:W6 g area 0
    ·exact hf
    ·rw[q5h hf]at h;exact absurd h (by simp)
   obtain⟨h1,h2,h3,h4,h5,h6,h7,h8⟩:=U2 (J5 hf.1)
   show (q0r _ _ _ _ _ _ _ _ _).length≤_
   rw[q2e]
   exact Nat.le_trans (Nat.mul_le_mul (show g.s.toNat≤32 by omega) (show g.k.toNat+g.m.toNat≤7 by omega)) (by decide)
set_option maxRecDepth 20000 in
theorem w4s (D:Dev)(vol:Int)(g:GeoV)(area epoch no:Int)(b:z7)(hk4:g.k≤4)(hm3:g.m≤3)(hb:b.length≤1000000)(n:Nat)(hD:D.Ok n)(hn:n+1000<1000000) :
 AFm Tryz.prog 1 x2t [.ref 0 0,i64 vol,g.av,i64 area,i64 epoch,i64 no,bA b] (Y4 D) (v9 (i64 (D.snapWrite vol g area epoch no b).1) (Y4 (D.snapWrite vol g area epoch no b).2)):=by
 refine AFm.mono (R:=fun r H'=>∃ z,z=D.snapWrite vol g area epoch no b∧r=i64 z.1∧H'=Y4 z.2) ?_ (by rintro r H' ⟨z,rfl,rfl,rfl⟩;exact⟨rfl,rfl⟩)
 have wP:=x0n vol g area epoch no b hk4 hm3 hb
 have eZ:D.snapWrite vol g area epoch no b=match (putsB vol g area epoch no b).2 != 0 with
  |true=>((putsB vol g area epoch no b).2,D)
  |false=>D.all9 (putsB vol g area epoch no b).1:=rfl
 have hlen:=x0r (vol:=vol) (g:=g) (area:=area) (epoch:=epoch) (no:=no) (b:=b) hk4 hm3
 generalize D.snapWrite vol g area epoch no b=Z at eZ
 generalize putsB vol g area epoch no b=F at wP eZ hlen
 refine Q5 1 hT x2u rfl rfl x2v rfl rfl ?_
 refine q8 (q7 hT ?_)
 refine Q1 (Q3 3 g.pv rfl rfl) ?_
 refine z8 ⟨⟨33,[(0,.ref 0 0),(15,.p (.sl 2 (px F.1))),(16,i64 F.2)]⟩,Y4 D⟩ True (q7 hT ?_) (fun _=>?_)
 ·refine y9 (w7 wP _ rfl rfl) ?_
  exact⟨q9 [0,1,2] [0,15,16] rfl,trivial⟩
 refine q8 (q8 (q7 hT ?_))
 refine z2 (y4 (fun h=>?_) (fun h=>?_))
 ·have h:(F.2 != 0)=true:=h
  rw[h]at eZ
  refine q8 (q7 hT ?_)
  refine y5 ?_
  exact z9 [0,1,2] ⟨_,eZ.symm,rfl,rfl⟩ rfl
 ·have h:(F.2 != 0)=false:=h
  rw[h]at eZ
  refine z5 ?_
  have wA:=v6d D F.1 n hD (by omega)
  refine q8 (q7 hT ?_)
  refine y9 (u6 [0,1,2] wA rfl rfl rfl) ?_
  refine y5 ?_
  exact z9 [0,3,4] ⟨_,eZ.symm,rfl,rfl⟩ rfl
theorem v0s {S:List z7}{k m c:Nat}(_hkm:k+m≤256)(hl:S.length=k+m)(hS:∀ s∈S,s.length=0∨s.length=c)(hg:(X2 S k (k+m)).length=k):(q5f S k m c).length=k∧∀ s∈q5f S k m c,s.length=c:=by
 have hbl:=x4k (S:=S) (m:=m) hg
 have hil:(z9h (byB S k m)).length=k:=(y5w _).trans hbl
 have hOl:(ofB S k m).length=k:=by unfold ofB;rw[List.length_map,hg]
 have hOr:∀ s∈ofB S k m,s.length=c:=fun s hs=>by
  unfold ofB at hs
  rw[List.mem_map]at hs
  obtain⟨i,hi,rfl⟩:=hs
  obtain⟨hi2,hi3⟩:=q3j S k (k+m) i hi
  have hm2:S.getD i []∈S:=by
   rw[List.getD_eq_getElem?_getD,List.getElem?_eq_getElem (show i<S.length by omega)]
   exact List.getElem_mem _
  have:=hS _ hm2
  omega
 refine⟨by unfold q5f;rw[List.length_map,hil],fun s hs=>?_⟩
 unfold q5f at hs
 rw[List.mem_map]at hs
 obtain⟨a,_,rfl⟩:=hs
 exact Q9 a hOr (by omega)
theorem v6i {S:List z7}{k m c:Nat}(hkm:k+m≤256)(hl:S.length=k+m)(hS:∀ s∈S,s.length=0∨s.length=c)(h:(q7x S k m c).2=0):(q7x S k m c).1.length=k+m∧∀ s∈(q7x S k m c).1.take k,s.length=c:=by
 unfold q7x at h ⊢
 cases e:decide ((X2 S k (k+m)).length<k) with
 |true=>rw[e]at h;exact absurd (show (9:Int)=0 from h) (by decide)
 |false=>
  have e:=of_decide_eq_false e
  have h2:=(q8k S k (k+m)).2
  obtain⟨a,b⟩:=v0s hkm hl hS (show (X2 S k (k+m)).length=k by omega)
  refine⟨by show (q5f S k m c++q4b (q5f S k m c) m c).length=_;rw[List.length_append,q8n,a],fun s hs=>b s ?_⟩
  have hs:s∈(q5f S k m c++q4b (q5f S k m c) m c).take k:=hs
  rwa [List.take_left' a]at hs
theorem y0e {l:List z7}{vol:Int}{g:GeoV}{area stripe no:Int}(h:(J1 l vol g area stripe no).2=0):(J1 l vol g area stripe no).1.length=g.k.toNat+g.m.toNat∧∀ s∈(J1 l vol g area stripe no).1.take g.k.toNat,s.length=228:=by
 unfold J1 at h ⊢
 cases e:(W5 g area stripe).2 != 0||!U5 [vol,no]||!((l.length:Int)==g.k+g.m) with
 |true=>rw[e]at h;exact absurd (show (1:Int)=0 from h) (by decide)
 |false=>
  rw[e]at h
  simp only[Bool.or_eq_false_iff,Bool.not_eq_false']at e
  have hf:W6 g area stripe:=by
   by_cases hf:W6 g area stripe
   ·exact hf
   ·rw[q5h hf]at e;exact absurd e.1.1 (by decide)
  obtain⟨h1,h2,h3,h4,h5,h6,h7,h8⟩:=U2 (J5 hf.1)
  have hl:l.length=g.k.toNat+g.m.toNat:=by
   have:=eq_of_beq e.2
   omega
  cases e2:(q7x (q4g vol (W5 g area stripe).1 no l) g.k.toNat g.m.toNat 228).2 != 0 with
  |true=>rw[e2]at h;exact absurd (show (22:Int)=0 from h) (by decide)
  |false=>
   refine v6i (by omega) (by rw[x0p];exact hl) (fun s hs=>?_) (by simpa using e2)
   unfold q4g at hs
   rw[List.mem_map]at hs
   obtain⟨i,_,rfl⟩:=hs
   exact x0q _ _ _ _ _
def Dev.reads (D:Dev)(A:Int):Nat→List z7 × Dev
 |0=>([],D)
 |i+1=>((D.reads A i).1++[((D.reads A i).2.read (A+i)).1.1],((D.reads A i).2.read (A+i)).2)
theorem z1t {D:Dev}{b:Nat}(h:D.Ok b)(A:Int):∀ k,(D.reads A k).2.Ok b
 |0=>h
 |k+1=>(z1t h A k).read _
theorem z2z (D:Dev)(A:Int):∀ k,(D.reads A k).1.length=k
 |0=>rfl
 |k+1=>by show ((D.reads A k).1++[_]).length=_;rw[List.length_append,z2z D A k];rfl
theorem y0f {D:Dev}{b:Nat}(h:D.Ok b)(A:Int):∀ k,∀ s∈(D.reads A k).1,s.length≤256
 |0,s,hs=>by simp[Dev.reads]at hs
 |k+1,s,hs=>by
  have hs:s∈(D.reads A k).1++[((D.reads A k).2.read (A+k)).1.1]:=hs
  rw[List.mem_append,List.mem_singleton]at hs
  rcases hs with hs|rfl
  ·exact y0f h A k s hs
  ·exact v0m (z1t h A k) _
abbrev y6h:Type:=z7 × Int × Dev
def q1w (vol:Int)(g:GeoV)(area no:Int)(s:Nat)(X:y6h):y6h:=match X.2.1 != 0 with
 |true=>X
 |false=>match (J1 (X.2.2.reads (g.at_ area s) (g.k.toNat+g.m.toNat)).1 vol g area s no).2 != 0 with
  |true=>([],(J1 (X.2.2.reads (g.at_ area s) (g.k.toNat+g.m.toNat)).1 vol g area s no).2,(X.2.2.reads (g.at_ area s) (g.k.toNat+g.m.toNat)).2)
  |false=>(X.1++((J1 (X.2.2.reads (g.at_ area s) (g.k.toNat+g.m.toNat)).1 vol g area s no).1.take g.k.toNat).flatten,0,(X.2.2.reads (g.at_ area s) (g.k.toNat+g.m.toNat)).2)
def Dev.snapN (D:Dev)(vol:Int)(g:GeoV)(area no:Int):Nat→y6h
 |0=>([],0,D)
 |s+1=>q1w vol g area no s (D.snapN vol g area no s)
def Dev.snapRead (D:Dev)(vol:Int)(g:GeoV)(area no long:Int):(z7 × Int) × Dev:=match (W5 g area 0).2 != 0||!U5 [vol,no]||(decide (long<0)||decide (long > g.room)) with
 |true=>(([],1),D)
 |false=>match D.dead with
  |true=>(([],21),D)
  |false=>match (D.snapN vol g area no g.s.toNat).2.1 != 0 with
   |true=>(([],(D.snapN vol g area no g.s.toNat).2.1),(D.snapN vol g area no g.s.toNat).2.2)
   |false=>(((D.snapN vol g area no g.s.toNat).1.take long.toNat,0),(D.snapN vol g area no g.s.toNat).2.2)
theorem x0s {D:Dev}{vol:Int}{g:GeoV}{area no:Int}{s:Nat}(h:((D.snapN vol g area no s).2.1 != 0)=true):∀ j,D.snapN vol g area no (s+j)=D.snapN vol g area no s
 |0=>rfl
 |j+1=>by
  show q1w vol g area no (s+j) (D.snapN vol g area no (s+j))=_
  rw[x0s h j]
  unfold q1w
  rw[h]
theorem w0x {D:Dev}{b:Nat}(h:D.Ok b)(vol:Int)(g:GeoV)(area no:Int):∀ s,(D.snapN vol g area no s).2.2.Ok b
 |0=>h
 |s+1=>by
  have ih:=w0x h vol g area no s
  show (q1w vol g area no s _).2.2.Ok b
  unfold q1w
  split
  ·exact ih
  ·split
   ·exact z1t ih _ _
   ·exact z1t ih _ _
theorem w0y {n:Nat}:∀ {l:List z7},(∀ s∈l,s.length=n)→l.flatten.length=l.length*n
 |[],_=>by simp
 |s :: r,h=>by
  rw[List.flatten_cons,List.length_append,h s (List.mem_cons_self ..),w0y (n:=n) (l:=r) fun x hx=>h x (List.mem_cons_of_mem _ hx),List.length_cons,Nat.succ_mul]
  omega
theorem z9m {D:Dev}{vol:Int}{g:GeoV}{area no:Int}:∀ s,(D.snapN vol g area no s).2.1=0→(D.snapN vol g area no s).1.length=s*g.k.toNat*228
 |0,_=>by simp[Dev.snapN]
 |s+1,h=>by
  have h:(q1w vol g area no s (D.snapN vol g area no s)).2.1=0:=h
  show (q1w vol g area no s _).1.length=_
  unfold q1w at h ⊢
  cases e:(D.snapN vol g area no s).2.1 != 0 with
  |true=>
   rw[e]at h
   have h:(D.snapN vol g area no s).2.1=0:=h
   rw[h]at e
   exact absurd e (by decide)
  |false=>
   rw[e]at h
   have ih:=z9m s (by simpa using e)
   cases e2:(J1 ((D.snapN vol g area no s).2.2.reads (g.at_ area s) (g.k.toNat+g.m.toNat)).1 vol g area s no).2 != 0 with
   |true=>
    rw[e2]at h
    have h:(J1 ((D.snapN vol g area no s).2.2.reads (g.at_ area s) (g.k.toNat+g.m.toNat)).1 vol g area s no).2=0:=h
    rw[h]at e2
    exact absurd e2 (by decide)
   |false=>
    obtain⟨a,b⟩:=y0e (by simpa using e2)
    show ((D.snapN vol g area no s).1++List.flatten _).length=_
    rw[List.length_append,ih,w0y b,List.length_take,a,Nat.min_eq_left (by omega),Nat.add_mul,Nat.add_mul,Nat.one_mul]
end Go.Proofs.YtinfbclgkghgaaaGreat.AL
namespace Go.Proofs.YtinfbclgkghgaaaGreat.AL
open Go Go.Proofs
set_option maxHeartbeats 4000000 in
set_option maxRecDepth 20000 in
theorem x0t (D:Dev)(vol:Int)(g:GeoV)(area no long:Int)(hk4:g.k≤4)(hm3:g.m≤3)(b:Nat)(hD:D.Ok b)(hb:b≤1000000) :
 AFm Tryz.prog 3 x6f [.ref 0 0,i64 vol,g.av,i64 area,i64 no,i64 long] (Y4 D) (v9 (.tup [bA (D.snapRead vol g area no long).1.1,i64 (D.snapRead vol g area no long).1.2]) (Y4 (D.snapRead vol g area no long).2)):=by
 refine AFm.mono (R:=fun r H'=>∃ z:(z7 × Int) × Dev,z=D.snapRead vol g area no long∧r=.tup [bA z.1.1,i64 z.1.2]∧H'=Y4 z.2) ?_ (by rintro r H' ⟨z,rfl,rfl,rfl⟩;exact⟨rfl,rfl⟩)
 have wF:=q4s g area 0
 have wFs:=fun s=>q4s g area s
 have wW:=z9j [vol,no] (by show 2≤64;decide)
 have wR:=y5k g
 have eZ:D.snapRead vol g area no long=match (W5 g area 0).2 != 0||!U5 [vol,no]||(decide (long<0)||decide (long > g.room)) with
  |true=>(([],1),D)
  |false=>match D.dead with
   |true=>(([],21),D)
   |false=>match (D.snapN vol g area no g.s.toNat).2.1 != 0 with
    |true=>(([],(D.snapN vol g area no g.s.toNat).2.1),(D.snapN vol g area no g.s.toNat).2.2)
    |false=>(((D.snapN vol g area no g.s.toNat).1.take long.toNat,0),(D.snapN vol g area no g.s.toNat).2.2):=rfl
 generalize D.snapRead vol g area no long=Z at eZ
 have hfe:(W5 g area 0).2=0→W6 g area 0:=fun h=>by
  by_cases hf:W6 g area 0
  ·exact hf
  ·rw[q5h hf]at h;exact absurd h (by decide)
 generalize hF:W5 g area 0=F at wF eZ hfe
 refine Q5 3 hT x6g rfl rfl x6h rfl rfl ?_
 refine z8 ⟨⟨114,[(0,.ref 0 0),(1,i64 vol),(3,i64 area),(4,i64 no),(5,i64 long),(8,.p (.box g.pv))]⟩,Y4 D⟩ True (q7 hT ?_) (fun _=>?_)
 ·exact⟨Wk.trans (Q3 3 g.pv rfl rfl) (q9 [0,1,2] [0,1,3,4,5,8] rfl),trivial⟩
 refine z8 ⟨⟨114,[(0,.ref 0 0),(1,i64 vol),(3,i64 area),(4,i64 no),(5,i64 long),(8,.p (.box g.pv))]⟩,Y4 D⟩ (W6 g area 0∧¬ long<0∧¬ long > g.room∧D.dead=false∧U5 [vol,no]=true) (q8 (q7 hT ?_)) ?_
 ·refine y9 (w7 wF _ rfl rfl) ?_
  refine z3 ?_
  refine y6 (fun st=>∃ v,v=(F.2 != 0||!U5 [vol,no]||(decide (long<0)||decide (long > g.room)))∧st=⟨⟨114,[(0,.ref 0 0),(1,i64 vol),(3,i64 area),(4,i64 no),(5,i64 long),(8,.p (.box g.pv)),(32,bl v)]⟩,Y4 D⟩) (q8 (q7 hT ?_)) ?_
  ·refine z2 (y4 (fun h=>?_) (fun h=>?_))
   ·refine z5 ?_
    exact⟨_,q9 [0,1,2] [0,1,3,4,5,8,32] rfl,(F.2 != 0),by rw[show (F.2 != 0)=true from h];rfl,rfl⟩
   rw[show (F.2 != 0)=false from h]
   refine q8 (W4 (fun k=>Nat.beq 2 k) hT ?_)
   refine⟨⟨rfl,rfl⟩,?_⟩
   refine y9 (w7 wW _ rfl rfl) ?_
   refine z2 (y4 (fun h=>?_) (fun h=>?_))
   ·refine z5 ?_
    exact⟨_,q9 [0,1,2] [0,1,3,4,5,8,32] rfl,(!U5 [vol,no]),by rw[show (!U5 [vol,no])=true from h];rfl,rfl⟩
   rw[show (!U5 [vol,no])=false from h]
   refine q8 (q7 hT ?_)
   refine z2 (y4 (fun h=>?_) (fun h=>?_))
   ·refine z5 ?_
    exact⟨_,q9 [0,1,2] [0,1,3,4,5,8,32] rfl,decide (long<0),by rw[show decide (long<0)=true from h];rfl,rfl⟩
   rw[show decide (long<0)=false from h]
   refine q7 hT ?_
   refine y9 (w7 wR _ rfl rfl) ?_
   exact⟨_,q9 [0,1,2] [0,1,3,4,5,8,32] rfl,decide (long > g.room),rfl,rfl⟩
  rintro _ ⟨v,hv,rfl⟩
  rw[← hv]at eZ
  refine z2 (y4 (fun h=>?_) (fun h=>?_))
  ·have h:v=true:=h
   rw[h]at eZ
   refine q8 (q7 hT ?_)
   refine Q1 (q2t 12 1 rfl) ?_
   refine y5 ?_
   exact z9 [0,1,2] ⟨(([],1),D),eZ.symm,rfl,rfl⟩ rfl
  ·have h:v=false:=h
   rw[h]at eZ hv
   have hv:=hv.symm
   simp only[Bool.or_eq_false_iff,Bool.not_eq_false',decide_eq_false_iff_not]at hv
   refine q8 (q7 hT ?_)
   refine y9 (u6 [0,1,2] (z2q D) rfl rfl rfl) ?_
   refine z2 (y4 (fun h=>?_) (fun h=>?_))
   ·rw[show D.dead=true from h]at eZ
    refine q8 (q7 hT ?_)
    refine Q1 (q2t 12 1 rfl) ?_
    refine y5 ?_
    exact z9 [0,1,2] ⟨(([],21),D),eZ.symm,rfl,rfl⟩ rfl
   ·exact z5 ⟨q9 [0,1,2] [0,1,3,4,5,8] rfl,hfe (by simpa using hv.1.1),hv.2.1,hv.2.2,h,hv.1.2⟩
 rintro⟨hok,hl0,hl1,hdead,hw⟩
 have hF0:F.2=0:=by rw[← hF,q1m hok]
 rw[hF0,hw,decide_eq_false hl0,decide_eq_false hl1,hdead]at eZ
 have eZ:Z=match (D.snapN vol g area no g.s.toNat).2.1 != 0 with
  |true=>(([],(D.snapN vol g area no g.s.toNat).2.1),(D.snapN vol g area no g.s.toNat).2.2)
  |false=>(((D.snapN vol g area no g.s.toNat).1.take long.toNat,0),(D.snapN vol g area no g.s.toNat).2.2):=eZ
 obtain⟨hg,a0,a1,_,_⟩:=hok
 obtain⟨h1,h2,h3,h4,h5,h6,h7,h8⟩:=U2 (J5 hg)
 obtain⟨S,hS⟩:∃ n:Nat,g.s=n:=⟨g.s.toNat,by omega⟩
 obtain⟨k,hk⟩:∃ n:Nat,g.k=n:=⟨g.k.toNat,by omega⟩
 obtain⟨m,hm⟩:∃ n:Nat,g.m=n:=⟨g.m.toNat,by omega⟩
 have hroom:g.room=((S*k*228:Nat):Int):=by unfold GeoV.room;rw[hg,hS,hk];show (S:Int)*k*228=_;simp
 rw[hroom]at hl1
 have hSk:S*k≤32*4:=Nat.mul_le_mul (by omega) (by omega)
 have hkn:g.k.toNat=k:=by omega
 have hmn:g.m.toNat=m:=by omega
 rw[show g.s.toNat=S by omega]at eZ
 clear wF wW wR hfe hF0 hF hdead
 refine z8 ⟨⟨114,[(0,.ref 0 0),(1,i64 vol),(3,i64 area),(4,i64 no),(5,i64 long),(8,.p (.box g.pv)),(16,.msl 3 1 0 0)]⟩,Y4 D++[.row z1 1 (bx [])]⟩ True (q7 hT ?_) (fun _=>?_)
 ·exact⟨Wk.trans (X5 z1 1) (Wk.trans (q2h 16 3 1 0 rfl) (q9 [0,1,2,3] [0,1,3,4,5,8,16] rfl)),trivial⟩
 refine y6 (fun st=>∃ out E,D.snapN vol g area no S=(out,0,E)∧st=⟨⟨114,[(5,i64 long),(16,.msl 3 1 0 (bx out).length)]⟩,Y4 E++[.row z1 1 (bx out)]⟩) (q8 (q7 hT ?_)) ?_
 ·refine z3 ?_
  refine y8 (fun c st=>∃ (s:Nat) (js Sv:Int) (out:z7) (E:Dev),c+s=S∧js=s∧Sv=S∧D.snapN vol g area no s=(out,0,E)∧st=⟨⟨114,[(0,.ref 0 0),(1,i64 vol),(3,i64 area),(4,i64 no),(5,i64 long),(8,.p (.box g.pv)),(16,.msl 3 1 0 (bx out).length),(50,i64 Sv),(51,i64 js)]⟩,Y4 E++[.row z1 1 (bx out)]⟩) S ⟨⟨114,_⟩,_⟩ (q9 [0,1,2,3] [0,1,3,4,5,8,16,50,51] rfl) ⟨0,0,g.s,[],D,by omega,rfl,hS,rfl,rfl⟩ ?_
  rintro c st ⟨s,js,Sv,out,E,hcs,hjs,hSv,hN,rfl⟩
  refine q8 (q7 hT ?_)
  refine q8 (z2 (y4 (fun h=>?_) (fun h=>?_)))
  ·have h:=of_decide_eq_true (show decide (js<Sv)=true from h)
   have hsS:s<S:=by omega
   refine z5 ?_
   have hEo:E.Ok b:=by have:=w0x hD vol g area no s;rwa [hN]at this
   have hol:out.length=s*k*228:=by have:=z9m (D:=D) (vol:=vol) (g:=g) (area:=area) (no:=no) s (by rw[hN]);rwa [hN,hkn]at this
   have hsk:s*k≤32*4:=Nat.mul_le_mul (by omega) (by omega)
   have wF:=wFs js
   have hfo:W6 g area js:=⟨hg,a0,a1,by omega,by omega⟩
   rw[q1m hfo]at wF
   have hAr:=w0v hg a0 a1 (show 0≤js by omega) (by omega)
   have hNs:D.snapN vol g area no (s+1)=q1w vol g area no s (out,0,E):=by rw[← hN];rfl
   have hstep:q1w vol g area no s (out,0,E)=match (J1 (E.reads (g.at_ area s) (g.k.toNat+g.m.toNat)).1 vol g area s no).2 != 0 with
    |true=>([],(J1 (E.reads (g.at_ area s) (g.k.toNat+g.m.toNat)).1 vol g area s no).2,(E.reads (g.at_ area s) (g.k.toNat+g.m.toNat)).2)
    |false=>(out++((J1 (E.reads (g.at_ area s) (g.k.toNat+g.m.toNat)).1 vol g area s no).1.take g.k.toNat).flatten,0,(E.reads (g.at_ area s) (g.k.toNat+g.m.toNat)).2):=rfl
   rw[hstep,hkn,hmn,← hjs]at hNs
   generalize g.at_ area js=A at hNs wF hAr
   clear hstep hN
   obtain⟨n,hn⟩:∃ n,n=k+m:=⟨_,rfl⟩
   rw[← hn]at hNs
   have hwr:IntKind.i64.wrap (g.k+g.m)=(n:Int):=by rw[y7 _ (by omega) (by omega)];omega
   refine y6 (fun st=>∃ out E,D.snapN vol g area no (s+1)=(out,0,E)∧st=⟨⟨114,[(0,.ref 0 0),(1,i64 vol),(3,i64 area),(4,i64 no),(5,i64 long),(8,.p (.box g.pv)),(16,.msl 3 1 0 (bx out).length),(50,i64 Sv),(51,i64 js)]⟩,Y4 E++[.row z1 1 (bx out)]⟩) (z3 (q8 (q7 hT ?_))) ?_
   ·refine z8 ⟨⟨114,[(0,.ref 0 0),(1,i64 vol),(3,i64 area),(4,i64 no),(5,i64 long),(8,.p (.box g.pv)),(16,.msl 3 1 0 (bx out).length),(17,i64 js),(18,i64 A),(50,i64 Sv),(51,i64 js)]⟩,Y4 E++[.row z1 1 (bx out)]⟩ True (q7 hT ?_) (fun _=>?_)
    ·refine y9 (w7 wF _ rfl rfl) ?_
     exact⟨q9 [0,1,2,3] [0,1,3,4,5,8,16,17,18,50,51] rfl,trivial⟩
    refine y6 (fun st=>∃ n',n'=n∧st=⟨⟨114,[(0,.ref 0 0),(1,i64 vol),(3,i64 area),(4,i64 no),(5,i64 long),(8,.p (.box g.pv)),(16,.msl 3 1 0 (bx out).length),(17,i64 js),(18,i64 A),(20,.msl 4 1 0 n'),(50,i64 Sv),(51,i64 js)]⟩,Y4 E++[.row z1 1 (bx out),.row z0 1 (List.replicate n' v8q)]⟩) (q7 hT ?_) ?_
    ·refine⟨⟨rfl,by omega,by show IntKind.i64.wrap (g.k+g.m)*24≤_;omega,by omega⟩,?_⟩
     exact⟨_,q9 [0,1,2,3,4] [0,1,3,4,5,8,16,17,18,20,50,51] rfl,(IntKind.i64.wrap (g.k+g.m)).toNat,by omega,rfl⟩
    rintro _ ⟨n',hn',rfl⟩
    rw[hn']
    clear hn' n'
    refine y6 (fun st=>∃ X F,X=(E.reads A n).1∧F=(E.reads A n).2∧st=⟨⟨114,[(0,.ref 0 0),(1,i64 vol),(3,i64 area),(4,i64 no),(5,i64 long),(8,.p (.box g.pv)),(16,.msl 3 1 0 (bx out).length),(17,i64 js),(20,.p (.sl 1 (z4 X))),(50,i64 Sv),(51,i64 js)]⟩,Y4 F++[.row z1 1 (bx out)]⟩) (q8 (q7 hT ?_)) ?_
    ·refine z3 ?_
     refine y8 (fun c st=>∃ (j:Nat) (jj:Int) (X:List (List PV)) (F:Dev),c+j=n∧jj=j∧X=z4 (E.reads A j).1++List.replicate (n - j) v8q∧F=(E.reads A j).2∧st=⟨⟨114,[(0,.ref 0 0),(1,i64 vol),(3,i64 area),(4,i64 no),(5,i64 long),(8,.p (.box g.pv)),(16,.msl 3 1 0 (bx out).length),(17,i64 js),(18,i64 A),(20,.msl 4 1 0 n),(50,i64 Sv),(51,i64 js),(68,i64 n),(69,i64 jj)]⟩,Y4 F++[.row z1 1 (bx out),.row z0 1 X]⟩) n ⟨⟨114,_⟩,_⟩ (q9 [0,1,2,3,4] [0,1,3,4,5,8,16,17,18,20,50,51,68,69] rfl) ⟨0,0,_,E,by omega,rfl,rfl,rfl,rfl⟩ ?_
     rintro c st ⟨j,jj,X,F,hcj,hjj,hX,hFF,rfl⟩
     refine q8 (q7 hT ?_)
     refine q8 (z2 (y4 (fun h=>?_) (fun h=>?_)))
     ·have h:=of_decide_eq_true (show decide (jj<(n:Int))=true from h)
      have hjn:j<n:=by omega
      refine z5 ?_
      have hFo:F.Ok b:=by rw[hFF];exact z1t hEo A j
      have hwA:IntKind.i64.wrap (A+jj)=A+j:=by rw[y7 _ (by omega) (by omega),hjj]
      have w:=y9p F (A+j) (by have:=hFo.wl;omega) (fun x hx=>by have:=hFo.ws x hx;omega) (fun c hc=>by have:=hFo.cs c hc;omega)
      rw[← hwA]at w
      have e1:z4 (E.reads A (j+1)).1=z4 (E.reads A j).1++[[bP (F.read (A+j)).1.1]]:=by rw[hFF,← x0m];rfl
      have e2:(E.reads A (j+1)).2=(F.read (A+j)).2:=by rw[hFF];rfl
      rw[← hwA]at e1 e2
      generalize F.read (IntKind.i64.wrap (A+jj))=Y at w e1 e2
      obtain⟨⟨u,f⟩,G⟩:=Y
      have w:AFm Tryz.prog 3 q8b [.ref 0 0,i64 (IntKind.i64.wrap (A+jj))] (Y4 F) (v9 (.tup [bA u,i64 f]) (Y4 G)):=w
      have e1:z4 (E.reads A (j+1)).1=z4 (E.reads A j).1++[[bP u]]:=e1
      have e2:(E.reads A (j+1)).2=G:=e2
      have hcl:(z4 (E.reads A j).1).length=j:=by rw[Q2,z2z]
      have hget:X[0+jj.toNat]?=some v8q:=by
       rw[show 0+jj.toNat=j by omega,hX,List.getElem?_append_right (by omega),hcl,Nat.sub_self,show n - j=(n - j - 1)+1 by omega];rfl
      have hset:X.set (0+jj.toNat) [bP u]=z4 (E.reads A (j+1)).1++List.replicate (n - (j+1)) v8q:=by
       rw[show 0+jj.toNat=j by omega,hX,List.set_append,if_neg (by omega),hcl,Nat.sub_self,e1,List.append_assoc]
       rw[show n - j=(n - (j+1))+1 by omega];rfl
      refine z8 ⟨⟨114,[(0,.ref 0 0),(1,i64 vol),(3,i64 area),(4,i64 no),(5,i64 long),(8,.p (.box g.pv)),(16,.msl 3 1 0 (bx out).length),(17,i64 js),(18,i64 A),(20,.msl 4 1 0 n),(50,i64 Sv),(51,i64 js),(68,i64 n),(69,i64 jj)]⟩,Y4 G++[.row z1 1 (bx out),.row z0 1 (X.set (0+jj.toNat) [bP u])]⟩ True (z3 (q8 (q7 hT ?_))) (fun _=>?_)
      ·refine q7 hT ?_
       refine y9 (u6 [0,1,2] w rfl rfl rfl) ?_
       refine⟨⟨by omega,by omega⟩,?_⟩
       refine v7 hget ?_
       exact⟨q9 [0,1,2,3,4] [0,1,3,4,5,8,16,17,18,20,50,51,68,69] rfl,trivial⟩
      ·refine q7 hT ?_
       exact⟨c - 1,by omega,_,q9 [0,1,2,3,4] [0,1,3,4,5,8,16,17,18,20,50,51,68,69] rfl,j+1,IntKind.i64.wrap (jj+1),_,G,by omega,by rw[y7 _ (by omega) (by omega)];omega,hset,e2.symm,rfl⟩
     ·have h:=of_decide_eq_false (show decide (jj<(n:Int))=false from h)
      have hjn:j=n:=by omega
      rw[hjn]at hX hFF
      have hX:X=z4 (E.reads A n).1:=by rw[hX,Nat.sub_self];simp
      have hXl:X.length=n:=by rw[hX,Q2,z2z]
      refine x9 ?_
      exact⟨_,Wk.trans (w6f 20 4 1 n hX hXl.symm rfl rfl) (q9 [0,1,2,3] [0,1,3,4,5,8,16,17,20,50,51] rfl),_,F,rfl,hFF,rfl⟩
    rintro _ ⟨X,F,hX,hFF,rfl⟩
    rw[← hX,← hFF]at hNs
    have hXl:X.length=n:=by rw[hX,z2z]
    have hXb:∀ s∈X,s.length≤1000000:=fun s hs=>by rw[hX]at hs;have:=y0f hEo A n s hs;omega
    have wS:=w0w X vol g area js no hk4 hm3 (by omega) hXb
    have hTl:=y0e (l:=X) (vol:=vol) (g:=g) (area:=area) (stripe:=js) (no:=no)
    generalize J1 X vol g area js no=T at hNs wS hTl
    refine z8 ⟨⟨114,[(0,.ref 0 0),(1,i64 vol),(3,i64 area),(4,i64 no),(5,i64 long),(8,.p (.box g.pv)),(16,.msl 3 1 0 (bx out).length),(22,.p (.sl 1 (z4 T.1))),(23,i64 T.2),(50,i64 Sv),(51,i64 js)]⟩,Y4 F++[.row z1 1 (bx out)]⟩ True (q7 hT ?_) (fun _=>?_)
    ·refine y9 (w7 wS _ rfl rfl) ?_
     exact⟨q9 [0,1,2,3] [0,1,3,4,5,8,16,22,23,50,51] rfl,trivial⟩
    refine z8 ⟨⟨114,[(0,.ref 0 0),(1,i64 vol),(3,i64 area),(4,i64 no),(5,i64 long),(8,.p (.box g.pv)),(16,.msl 3 1 0 (bx out).length),(22,.p (.sl 1 (z4 T.1))),(50,i64 Sv),(51,i64 js)]⟩,Y4 F++[.row z1 1 (bx out)]⟩ (T.2=0) (q8 (q7 hT ?_)) ?_
    ·refine z2 (y4 (fun h=>?_) (fun h=>?_))
     ·have h:(T.2 != 0)=true:=h
      rw[h]at hNs
      have hNs:D.snapN vol g area no (s+1)=([],T.2,F):=hNs
      have hNS:=x0s (D:=D) (vol:=vol) (g:=g) (area:=area) (no:=no) (s:=s+1) (by rw[hNs];exact h) (S - (s+1))
      rw[show s+1+(S - (s+1))=S by omega,hNs]at hNS
      rw[hNS]at eZ
      have eZ:Z=match T.2 != 0 with
       |true=>(([],T.2),F)
       |false=>((List.take long.toNat [],0),F):=eZ
      rw[h]at eZ
      refine q8 (q7 hT ?_)
      refine Q1 (q2t 12 1 rfl) ?_
      refine y5 ?_
      exact z9 [0,1,2] ⟨(([],T.2),F),eZ.symm,rfl,rfl⟩ rfl
     ·exact z5 ⟨q9 [0,1,2,3] [0,1,3,4,5,8,16,22,50,51] rfl,by have h:(T.2 != 0)=false:=h;simpa using h⟩
    intro hT2
    obtain⟨hT1,hT3⟩:=hTl hT2
    rw[hkn,hmn]at hT1
    rw[hkn]at hT3
    rw[hT2]at hNs
    have hNs:D.snapN vol g area no (s+1)=(out++(T.1.take k).flatten,0,F):=hNs
    have hTc:=Q2 T.1
    have hsl:((z4 T.1).take g.k.toNat).drop (0:Int).toNat=z4 (T.1.take k):=by rw[hkn,w9z];rfl
    have hkl:(T.1.take k).length=k:=by rw[List.length_take];omega
    generalize T.1.take k=U at hNs hT3 hsl hkl
    have hUc:=Q2 U
    refine y6 (fun st=>∃ Y,Y=z4 U∧st=⟨⟨114,[(0,.ref 0 0),(1,i64 vol),(3,i64 area),(4,i64 no),(5,i64 long),(8,.p (.box g.pv)),(16,.msl 3 1 0 (bx out).length),(50,i64 Sv),(51,i64 js),(100,.p (.sl 1 Y)),(101,i64 Y.length),(102,i64 0)]⟩,Y4 F++[.row z1 1 (bx out)]⟩) (q7 hT ?_) ?_
    ·refine⟨⟨Int.le_refl _,by omega,by omega⟩,?_⟩
     exact⟨_,q9 [0,1,2,3] [0,1,3,4,5,8,16,50,51,100,101,102] rfl,_,hsl,rfl⟩
    rintro _ ⟨Y,rfl,rfl⟩
    refine z3 ?_
    refine y8 (fun c st=>∃ (j:Nat) (jj:Int) (out':z7),c+j=k∧jj=j∧out'=out++(U.take j).flatten∧out'.length=s*k*228+j*228∧st=⟨⟨114,[(0,.ref 0 0),(1,i64 vol),(3,i64 area),(4,i64 no),(5,i64 long),(8,.p (.box g.pv)),(16,.msl 3 1 0 (bx out').length),(50,i64 Sv),(51,i64 js),(100,.p (.sl 1 (z4 U))),(101,i64 (z4 U).length),(102,i64 jj)]⟩,Y4 F++[.row z1 1 (bx out')]⟩) k ⟨⟨114,_⟩,_⟩ (Wk.refl _ _) ⟨0,0,out,by omega,rfl,by simp,by omega,rfl⟩ ?_
    rintro c st ⟨j,jj,out',hcj,hjj,hout,houtl,rfl⟩
    refine q8 (q7 hT ?_)
    refine q8 (z2 (y4 (fun h=>?_) (fun h=>?_)))
    ·have h:=of_decide_eq_true (show decide (jj<(((z4 U).length:Nat):Int))=true from h)
     have hj:j<U.length:=by omega
     refine z5 ?_
     have hx:=List.getElem?_eq_getElem hj
     have hsl:=hT3 _ (List.getElem_mem hj)
     generalize U[j]=sh at hx hsl
     have hxp:(z4 U)[jj.toNat]?=some [bP sh]:=by rw[hjj,Int.toNat_natCast];exact Q4 hx
     have hob:=w9 out'
     have hsb:=w9 sh
     have hnew:out++(U.take (j+1)).flatten=out'++sh:=by
      rw[List.take_add_one,hx,List.flatten_append,hout,List.append_assoc];simp
     refine y6 (fun st=>∃ o,o=out'++sh∧st=⟨⟨114,[(0,.ref 0 0),(1,i64 vol),(3,i64 area),(4,i64 no),(5,i64 long),(8,.p (.box g.pv)),(16,.msl 3 1 0 (bx o).length),(50,i64 Sv),(51,i64 js),(100,.p (.sl 1 (z4 U))),(101,i64 (z4 U).length),(102,i64 jj)]⟩,Y4 F++[.row z1 1 (bx o)]⟩) (z3 (q8 (q7 hT ?_))) ?_
     ·refine⟨by omega,v7 hxp ?_⟩
      refine q7 hT ?_
      refine⟨rfl,⟨by show ((bx out').length+(bx sh).length)*1≤_;omega,by omega⟩,?_⟩
      refine⟨_,q9 [0,1,2,4] [0,1,3,4,5,8,16,50,51,100,101,102] rfl,_,rfl,?_⟩
      rw[q1n];rfl
     ·rintro _ ⟨o,rfl,rfl⟩
      refine q7 hT ?_
      exact⟨c - 1,by omega,_,q9 [0,1,2,3] [0,1,3,4,5,8,16,50,51,100,101,102] rfl,j+1,IntKind.i64.wrap (jj+1),_,by omega,by rw[y7 _ (by omega) (by omega)];omega,hnew.symm,by rw[List.length_append];omega,rfl⟩
    ·have h:=of_decide_eq_false (show decide (jj<(((z4 U).length:Nat):Int))=false from h)
     rw[List.take_of_length_le (by omega)]at hout
     refine x9 ?_
     exact⟨_,q9 [0,1,2,3] [0,1,3,4,5,8,16,50,51] rfl,out',F,by rw[hNs,hout],rfl⟩
   ·rintro _ ⟨out,E,hN,rfl⟩
    refine q7 hT ?_
    exact⟨c - 1,by omega,_,q9 [0,1,2,3] [0,1,3,4,5,8,16,50,51] rfl,s+1,IntKind.i64.wrap (js+1),Sv,out,E,by omega,by rw[y7 _ (by omega) (by omega)];omega,hSv,hN,rfl⟩
  ·have h:=of_decide_eq_false (show decide (js<Sv)=false from h)
   rw[show s=S by omega]at hN
   refine x9 ?_
   exact⟨_,q9 [0,1,2,3] [5,16] rfl,out,E,hN,rfl⟩
 rintro _ ⟨out,E,hN,rfl⟩
 have hol:out.length=S*k*228:=by have:=z9m (D:=D) (vol:=vol) (g:=g) (area:=area) (no:=no) S (by rw[hN]);rwa [hN,hkn]at this
 rw[hN]at eZ
 have eZ:Z=((out.take long.toNat,0),E):=eZ
 have hbl:=w9 out
 refine Q1 (V3 16 3 _ rfl rfl rfl rfl) ?_
 refine q8 (q7 hT ?_)
 refine⟨⟨Int.le_refl _,by omega,by omega⟩,?_⟩
 refine y5 ?_
 refine z9 [0,1,2] ⟨((out.take long.toNat,0),E),eZ.symm,?_,rfl⟩ rfl
 show AV.tup [.p (.sl 1 (((bx out).take long.toNat).drop 0)),i64 0]=_
 rw[List.drop_zero,← y2a]
end Go.Proofs.YtinfbclgkghgaaaGreat.AL
namespace Go.Proofs.YtinfbclgkghgaaaGreat.AL
open Go Go.Proofs
structure Fol where
 txs:List z7
 next:Int
 chain:Int
 epoch:Int
 tx:z7
 index:Int
 of_:Int
 ended:Bool
def u7x (vol:Int)(g:GeoV)(p:Pc):Int:=((Crc.sum (p.sector vol g 0).1).toNat:Int)
end Go.Proofs.YtinfbclgkghgaaaGreat.AL
namespace Go.Proofs.YtinfbclgkghgaaaGreat.AL
open Go Go.Proofs
structure TailV where
 txs:List z7
 next:Int
 chain:Int
 epoch:Int
 deriving DecidableEq
abbrev TailV.cv (t:TailV):List AV:=[.p (.sl 1 (z4 t.txs)),i64 t.next,i64 t.chain,i64 t.epoch]
abbrev TailV.av (t:TailV):AV:=.agg t.cv
def TailV.zero:TailV:=⟨[],0,0,0⟩
def Fol.tail (F:Fol):TailV:=⟨F.txs,F.next,F.chain,F.epoch⟩
end Go.Proofs.YtinfbclgkghgaaaGreat.AL
namespace Go.Proofs.YtinfbclgkghgaaaGreat.AL
open Go Go.Proofs
def v9i (n:Int):List Pc→Int→Bool
 |[],_=>true
 |p :: r,k=>match p.index != k||p.of_ != n with|true=>false|false=>v9i n r (k+1)
end Go.Proofs.YtinfbclgkghgaaaGreat.AL
namespace Go.Proofs.YtinfbclgkghgaaaGreat.AL
open Go Go.Proofs
structure Rg where
 vol:Int
 g:GeoV
 epoch:Int
 frm:Int
 start:Int
 next:Int
 chain:Int
end Go.Proofs.YtinfbclgkghgaaaGreat.AL
namespace Go.Proofs.YtinfbclgkghgaaaGreat.AL
open Go Go.Proofs
def v6j:Nat→z7→List z7
 |0,b=>[b]
 |f+1,b=>match decide (b.length > 200) with
  |true=>b.take 200 :: v6j f (b.drop 200)
  |false=>[b]
def y6i (b:z7):List z7:=v6j b.length b
def w6u (R:Rg)(p:Pc):List Put9:=[⟨q3g R.g 0 (p.seq.tmod R.g.w),(p.sector R.vol R.g 0).1⟩,⟨q3g R.g 1 (p.seq.tmod R.g.w),(p.sector R.vol R.g 1).1⟩]
def v8s (R:Rg)(D:Dev)(p:Pc):Int × (Rg × Dev):=match (D.all9 (w6u R p)).1 != 0 with
 |true=>((D.all9 (w6u R p)).1,(R,(D.all9 (w6u R p)).2))
 |false=>(0,({ R with next:=R.next+1,chain:=u7x R.vol R.g p },(D.all9 (w6u R p)).2))
end Go.Proofs.YtinfbclgkghgaaaGreat.AL
namespace Go.Proofs.YtinfbclgkghgaaaGreat.AL
open Go Go.Proofs
structure Rg.Ok (R:Rg):Prop where
 g:R.g.may=true
 vol:Y1 R.vol=true
 e:0≤R.epoch∧R.epoch≤4294967295
 f:0≤R.frm∧R.frm≤R.next
 s:0≤R.start∧R.start≤R.next
 n:R.next≤4294967295
 c:0≤R.chain∧R.chain≤4294967295
def pcR (R:Rg)(i n:Int)(b:z7):Pc:=⟨R.next,R.epoch,R.frm,R.chain,i,n,b⟩
def u7y (n:Int):List z7→Int→Rg→Dev→Int × (Rg × Dev)
 |[],_,R,D=>(0,(R,D))
 |b :: r,i,R,D=>match (v8s R D (pcR R i n b)).1 != 0 with
  |true=>v8s R D (pcR R i n b)
  |false=>u7y n r (i+1) (v8s R D (pcR R i n b)).2.1 (v8s R D (pcR R i n b)).2.2
def Rg.append (R:Rg)(D:Dev)(tx:z7):Int × (Rg × Dev):=match decide ((y6i tx).length > 64) with
 |true=>(2,(R,D))
 |false=>match decide (R.next+(y6i tx).length - R.start > R.g.w)||decide (R.next+(y6i tx).length > 4294967295) with
  |true=>(4,(R,D))
  |false=>u7y (y6i tx).length (y6i tx) 0 R D
end Go.Proofs.YtinfbclgkghgaaaGreat.AL
namespace Go.Proofs.YtinfbclgkghgaaaGreat.AL
open Go Go.Proofs
structure CleanP (D:Dev) (N b:Nat):Prop where
 ok:D.Ok b
 dead:D.dead=false
 armed:D.armed=false
 waits:D.waits=[]
 len:D.cells.length=N
 well:∀ c∈D.cells,c.drop=0∧c.miss=[]
theorem v6k {D:Dev}{N k:Nat}(h:D.cells.length=N)(hk:k<N):D.has (k:Int)=true:=by
 unfold Dev.has;rw[h,decide_eq_true (show (k:Int)≥0 by omega),decide_eq_true (show (k:Int)<(N:Int) by omega)];rfl
theorem x4n {E:Dev}(h1:E.dead=false)(h2:E.armed=false):E.lives.dead=false:=by
 show (E.dead||(E.armed&&E.left==0))=false
 rw[h1,h2];rfl
theorem u7z {E:Dev}{a:Int}{s:z7}(hd:E.dead=false)(hw:E.waits=[])(hh:E.has a=true){c:Cell}(hc:E.cells[a.toNat]?=some c):E.hhas a s=((!c.lost&&(c.s==s),0),E.count):=by
 have hr:E.readAt a=match c.lost with|true=>(20,[])|false=>(0,c.s):=by
  unfold Dev.readAt;rw[hw];show (match E.cells[a.toNat]? with|some c=>_|none=>_)=_;rw[hc];rfl
 have e:E.read a=(((E.readAt a).2,(E.readAt a).1),E.count):=by unfold Dev.read;rw[hd,hh]
 unfold Dev.hhas
 rw[e,hr]
 cases c.lost with
 |true=>rfl
 |false=>rfl
theorem w0z {D:Dev}{N b:Nat}(h:CleanP D N b){k:Nat}(hk:k<N){s:z7}(hs:s.length=256) :
 ∃ E,D.once k s=((true,0),E)∧CleanP E N (b+1)∧E.cells=D.cells.set k ⟨s,false,0,[]⟩:=by
 obtain⟨c,hc⟩:∃ c,D.cells[k]?=some c:=⟨_,List.getElem?_eq_getElem (by rw[h.len];omega)⟩
 have hlt:=(List.getElem?_eq_some_iff.1 hc).1
 obtain⟨cd,cm⟩:=h.well c (List.mem_of_getElem? hc)
 have hh:D.has k=true:=v6k h.len hk
 have hl:D.lives.dead=false:=x4n h.dead h.armed
 have ok:=(h.ok.write k s).flush
 have hput:D.lives.count.put k s = { D.lives.count with waits:=[⟨k,s⟩] }:=by
  unfold Dev.put
  rw[Int.toNat_natCast,show D.lives.count.cells[k]?=some c from hc]
  simp only
  rw[cd,cm]
  show { D.lives.count with waits:=D.waits++[(⟨k,s⟩:Wr)] }=_
  rw[h.waits];rfl
 have e:D.write k s=(0,{ D.lives.count with waits:=[⟨k,s⟩] }):=by
  rw[← hput]
  unfold Dev.write
  rw[h.dead,hh,show ((s.length:Int) != 256)=false by rw[hs];rfl,hl]
 have hl2:Dev.dead (Dev.lives { D.lives.count with waits:=[⟨k,s⟩] })=false:=x4n hl h.armed
 have ef:Dev.flush { D.lives.count with waits:=[⟨k,s⟩] }=(0,(Dev.lives { D.lives.count with waits:=[⟨k,s⟩] }).drain [true]):=by
  unfold Dev.flush
  rw[show Dev.dead { D.lives.count with waits:=[⟨k,s⟩] }=false from hl,hl2]
 rw[e]at ok
 simp only at ok
 rw[ef]at ok
 have hcells:((Dev.lives { D.lives.count with waits:=[⟨k,s⟩] }).drain [true]).cells=D.cells.set k ⟨s,false,0,[]⟩:=by
  show q1s D.cells ⟨k,s⟩=_
  rw[z4f (x:=⟨k,s⟩) (show D.cells[((k:Nat):Int).toNat]?=some c by rw[Int.toNat_natCast];exact hc)]
  show D.cells.set ((k:Nat):Int).toNat { c with s:=s,lost:=false }=_
  rw[Int.toNat_natCast,cd,cm]
 have hwell:∀ c∈D.cells.set k ⟨s,false,0,[]⟩,c.drop=0∧c.miss=[]:=fun x hx=>by
  rcases List.mem_or_eq_of_mem_set hx with hx|rfl
  ·exact h.well x hx
  ·exact⟨rfl,rfl⟩
 have cE:CleanP ((Dev.lives { D.lives.count with waits:=[⟨k,s⟩] }).drain [true]) N (b+1):=⟨ok,hl2,h.armed,rfl,by rw[hcells,List.length_set];exact h.len,by rw[hcells];exact hwell⟩
 have eo:D.once k s=((Dev.lives { D.lives.count with waits:=[⟨k,s⟩] }).drain [true]).hhas k s:=by
  unfold Dev.once;rw[e];simp only;rw[ef];rfl
 generalize (Dev.lives { D.lives.count with waits:=[⟨k,s⟩] }).drain [true]=E at cE hcells eo
 have hce:E.cells[((k:Nat):Int).toNat]?=some ⟨s,false,0,[]⟩:=by rw[hcells,Int.toNat_natCast];exact List.getElem?_set_self hlt
 refine⟨E.count,?_,⟨cE.ok.count,cE.dead,cE.armed,cE.waits,cE.len,cE.well⟩,hcells⟩
 rw[eo,u7z cE.dead cE.waits (v6k cE.len hk) hce]
 simp
theorem w4t {D:Dev}{N b:Nat}(h:CleanP D N b){k:Nat}(hk:k<N){s:z7}(hs:s.length=256) :
 ∃ E,D.one k s=(0,E)∧CleanP E N (b+1)∧E.cells=D.cells.set k ⟨s,false,0,[]⟩:=by
 obtain⟨E,h1,h2,h3⟩:=w0z h hk hs
 refine⟨E,?_,h2,h3⟩
 show Dev.tryK 4 D k s=_
 unfold Dev.tryK
 rw[h1];rfl
end Go.Proofs.YtinfbclgkghgaaaGreat.AL
namespace Go.Proofs.YtinfbclgkghgaaaGreat.AL
open Go Go.Proofs
def q5k (D:Dev)(k:Nat):z7:=match D.cells[k]? with
 |some c=>match c.lost with|true=>[]|false=>c.s
 |none=>[]
theorem u8a {D:Dev}{N b k:Nat}(h:CleanP D N b)(hk:k<N):(D.read k).1.1=q5k D k∧(D.read k).2=D.count∧CleanP D.count N b:=by
 have e:D.read k=(((D.readAt k).2,(D.readAt k).1),D.count):=by unfold Dev.read;rw[h.dead,v6k h.len hk]
 refine⟨?_,by rw[e],⟨h.ok.count,h.dead,h.armed,h.waits,h.len,h.well⟩⟩
 rw[e]
 show (D.readAt k).2=_
 unfold Dev.readAt q5k
 rw[h.waits,Int.toNat_natCast]
 show (match D.cells[k]? with|some c=>(match c.lost with|true=>((20,[]):Int × z7)|false=>(0,c.s))|none=>(20,[])).2=_
 cases D.cells[k]? with
 |none=>rfl
 |some c=>cases hl:c.lost <;> simp[hl]
end Go.Proofs.YtinfbclgkghgaaaGreat.AL
namespace Go.Proofs.YtinfbclgkghgaaaGreat.AL
open Go Go.Proofs
structure LiveP (D:Dev) (N b:Nat):Prop where
 ok:D.Ok b
 dead:D.dead=false
 waits:D.waits=[]
 len:D.cells.length=N
 well:∀ c∈D.cells,c.drop=0∧c.miss=[]
theorem CleanP.live {D:Dev}{N b:Nat}(h:CleanP D N b):LiveP D N b:=⟨h.ok,h.dead,h.waits,h.len,h.well⟩
def z0c (s:z7):Cell:=⟨s,false,0,[]⟩
def q7b:List Put9→List Cell→List Cell
 |[],cs=>cs
 |p :: r,cs=>q7b r (cs.set p.at_.toNat (z0c p.s))
theorem x0u:∀ (l:List Put9) (cs:List Cell),(q7b l cs).length=cs.length
 |[],_=>rfl
 |p :: r,cs=>by rw[q7b,x0u r,List.length_set]
theorem v0t (l r:List Put9)(cs:List Cell):q7b (l++r) cs=q7b r (q7b l cs):=by
 induction l generalizing cs with
 |nil=>rfl
 |cons p l ih=>exact ih _
def u1b (N:Nat)(p:Put9):Prop:=0≤p.at_∧p.at_<(N:Int)∧p.s.length=256
end Go.Proofs.YtinfbclgkghgaaaGreat.AL
namespace Go.Proofs.YtinfbclgkghgaaaGreat.AL
open Go Go.Proofs
def z7c (vol:Int)(a:Nat):Blk:=⟨1,vol,a,0,0,[]⟩
def U6 (vol:Int)(a:Nat):z7:=(z7c vol a).sld.1
def wrK (vol:Int)(D:Dev):Nat→Dev
 |0=>D
 |k+1=>((wrK vol D k).write k (U6 vol k)).2
def GeoV.secs (g:GeoV):Nat:=(4+2*g.w+2*g.s*(g.k+g.m)).toNat
def q7y (vol:Int)(g:GeoV):Dev:=(wrK vol (Dev.new g.secs) g.secs).flush.2
theorem w4u (vol:Int){D:Dev}{b:Nat}(h:D.Ok b):∀ k,(wrK vol D k).Ok (b+k)
 |0=>h
 |k+1=>(w4u vol h k).write _ _
theorem x4p {g:GeoV}(hg:g.may=true):(g.secs:Int)=4+2*g.w+2*g.s*(g.k+g.m)∧g.secs≤4096∧4+2*g.w≤(g.secs:Int):=by
 have hg2:=hg
 unfold GeoV.may at hg2
 rw[Bool.and_eq_true,decide_eq_true_eq]at hg2
 obtain⟨m1,m2,m3,m4,m5⟩:=z1f hg2.1
 have hb:=g.of_may hg
 unfold GeoV.secs
 have h0:0≤2*g.s*(g.k+g.m):=by rw[Int.mul_assoc];omega
 omega
def w6v (vol:Int)(g:GeoV):Bool:=g.may&&(!decide (g.w > 16)&&(!decide (vol<0)&&!decide (vol > 4294967295)))
set_option maxHeartbeats 1000000 in
set_option maxRecDepth 20000 in
theorem w1a (vol:Int)(g:GeoV)(h:w6v vol g=true):AF Tryz.prog y7a [i64 vol,g.av] [] (v9 (.ref 0 0) (Y4 (q7y vol g))):=by
 have wm:=x0a g
 unfold w6v at h
 simp only[Bool.and_eq_true,Bool.not_eq_true',decide_eq_false_iff_not]at h
 obtain⟨hg,h16,hv0,hv1⟩:=h
 rw[hg]at wm
 obtain⟨g1,g2,g3,g4,g5,g6,g7,g8⟩:=g.of_may hg
 obtain⟨q1,q2,q3⟩:=x4p hg
 obtain⟨m1,m2,m3,m4,m5⟩:=z1f (by unfold GeoV.may at hg;rw[Bool.and_eq_true]at hg;exact hg.1)
 have hX:=m5
 obtain⟨N,hN⟩:∃ N,N=g.secs:=⟨_,rfl⟩
 have hnv:IntKind.i64.wrap (IntKind.i64.wrap (4+IntKind.i64.wrap (2*g.w))+IntKind.i64.wrap (IntKind.i64.wrap (2*g.s)*IntKind.i64.wrap (g.k+g.m)))=(N:Int):=by
  rw[hN,y7 (2*g.w) (by omega) (by omega),y7 (4+2*g.w) (by omega) (by omega),y7 (2*g.s) (by omega) (by omega),y7 (g.k+g.m) (by omega) (by omega),y7 (2*g.s*(g.k+g.m)) (by omega) (by omega),y7 _ (by omega) (by omega),q1]
 have n1:=v4a N (by omega) (by omega)
 have okD:=w4u vol (v4h N 0)
 refine v8 hT y7b rfl rfl y7c rfl ?_
 refine q8 (q7 hT ?_)
 refine Q1 (Q3 0 g.pv rfl rfl) ?_
 refine q8 (q7 hT ?_)
 refine y9 (w7 wm _ rfl rfl) ?_
 refine z8 ⟨⟨67,[(0,i64 vol),(3,.p (.box g.pv))]⟩,[]⟩ True (q8 (q7 hT ?_)) (fun _=>?_)
 ·refine y4 (fun h=>?_) (fun _=>?_)
  ·have h:=of_decide_eq_true (show decide (g.w > 16)=true from h)
   omega
  refine y4 (fun h=>?_) (fun _=>?_)
  ·have h:=of_decide_eq_true (show decide (vol<0)=true from h)
   omega
  refine z2 (y4 (fun h=>?_) (fun _=>?_))
  ·have h:=of_decide_eq_true (show decide (vol > 4294967295)=true from h)
   omega
  exact z5 ⟨q9 [] [0,3] rfl,trivial⟩
 refine z8 ⟨⟨67,[(0,i64 vol),(6,i64 N)]⟩,[]⟩ True (q7 hT ?_) (fun _=>?_)
 ·rw[← hnv]
  exact⟨q9 [] [0,6] rfl,trivial⟩
 clear hnv
 refine z8 ⟨⟨67,[(0,i64 vol),(6,i64 N),(7,.ref 0 0)]⟩,Y4 (Dev.new N)⟩ True (q7 hT ?_) (fun _=>?_)
 ·refine y9 n1 ?_
  exact⟨q9 [0,1,2] [0,6,7] rfl,trivial⟩
 have eB:q7y vol g=(wrK vol (Dev.new N) N).flush.2:=by rw[hN];rfl
 refine z8 ⟨⟨67,[(7,.ref 0 0)]⟩,Y4 (wrK vol (Dev.new N) N)⟩ True (q8 (q7 hT ?_)) (fun _=>?_)
 ·refine z3 ?_
  refine y8 (fun n st=>∃ (k:Nat) (j:Int) (E:Dev),n+k=N∧j=k∧E=wrK vol (Dev.new N) k∧st=⟨⟨67,[(0,i64 vol),(6,i64 N),(7,.ref 0 0),(9,i64 j)]⟩,Y4 E⟩) N ⟨⟨67,_⟩,_⟩ (q9 [0,1,2] [0,6,7,9] rfl) ⟨0,0,_,rfl,rfl,rfl,rfl⟩ ?_
  rintro n st ⟨k,j,E,hnk,hj,hE,rfl⟩
  have hEo:E.Ok (0+k):=by rw[hE];exact okD k
  refine q8 (q8 (q7 hT ?_))
  refine z2 (y4 (fun h=>?_) (fun h=>?_))
  ·have h:=of_decide_eq_true (show decide (j<(N:Int))=true from h)
   have ws:=y5j ⟨1,vol,j,0,0,[]⟩
   have eS:(Blk.mk 1 vol j 0 0 []).sld.1=U6 vol k:=by rw[hj];rfl
   have eE:wrK vol (Dev.new N) (k+1)=(E.write j (U6 vol k)).2:=by rw[hE,hj];rfl
   have ww:=y4u E j (U6 vol k) (by have:=hEo.wl;omega)
   rw[eS]at ws
   generalize (Blk.mk 1 vol j 0 0 []).sld.2=e at ws
   generalize U6 vol k=s at ws ww eE
   generalize E.write j s=Y at ww eE
   obtain⟨f,F⟩:=Y
   have ww:AFm Tryz.prog 1 q7i [.ref 0 0,i64 j,bA s] (Y4 E) (v9 (i64 f) (Y4 F)):=ww
   have eE:wrK vol (Dev.new N) (k+1)=F:=eE
   refine z5 ?_
   refine z8 ⟨⟨67,[(0,i64 vol),(6,i64 N),(7,.ref 0 0),(9,i64 j)]⟩,Y4 F⟩ True (z3 (q8 (q7 hT ?_))) (fun _=>?_)
   ·refine y9 (w8v (w7 ws _ rfl rfl) ⟨.inl rfl,.inl rfl,.inl rfl,.inl rfl,.inl rfl,.inr ⟨rfl,1,rfl⟩,trivial⟩) ?_
    refine q7 hT ?_
    refine y9 (u6 [0,1,2] ww rfl rfl rfl) ?_
    exact⟨q9 [0,3,4] [0,6,7,9] rfl,trivial⟩
   ·refine q7 hT ?_
    refine⟨n - 1,by omega,_,q9 [0,1,2] [0,6,7,9] rfl,k+1,IntKind.i64.wrap (j+1),F,by omega,?_,eE.symm,rfl⟩
    rw[y7 _ (by omega) (by omega),hj];rfl
  ·have h:=of_decide_eq_false (show decide (j<(N:Int))=false from h)
   have hk:k=N:=by omega
   rw[hk]at hE
   rw[← hE]
   refine x9 ?_
   exact⟨q9 [0,1,2] [7] rfl,trivial⟩
 have okN:=okD N
 have wf:=y4s (wrK vol (Dev.new N) N) okN.at_ (by have:=okN.wl;omega)
 rw[← eB]at wf
 generalize (wrK vol (Dev.new N) N).flush.1=f at wf
 generalize q7y vol g=B at wf
 refine q8 (q7 hT ?_)
 refine y9 (u6 [0,1,2] wf rfl rfl rfl) ?_
 refine q8 (q7 hT ?_)
 refine y5 ?_
 exact z9 [0,3,4] ⟨rfl,rfl⟩ rfl
theorem z9n (vol:Int)(hv:Y1 vol=true)(a:Nat)(ha:a≤4294967295):U6 vol a=J9 (z7c vol a).all∧U3 (J9 (z7c vol a).all)=(z7c vol a,0)∧(U6 vol a).length=256:=by
 have hn:(z7c vol a).nums=true:=by
  unfold Blk.nums z7c
  simp only[List.all_cons,List.all_nil,Bool.and_eq_true,decide_eq_true_eq]
  have w1:Y1 (a:Int)=true:=by unfold Y1;simp only[Bool.and_eq_true,decide_eq_true_eq];omega
  exact⟨by decide,hv,w1,by decide,by decide,trivial⟩
 have hb:(z7c vol a).body.length≤228:=Nat.zero_le _
 have e:U6 vol a=J9 (z7c vol a).all:=by
  unfold U6 Blk.sld
  rw[hn,decide_eq_false (show ¬ (z7c vol a).body.length > 228 by omega)]
 refine⟨e,z9e hn hb,?_⟩
 rw[e,q6g,q9k _ hb]
theorem x0v (vol:Int)(hv:Y1 vol=true)(N:Nat)(hN:N≤4096):∀ k,k≤N→(wrK vol (Dev.new N) k).cells=(Dev.new N).cells∧(wrK vol (Dev.new N) k).waits=(List.range k).map (fun(a:Nat)=>(⟨(a:Int),U6 vol a⟩:Wr))∧(wrK vol (Dev.new N) k).dead=false∧(wrK vol (Dev.new N) k).armed=false
 |0,_=>⟨rfl,rfl,rfl,rfl⟩
 |k+1,hk=>by
  obtain⟨h1,h2,h3,h4⟩:=x0v vol hv N hN k (by omega)
  have hl:=(z9n vol hv k (by omega)).2.2
  have hc:(Dev.new N).cells[k]?=some cell1:=by
   show (List.replicate N cell1)[k]?=_
   rw[List.getElem?_replicate,if_pos (by omega)]
  show ((wrK vol (Dev.new N) k).write k (U6 vol k)).2.cells=_∧_
  generalize hE:wrK vol (Dev.new N) k=E at h1 h2 h3 h4
  have hh:E.has k=true:=v6k (N:=N) (by rw[h1];show (List.replicate N cell1).length=N;rw[List.length_replicate]) (by omega)
  have hld:E.lives.dead=false:=x4n h3 h4
  have hput:E.lives.count.put k (U6 vol k) = { E.lives.count with waits:=E.waits++[⟨(k:Int),U6 vol k⟩] }:=by
   unfold Dev.put
   rw[Int.toNat_natCast,show E.lives.count.cells[k]?=some cell1 by show E.cells[k]?=_;rw[h1];exact hc]
   rfl
  have e:E.write k (U6 vol k)=(0,{ E.lives.count with waits:=E.waits++[⟨(k:Int),U6 vol k⟩] }):=by
   rw[← hput]
   unfold Dev.write
   rw[h3,hh,show (((U6 vol k).length:Int) != 256)=false by rw[hl];rfl,hld]
  have e2:wrK vol (Dev.new N) (k+1) = { E.lives.count with waits:=E.waits++[⟨(k:Int),U6 vol k⟩] }:=by
   show ((wrK vol (Dev.new N) k).write k (U6 vol k)).2=_
   rw[hE,e]
  rw[e,e2]
  refine⟨h1,?_,hld,h4⟩
  rw[List.range_succ,List.map_append,← h2];rfl
theorem x0w (vol:Int)(cs:List Cell)(hw:∀ c∈cs,c.drop=0∧c.miss=[])(N:Nat)(hN:N≤cs.length):∀ i,i≤N→∀ a,(q2i ((List.range N).map (fun(a:Nat)=>(⟨(a:Int),U6 vol a⟩:Wr))) [true] i cs)[a]?=if a<i then some (z0c (U6 vol a)) else cs[a]?
 |0,_,a=>by rw[if_neg (by omega)];rfl
 |i+1,hi,a=>by
  have ih:=x0w vol cs hw N hN i (by omega)
  have hk:kept [true] i=true:=by
   unfold kept
   rw[show i % [true].length=0 from Nat.mod_one i];rfl
  have hg:((List.range N).map (fun(a:Nat)=>(⟨(a:Int),U6 vol a⟩:Wr))).getD i ⟨0,[]⟩=⟨(i:Int),U6 vol i⟩:=by
   rw[List.getD_eq_getElem?_getD,List.getElem?_map,List.getElem?_range (by omega)];rfl
  have hlen:=q4r ((List.range N).map (fun(a:Nat)=>(⟨(a:Int),U6 vol a⟩:Wr))) [true] cs i
  unfold q2i
  rw[hk,hg]
  show (q1s _ _)[a]?=_
  have hci:(q2i ((List.range N).map (fun(a:Nat)=>(⟨(a:Int),U6 vol a⟩:Wr))) [true] i cs)[i]?=cs[i]?:=by rw[ih i,if_neg (by omega)]
  obtain⟨c,hc⟩:∃ c,cs[i]?=some c:=⟨_,List.getElem?_eq_getElem (by omega)⟩
  have hcw:=hw c (List.mem_of_getElem? hc)
  rw[hc]at hci
  generalize q2i ((List.range N).map (fun(a:Nat)=>(⟨(a:Int),U6 vol a⟩:Wr))) [true] i cs=L at ih hlen hci ⊢
  rw[z4f (x:=⟨(i:Int),U6 vol i⟩) (c:=c) (by show L[((i:Nat):Int).toNat]?=_;rw[Int.toNat_natCast];exact hci)]
  show (L.set ((i:Nat):Int).toNat { c with s:=U6 vol i,lost:=false })[a]?=_
  rw[Int.toNat_natCast,List.getElem?_set]
  by_cases e:i=a
  ·subst e
   rw[if_pos rfl,if_pos (by omega),if_pos (by omega)]
   unfold z0c
   rw[← hcw.1,← hcw.2]
  ·rw[if_neg e,ih a]
   by_cases e2:a<i
   ·rw[if_pos e2,if_pos (by omega)]
   ·rw[if_neg e2,if_neg (by omega)]
theorem u1c (vol:Int)(hv:Y1 vol=true)(g:GeoV)(hg:g.may=true):CleanP (q7y vol g) g.secs g.secs∧∀ a,a<g.secs→(q7y vol g).cells[a]?=some (z0c (U6 vol a)):=by
 obtain⟨_,q2,_⟩:=x4p hg
 have okN:=w4u vol (v4h g.secs 0) g.secs
 obtain⟨h1,h2,h3,h4⟩:=x0v vol hv g.secs q2 g.secs (Nat.le_refl _)
 have okF:=okN.flush
 have eB:q7y vol g=(wrK vol (Dev.new g.secs) g.secs).flush.2:=rfl
 rw[← eB,Nat.zero_add]at okF
 generalize wrK vol (Dev.new g.secs) g.secs=E at h1 h2 h3 h4 eB
 have hld:E.lives.dead=false:=x4n h3 h4
 have e:E.flush=(0,E.lives.drain [true]):=by unfold Dev.flush;rw[h3,hld]
 rw[e]at eB
 have hcl:(Dev.new g.secs).cells.length=g.secs:=List.length_replicate
 have hwl:∀ c∈(Dev.new g.secs).cells,c.drop=0∧c.miss=[]:=fun c hc=>by rw[List.eq_of_mem_replicate hc];exact⟨rfl,rfl⟩
 have hcs:(q7y vol g).cells=q2i ((List.range g.secs).map (fun(a:Nat)=>(⟨(a:Int),U6 vol a⟩:Wr))) [true] g.secs (Dev.new g.secs).cells:=by
  rw[eB]
  show q2i E.waits [true] E.waits.length E.cells=_
  rw[h2,h1,List.length_map,List.length_range]
 have hca:=x0w vol (Dev.new g.secs).cells hwl g.secs (by omega) g.secs (Nat.le_refl _)
 have hcell:∀ a,a<g.secs→(q7y vol g).cells[a]?=some (z0c (U6 vol a)):=fun a ha=>by rw[hcs,hca a,if_pos ha]
 have hlen:(q7y vol g).cells.length=g.secs:=by rw[hcs,q4r];exact hcl
 refine⟨⟨okF,by rw[eB];exact hld,by rw[eB];exact h4,by rw[eB];rfl,hlen,fun c hc=>?_⟩,hcell⟩
 obtain⟨i,hi⟩:=List.getElem?_of_mem hc
 have hlt:=(List.getElem?_eq_some_iff.1 hi).1
 rw[hcell i (by omega)]at hi
 obtain rfl:=Option.some.inj hi
 exact⟨rfl,rfl⟩
end Go.Proofs.YtinfbclgkghgaaaGreat.AL
namespace Go.Proofs.YtinfbclgkghgaaaGreat.AL
open Go Go.Proofs Go.Proofs.YtinfbclgkghgaaaGreat.AL.Crc
def v9j (vol:Int)(g:GeoV)(c0:Int)(P:List Pc):Nat→Int
 |0=>c0
 |i+1=>match P[i]? with|some p=>u7x vol g p|none=>c0
def x4q (g:GeoV)(s0:Int)(i:Nat):Int:=(s0+i).tmod g.w
end Go.Proofs.YtinfbclgkghgaaaGreat.AL
