/- A part of the proof. -/
import Derived.Test.YtinfbclgkghgaaaGreatSnapF
/- Rounds: what stands behind the record is forgotten. -/
namespace Go.Proofs.YtinfbclgkghgaaaGreat.AL
open Go
theorem x1b {n:Nat}:∀ {l:List AV},(∀ u∈l,W5 n u=true)→U5 n l=true
 |[],_=>rfl
 |x :: r,h=>by
  simp only[U5,Bool.and_eq_true]
  exact⟨h x (by simp),x1b fun u hu=>h u (by simp[hu])⟩
theorem z7j {k n:Nat}{l:List (Nat × AV)}(h:q5x k l=true):U5 k (V3 n l)=true:=by
 refine x1b fun u hu=>?_
 unfold V3 at hu
 rw[List.mem_map]at hu
 obtain⟨t,_,rfl⟩:=hu
 cases e:Y5 l t with
 |none=>rfl
 |some u=>exact z1q h e
theorem y1b {n:Nat}{x:ABlk}:∀ {H:List ABlk},q3b n H=true→x3k n x=true→q3b n (H++[x])=true
 |[],_,h=>by simp[q3b,h]
 |y :: r,h,hx=>by
  simp only[q3b,Bool.and_eq_true,List.cons_append]at h ⊢
  exact⟨h.1,y1b h.2 hx⟩
theorem x1c {m:Nat}{s:St}(M:Nat)(ks:List Nat){q:RecK}{st:LoopState}{pe:Option Code}{l:List AV}(hM:s.H[M]?=some (.lp q st pe l))(hl:U5 (M+1) l=true)
 (hm:Nat.ble m (M+1)=true) (hf:q5x (M+1) (q2m s.fr.l ks)=true) (hb:q3b (M+1) (s.H.take M)=true) :
 Wk m s ⟨⟨s.fr.n,q2m s.fr.l ks⟩,s.H.take (M+1)⟩:=by
 have hlt:M<s.H.length:=(List.getElem?_eq_some_iff.1 hM).1
 refine z5s (M+1) ks hm (by rw[Nat.ble_eq];omega) hf ?_
 rw[List.take_add_one,hM]
 exact y1b hb hl
theorem w5w {m:Nat}{s:St}(ks:List Nat):Wk m s ⟨⟨s.fr.n,q2m s.fr.l ks⟩,s.H⟩:=fun _ _ I ι _ hs hm=>
 ⟨I,ι,hs.turn ⟨hs.fr.1,fun i u hu=>hs.fr.2 i u (q3z hu)⟩ hs.H (Ex.refl hm),Ex.refl hm⟩
/-- A round,where what the record holds is not looked at. -/
theorem x1d {P:Program}{α β:Type}{M n:Nat}{q:RecK}{lf:List (Nat × AV)}{args:List AV}{J:ABlk→α→List ABlk}{Z:ABlk→β→List ABlk}{a:α}{Rnd:α→Prop}{Stp:Code→β→Prop}
 (hJ:∀ L a,(J L a)[M]?=some L∧∀ L',(J L a).set M L'=J L' a) (hZ:∀ L z,(Z L z)[M]?=some L∧∀ L',(Z L z).set M L'=Z L' z)
 (hlf:∀ t u,Y5 lf t=some u→t<n) (hps:∀ p∈q.ps.toList,p<n) (hpa:q.ps.size=args.length) (hbf:q5x (M+1) lf=true)
 (hround:∀ B l,U5 (M+1) l=true→AW P (some B) (M+1) q.assign ⟨⟨n,z5v lf q.ps.toList args⟩,J (.lp q .ready none l) a⟩
  (y0s (fun s1=>s1.H[M]?=some (.lp q .ready none l)∧AW P (some B) (M+1) q.body ⟨s1.fr,s1.H.set M (.lp q .busy none l)⟩ (w2n M J Z (.lp q .busy none l) Rnd Stp)) (fun _ _=>False))) :
 AYm P (M+1) M args (J (.lp q .ready none (V3 n lf)) a) (fun r H'=>(r=.p (.raw (.bool true))∧∃ a',Rnd a'∧H'=J (.lp q .ready none (V3 n lf)) a')∨(r=.p (.raw (.bool false))∧∃ c z,Stp c z∧H'=Z (.lp q .done (some c) (V3 n lf)) z)):=
 v3k hJ hZ hlf hps hpa fun B=>hround B _ (z7j hbf)
theorem AYm.mono {P:Program}{m b:Nat}{args:List AV}{H:List ABlk}{R R':AV→List ABlk→Prop}(h:AYm P m b args H R)(hR:∀ r H',R r H'→R' r H'):AYm P m b args H R':=
 fun w I ι vals B hn ha hs hb=>let ⟨fn,tmps,assign,body,h1,h2⟩:=h w I ι vals B hn ha hs hb
  ⟨fn,tmps,assign,body,h1,h2.mono fun _ _ ⟨v,r,H',I',ι',e,hr,k⟩=>⟨v,r,H',I',ι',e,hR _ _ hr,k⟩⟩
theorem y6h {m:Nat}{s:St}(b k:Nat){t:TypeId}{sz:Nat}{xs:List (List PV)}(hb:s.H[b]?=some (.row t sz xs)):Wk m s ⟨s.fr,s.H.set b (.row t sz (xs.take k))⟩:=fun N w I ι a hs hm=>by
 have hlive:live s.H b:=⟨_,hb,rfl⟩
 have hlv:∀ c,live (s.H.set b (.row t sz (xs.take k))) c→live s.H c:=fun c hc=>q1p hc hlive
 have hsim:SimH w I ι (s.H.set b (.row t sz (xs.take k))):=by
  refine⟨fun c k' hc=>?_,fun c c' B hc hc'=>hs.H.inj c c' B (hlv c hc) (hlv c' hc'),hs.H.Ilt,fun c hc=>hs.H.dom c (by simpa using hc),hs.H.rng⟩
  by_cases e:c=b
  ·subst e
   rw[List.getElem?_set_self (V9 hlive)]at hc
   obtain rfl:=Option.some.inj hc
   rcases hs.H.blk c _ hb with ⟨g1,g2⟩|⟨B,cs,g1,g2,g3,g4,g5,g6⟩
   ·subst g1
    exact .inl ⟨List.take_nil,g2⟩
   ·have hle:(xs.take k).length≤xs.length:=by rw[List.length_take];omega
    refine .inr ⟨B,cs,g1,g2,g3,Nat.le_trans (Nat.mul_le_mul_right _ hle) g4,by omega,fun j e2 hj=>g6 j e2 ?_⟩
    have hj2:j<k:=by have:=(List.getElem?_eq_some_iff.1 hj).1;rw[List.length_take]at this;omega
    rw[List.getElem?_take_of_lt hj2]at hj
    exact hj
  ·rw[List.getElem?_set_ne (by omega)]at hc
   exact hs.H.blk c k' hc
 have hx:Ex m w I ι s.H w I ι (s.H.set b (.row t sz (xs.take k))):=⟨⟨rfl,rfl,rfl,Nat.le_refl _,Shape.refl w,fun _ h=>h,fun _ _ _=>rfl,fun _ h=>.inl h,fun c B hc h=>.inr ⟨c,hlv c hc,h⟩⟩,fun _ _=>rfl,by simpa using hm⟩
 exact⟨I,ι,hs.turn hs.fr hsim hx,hx⟩
theorem u0w {m:Nat}{s:St}(b:Nat){t:TypeId}{l:List AV}(ps:List PV)(hb:s.H[b]?=some (.cells t l))(hl:l=ps.map .p)(hn:Nat.ble ps.length 140737488355328=true) :
 Wk m s ⟨s.fr,s.H.set b (.row t 1 (ps.map fun p=>[p]))⟩:=fun N w I ι a hs hm=>by
 have hlive:live s.H b:=⟨_,hb,rfl⟩
 have hlv:∀ c,live (s.H.set b (.row t 1 (ps.map fun p=>[p]))) c→live s.H c:=fun c hc=>q1p hc hlive
 have hsim:SimH w I ι (s.H.set b (.row t 1 (ps.map fun p=>[p]))):=by
  refine⟨fun c k' hc=>?_,fun c c' B hc hc'=>hs.H.inj c c' B (hlv c hc) (hlv c' hc'),hs.H.Ilt,fun c hc=>hs.H.dom c (by simpa using hc),hs.H.rng⟩
  by_cases e:c=b
  ·subst e
   rw[List.getElem?_set_self (V9 hlive)]at hc
   obtain rfl:=Option.some.inj hc
   obtain⟨B,cs,g1,g2,g3,g4,g5⟩:=hs.H.blk c _ hb
   rw[hl,List.length_map]at g4
   refine .inr ⟨B,cs,g1,g2,g3,by rw[List.length_map];omega,by rw[List.length_map];exact Nat.le_of_ble_eq_true hn,fun j e2 hj=>?_⟩
   rw[List.getElem?_map]at hj
   cases hp:ps[j]? with
   |none=>rw[hp]at hj;cases hj
   |some p=>
    rw[hp]at hj
    obtain rfl:=Option.some.inj hj
    refine⟨rfl,fun i u hu=>?_⟩
    cases i with
    |succ i=>simp at hu
    |zero=>
     obtain rfl:p=u:=by simpa using hu
     have:=g5 j (.p p) (by rw[hl,List.getElem?_map,hp];rfl)
     rw[Nat.mul_one,Nat.add_zero]
     cases this with
     |p h=>exact h
  ·rw[List.getElem?_set_ne (by omega)]at hc
   exact hs.H.blk c k' hc
 have hx:Ex m w I ι s.H w I ι (s.H.set b (.row t 1 (ps.map fun p=>[p]))):=⟨⟨rfl,rfl,rfl,Nat.le_refl _,Shape.refl w,fun _ h=>h,fun _ _ _=>rfl,fun _ h=>.inl h,fun c B hc h=>.inr ⟨c,hlv c hc,h⟩⟩,fun _ _=>rfl,by simpa using hm⟩
 exact⟨I,ι,hs.turn hs.fr hsim hx,hx⟩
theorem u0x {m:Nat}{s:St}(i b sz:Nat)(h:Y5 s.fr.l i=some (.ref b 0)):Wk m s ⟨⟨s.fr.n,(i,.elr b sz 0 0) :: s.fr.l⟩,s.H⟩:=fun N w I ι a hs hm=>by
 refine⟨I,ι,hs.turn ⟨hs.fr.1,fun j u hu=>?_⟩ hs.H (Ex.refl hm),Ex.refl hm⟩
 by_cases e:i=j
 ·subst e
  rw[W6]at hu;obtain rfl:=Option.some.inj hu
  have:=hs.fr.2 i _ h
  generalize a.tmps.getD i undef=v at this ⊢
  cases this with
  |ref _ _ B hB =>
   have k:=ARep.elr (w:=w) (I:=I) b sz 0 0 B hB
   simpa using k
 ·rw[X8 _ _ e]at hu;exact hs.fr.2 j u hu
end Go.Proofs.YtinfbclgkghgaaaGreat.AL
namespace Go.Proofs.YtinfbclgkghgaaaGreat.AL
open Go Go.Proofs
def q4k (hit:Wr→Bool):List Wr→Option Wr
 |[]=>none
 |x :: r=>match q4k hit r with
  |some y=>some y
  |none=>match hit x with|true=>some x|false=>none
theorem y6i (hit:Wr→Bool)(x:Wr):∀ l,q4k hit (l++[x])=match hit x with|true=>some x|false=>q4k hit l
 |[]=>by cases h:hit x <;> simp[q4k,h]
 |y :: r=>by
  simp only[List.cons_append,q4k,y6i hit x r]
  cases hit x <;> rfl
theorem y6j (hit:Wr→Bool){l:List Wr}{i:Nat}{x:Wr}(h:l[i]?=some x):q4k hit (l.take (i+1))=match hit x with|true=>some x|false=>q4k hit (l.take i):=by
 rw[List.take_add_one,h];exact y6i hit x _
theorem v4h (l:List Wr):AFm Tryz.prog 1 q5z [.msl 0 2 0 l.length] [.row Z1 2 (wx l)] (Q0 (.clo (.func q1a) [.ref 1 0]) [.row Z1 2 (wx l),.cells q6x [.msl 0 2 0 l.length]]):=by
 refine Q9 1 hT q6a rfl rfl q6b rfl rfl ?_
 refine q8 (q7 hT ?_)
 refine q8 (q7 hT ?_)
 refine x6 ?_
 exact y9 [0,1] ⟨rfl,rfl⟩ rfl
abbrev y6k (D:Dev)(a:Int)(L:ABlk):List ABlk:=[q3r D 1 2,.row Z9 4 (cx D.cells),.row Z1 2 (wx D.waits),.cells q0m [i64 a],.cells z5 [.p (.raw (.slice none 0 0))],.cells q0q [i64 0],.cells q6x [.msl 2 2 0 D.waits.length],L]
abbrev w5x (D:Dev)(a:Int)(s:y7)(L:ABlk):List ABlk:=[q3r D 1 2,.row Z9 4 (cx D.cells),.row Z1 2 (wx D.waits),.cells q0m [i64 a],.cells z5 [bA s],.cells q0q [i64 0],.cells q6x [.msl 2 2 0 D.waits.length],L]
theorem v4i (D:Dev)(a:Int)(q:RecK)(l:List AV)(hn:D.waits.length≤1000000)(hit:Wr→Bool)(S:Code→y7→Prop)
 (hy:∀ (i:Nat) (x:Wr),D.waits[i]?=some x→AYm Tryz.prog 8 7 [i64 i,.agg [i64 x.at_,bA x.s]] (y6k D a (.lp q .ready none l)) (fun r H'=>(r=bl true∧hit x=false∧H'=y6k D a (.lp q .ready none l))∨(r=bl false∧hit x=true∧∃ c,S c x.s∧H'=w5x D a x.s (.lp q .done (some c) l)))) :
 AFm Tryz.prog 8 q1a [.yld 7,.ref 6 0] (y6k D a (.lp q .ready none l)) (fun _ H'=>(q4k hit D.waits=none∧H'=y6k D a (.lp q .ready none l))∨(∃ x c,q4k hit D.waits=some x∧S c x.s∧H'=w5x D a x.s (.lp q .done (some c) l))):=by
 refine Q9 8 hT q4w rfl rfl q4x rfl rfl ?_
 refine q8 (q7 hT ?_)
 refine z7 ?_
 refine w7 (fun n s=>∃ j:Int,j=(n:Int) - 1∧n≤D.waits.length∧q4k hit D.waits=q4k hit (D.waits.take n)∧s=⟨⟨19,[(0,.yld 7),(1,.ref 6 0),(3,i64 j)]⟩,y6k D a (.lp q .ready none l)⟩) D.waits.length ⟨⟨19,_⟩,_⟩ (w5w [0,1,3]) ⟨_,?_,Nat.le_refl _,by rw[List.take_length],rfl⟩ ?_
 ·exact x9 _ (by omega) (by omega)
 rintro n s ⟨j,hj,hle,hl,rfl⟩
 refine q8 (q8 (q7 hT ?_))
 refine z6 (x7 (fun h=>?_) (fun h=>?_))
 ·have h:=of_decide_eq_true h
  cases n with
  |zero=>omega
  |succ n=>
  have hj:j=(n:Int):=by omega
  subst hj
  have hx:=List.getElem?_eq_getElem (show n<D.waits.length by omega)
  generalize D.waits[n]=x at hx
  refine z9 ?_
  refine q8 (z7 (q8 (q7 hT ?_)))
  refine⟨⟨Int.natCast_nonneg _,by omega⟩,?_⟩
  refine u7 (show (wx D.waits)[0+((n:Nat):Int).toNat]?=some x.pv by rw[Nat.zero_add,Int.toNat_natCast];exact y6b hx) ?_
  refine⟨_,hy n x hx,?_⟩
  rintro r H' (⟨rfl,hh,rfl⟩|⟨rfl,hh,c,hT,rfl⟩)
  ·refine z6 ?_
   refine z9 ?_
   refine q7 hT ?_
   refine⟨n,by omega,_,w5w [0,1,3],_,?_,by omega,?_,rfl⟩
   ·exact x9 _ (by omega) (by omega)
   ·rw[hl,y6j hit hx,hh]
  ·refine z6 ?_
   refine x6 ?_
   refine⟨_,_,Wk.refl _ _,.inr ⟨x,c,?_,hT,rfl⟩⟩
   rw[hl,y6j hit hx,hh]
 ·have h:=of_decide_eq_false h
  refine u0 ?_
  have hn0:n=0:=by omega
  subst hn0
  exact⟨_,_,Wk.refl _ _,.inl ⟨hl,rfl⟩⟩
end Go.Proofs.YtinfbclgkghgaaaGreat.AL
namespace Go.Proofs.YtinfbclgkghgaaaGreat.AL
open Go Go.Proofs
abbrev q4h (a:Int):Wr→Bool:=fun x=>x.at_==a
def Dev.readAt (D:Dev)(a:Int):Int × y7:=match q4k (q4h a) D.waits with
 |some x=>(0,x.s)
 |none=>match D.cells[a.toNat]? with
  |some c=>match c.lost with|true=>(20,[])|false=>(0,c.s)
  |none=>(20,[])
def Dev.read (D:Dev)(a:Int):(y7 × Int) × Dev:=match D.dead with
 |true=>(([],21),D)
 |false=>match D.has a with
  |false=>(([],3),D)
  |true=>(((D.readAt a).2,(D.readAt a).1),D.count)
set_option maxRecDepth 20000 in
theorem x1e (D:Dev)(a:Int)(hn:D.waits.length≤1000000)(hs:∀ x∈D.waits,x.s.length≤1000000)(hc:∀ c∈D.cells,c.s.length≤1000000) :
 AFm Tryz.prog 3 q8w [.ref 0 0,i64 a] (Z5 D) (Q0 (.tup [bA (D.read a).1.1,i64 (D.read a).1.2]) (Z5 (D.read a).2)):=by
 refine Q9 3 hT z9p rfl rfl z9q rfl rfl ?_
 refine q8 (q7 hT ?_)
 refine y8 ⟨⟨54,[(0,.ref 0 0),(3,.ref 3 0),(4,.ref 4 0),(5,.ref 5 0)]⟩,[q3r D 1 2,.row Z9 4 (cx D.cells),.row Z1 2 (wx D.waits),.cells q0m [i64 a],.cells z5 [.p (.raw (.slice none 0 0))],.cells q0q [i64 0]]⟩ (D.dead=false∧D.has a=true) (z7 (q8 (q7 hT ?_))) ?_
 ·refine x8 (Q1 [0,1,2] (z3g D) rfl rfl rfl) ?_
  refine z6 (x7 (fun h=>?_) (fun h=>?_))
  ·have e:D.read a=(([],21),D):=by unfold Dev.read;rw[h]
   refine q8 (q7 hT ?_)
   refine Q8 (q0z 4 [.p (.sl 1 [])] rfl ⟨.inr (.inr (.inr ⟨1,rfl,rfl⟩)),trivial⟩) ?_
   refine x6 ?_
   rw[e]
   exact y9 [0,1,2] ⟨rfl,rfl⟩ rfl
  refine q8 (q7 hT ?_)
  refine x8 (Q1 [0,1,2] (z7h D a) rfl rfl rfl) ?_
  refine z6 (x7 (fun h1=>?_) (fun h1=>?_))
  ·have e:D.read a=(([],3),D):=by unfold Dev.read;rw[h,(Bool.not_eq_true' _).mp h1]
   refine q8 (q7 hT ?_)
   refine Q8 (q0z 4 [.p (.sl 1 [])] rfl ⟨.inr (.inr (.inr ⟨1,rfl,rfl⟩)),trivial⟩) ?_
   refine x6 ?_
   rw[e]
   exact y9 [0,1,2] ⟨rfl,rfl⟩ rfl
  exact z9 ⟨q9 [0,1,2,3,4,5] [0,3,4,5] rfl,h,(Bool.not_eq_false' _).mp h1⟩
 ·rintro⟨h,h1⟩
  have e:D.read a=(((D.readAt a).2,(D.readAt a).1),D.count):=by unfold Dev.read;rw[h,h1]
  rw[e]
  clear e
  have hlt:a.toNat<D.cells.length∧0≤a∧a<(D.cells.length:Int):=by
   have h1:(decide (a≥0)&&decide (a<(D.cells.length:Int)))=true:=h1
   rw[Bool.and_eq_true,decide_eq_true_eq,decide_eq_true_eq]at h1
   omega
  have hcg:=List.getElem?_eq_getElem hlt.1
  have hcs:=hc _ (List.getElem_mem hlt.1)
  generalize D.cells[a.toNat]=c at hcg hcs
  have g1:(cx D.cells)[0+a.toNat]?=some c.pv:=by rw[Nat.zero_add];exact y6a hcg
  refine q8 (q7 hT ?_)
  refine q8 (q8 (q7 hT ?_))
  refine x8 (Q1 [2] (v4h D.waits) rfl rfl rfl) ?_
  refine z7 ?_
  refine z5x 7 54 [0,1,2,3,4,5,6,7] [0,3,4,5,27] (fun L (_:Unit)=>y6k D.count a L) (fun L s=>w5x D.count a s L) () (fun _=>q4k (q4h a) D.waits=none) (fun c z=>c=.ret∧∃ x,q4k (q4h a) D.waits=some x∧z=x.s) rfl rfl (fun L _=>⟨rfl,fun _=>rfl⟩) (fun L _=>⟨rfl,fun _=>rfl⟩) rfl ?_ ?_ ?_
  ·refine AFm.mono (v4i D.count a _ _ hn (q4h a) (fun c z=>c=.ret) ?_) ?_
   ·intro i x hx
    refine AYm.mono (x1d (J:=fun L (_:Unit)=>y6k D.count a L) (Z:=fun L s=>w5x D.count a s L) (a:=()) (Rnd:=fun _=>q4h a x=false) (Stp:=fun c z=>c=.ret∧q4h a x=true∧z=x.s) (fun L _=>⟨rfl,fun _=>rfl⟩) (fun L _=>⟨rfl,fun _=>rfl⟩) ?_ ?_ rfl rfl ?_) ?_
    ·exact fun t u ht=>z5w (ks:=[0,3,4,5,27]) rfl ht
    ·show ∀ p∈[28,29],p<54
     decide
    ·intro B l hbl
     have hsx:=hs x (List.mem_of_getElem? (show D.waits[i]?=some x from hx))
     refine q7 hT ?_
     refine⟨rfl,?_⟩
     refine z7 (q8 (q7 hT ?_))
     refine z6 (x7 (fun h2=>?_) (fun h2=>?_))
     ·refine q8 (q7 hT ?_)
      refine x8 (u5 (z7i x.s hsx) _ rfl rfl) ?_
      refine x6 ?_
      exact⟨x.s,_,⟨rfl,h2,rfl⟩,x1c 7 [] rfl hbl rfl rfl rfl⟩
     ·refine z9 ?_
      exact⟨(),_,h2,x1c 7 [] rfl hbl rfl rfl rfl⟩
    ·rintro r H' (⟨hr,_,hh,hH⟩|⟨hr,c,z,⟨h3,h4,h5⟩,hH⟩)
     ·exact .inl ⟨hr,hh,hH⟩
     ·subst h5;exact .inr ⟨hr,h4,c,h3,hH⟩
   ·rintro r H' (⟨hx,rfl⟩|⟨x,c,hx,rfl,rfl⟩)
    ·exact .inl ⟨(),hx,rfl⟩
    ·exact .inr ⟨_,_,⟨rfl,x,hx,rfl⟩,rfl⟩
  ·intro _ hl
   refine q8 (q8 ?_)
   refine w9 [] [] hT z8 (by rfl) ?_
   refine⟨⟨hlt.2.1,hlt.2.2⟩,?_⟩
   refine u7 g1 ?_
   have e:D.readAt a=match c.lost with|true=>(20,[])|false=>(0,c.s):=by unfold Dev.readAt;rw[hl,hcg]
   refine z6 (x7 (fun h2=>?_) (fun h2=>?_))
   ·have h2:c.lost=true:=h2
    rw[h2]at e
    refine q8 (q7 hT ?_)
    refine Q8 (q0z 4 [.p (.sl 1 [])] rfl ⟨.inr (.inr (.inr ⟨1,rfl,rfl⟩)),trivial⟩) ?_
    refine x6 ?_
    rw[e]
    exact y9 [0,1,2] ⟨rfl,rfl⟩ rfl
   ·have h2:c.lost=false:=h2
    rw[h2]at e
    refine z9 ?_
    refine q8 ?_
    refine w9 [9,10] [] hT z8 (by rfl) ?_
    refine⟨⟨hlt.2.1,hlt.2.2⟩,?_⟩
    refine u7 g1 ?_
    refine⟨_,u5 (z7i c.s hcs) _ rfl rfl,?_⟩
    refine x6 ?_
    rw[e]
    exact y9 [0,1,2] ⟨rfl,rfl⟩ rfl
  ·rintro _ z ⟨rfl,x,hx,rfl⟩
   refine x6 ?_
   have e:D.readAt a=(0,x.s):=by unfold Dev.readAt;rw[hx]
   rw[e]
   exact y9 [0,1,2] ⟨rfl,rfl⟩ rfl
end Go.Proofs.YtinfbclgkghgaaaGreat.AL
namespace Go.Proofs.YtinfbclgkghgaaaGreat.AL
open Go Go.Proofs
abbrev z1a (D:Dev):List ABlk:=[q3r D 1 2,.row Z9 4 (cx D.cells),.row Z1 2 (wx D.waits),.cells q0h [.ref 0 0]]
abbrev v7t (a:Int):AV:=.clo (.func q1z) [.p (.box [.raw (.int .i64 a)]),.ref 3 0]
def Dev.hits (D:Dev)(a:Int)(x:Wr):Dev:=match q4h a x with|true=>D.done x|false=>D
theorem x9h (D:Dev)(a:Int)(x:Wr)(h0:0≤x.at_)(h1:x.at_.toNat<D.cells.length) :
 AFm Tryz.prog 4 q1z [.agg [i64 x.at_,bA x.s],.p (.box [.raw (.int .i64 a)]),.ref 3 0] (z1a D) (Q0 (bl (q4h a x)) (z1a (D.hits a x))):=by
 refine Q9 4 hT z1u rfl rfl z1v rfl rfl ?_
 refine q8 (q7 hT ?_)
 refine Q8 (Q6 4 [.raw (.int .i64 x.at_),bP x.s] rfl rfl) ?_
 refine y8 ⟨⟨16,[(1,.p (.box [.raw (.int .i64 a)])),(3,.p (.box [.raw (.int .i64 x.at_),bP x.s]))]⟩,z1a (D.hits a x)⟩ True (q8 (q7 hT ?_)) (fun _=>?_)
 ·refine z6 (x7 (fun h=>?_) (fun h=>?_))
  ·have h:q4h a x=true:=h
   refine q7 hT ?_
   refine x8 (Q1 [0,1,2] (x0z D x h0 h1) rfl rfl rfl) ?_
   refine⟨?_,trivial⟩
   have e:D.hits a x=D.done x:=by unfold Dev.hits;rw[h]
   rw[e]
   exact q9 [0,1,2,3] [1,3] rfl
  ·have h:q4h a x=false:=h
   refine z9 ⟨?_,trivial⟩
   have e:D.hits a x=D:=by unfold Dev.hits;rw[h]
   rw[e]
   exact q9 [0,1,2,3] [1,3] rfl
 ·refine q8 (q7 hT ?_)
  refine x6 ?_
  exact y9 [0,1,2,3] ⟨rfl,rfl⟩ rfl
theorem v4j (D:Dev)(a:Int)(hw:D.waitsIn)(hn:D.waits.length≤1000000) :
 AFm Tryz.prog 4 q5k [.msl 2 2 0 D.waits.length,v7t a] (z1a D) (fun r H'=>(r=i64 (-1)∧(∀ x∈D.waits,q4h a x=false)∧H'=z1a D) ∨
  (∃ (i:Nat) (x:Wr),D.waits[i]?=some x∧q4h a x=true∧(∀ y∈D.waits.take i,q4h a y=false)∧r=i64 i∧H'=z1a (D.done x))):=by
 refine Q9 4 hT q5m rfl rfl q5n rfl rfl ?_
 refine q8 (q7 hT ?_)
 refine q8 (q8 (q7 hT ?_))
 refine z7 ?_
 refine w7 (fun n s=>∃ (i:Nat) (j:Int),n+i=D.waits.length∧j=i∧(∀ y∈D.waits.take i,q4h a y=false)∧s=⟨⟨19,[(0,.msl 2 2 0 D.waits.length),(1,v7t a),(7,i64 D.waits.length),(8,i64 j)]⟩,z1a D⟩) D.waits.length ⟨⟨19,_⟩,[_,_,_,_]⟩ (q9 [0,1,2,3] [0,1,7,8] rfl) ⟨0,_,by omega,rfl,fun y hy=>by simp at hy,rfl⟩ ?_
 rintro n s ⟨i,j,hni,rfl,hl,rfl⟩
 refine q8 (q7 hT ?_)
 refine q8 (z6 (x7 (fun h=>?_) (fun h=>?_)))
 ·have hi:i<D.waits.length:=by
   have:=of_decide_eq_true (show decide ((i:Int)<(D.waits.length:Int))=true from h)
   omega
  have hx:=List.getElem?_eq_getElem hi
  have hin:=hw _ (List.getElem_mem hi)
  generalize D.waits[i]=x at hx hin
  refine z9 ?_
  refine q8 (z7 (q8 (q7 hT ?_)))
  refine q8 (q7 hT ?_)
  refine⟨⟨Int.natCast_nonneg _,of_decide_eq_true h⟩,?_⟩
  refine u7 (show (wx D.waits)[0+((i:Nat):Int).toNat]?=some x.pv by rw[Nat.zero_add,Int.toNat_natCast];exact y6b hx) ?_
  refine x8 (x9h D a x hin.1 (by omega)) ?_
  refine z6 (x7 (fun h2=>?_) (fun h2=>?_))
  ·have e:D.hits a x=D.done x:=by unfold Dev.hits;rw[h2]
   refine q8 (q7 hT ?_)
   refine x6 ?_
   refine⟨_,_,q9 [0,1,2,3] [0] rfl,.inr ⟨i,x,hx,h2,hl,rfl,?_⟩⟩
   rw[← e];rfl
  ·have e:D.hits a x=D:=by unfold Dev.hits;rw[h2]
   refine z9 ?_
   refine q7 hT ?_
   refine⟨n - 1,by omega,_,q9 [0,1,2,3] [0,1,7,8] rfl,i+1,IntKind.i64.wrap ((i:Int)+1),by omega,?_,?_,?_⟩
   ·rw[x9 _ (by omega) (by omega)];rfl
   ·intro y hy
    rw[List.take_add_one,hx,List.mem_append]at hy
    rcases hy with hy|hy
    ·exact hl y hy
    ·have:y=x:=by simpa using hy
     rw[this];exact h2
   ·refine congrArg (St.mk _) ?_
    show z1a (D.hits a x)=z1a D
    rw[e]
 ·refine u0 ?_
  have hi:i=D.waits.length:=by
   have:¬ ((i:Int)<(D.waits.length:Int)):=of_decide_eq_false h
   omega
  refine q8 (q7 hT ?_)
  refine x6 ?_
  refine⟨_,_,q9 [0,1,2,3] [0] rfl,.inl ⟨rfl,?_,rfl⟩⟩
  rw[hi,List.take_length]at hl
  exact hl
end Go.Proofs.YtinfbclgkghgaaaGreat.AL
namespace Go.Proofs.YtinfbclgkghgaaaGreat.AL
open Go Go.Proofs
def q0x (a:Int)(W:List Wr)(C:List Cell):List Cell:=W.foldl (fun C x=>match q4h a x with|true=>q1b C x|false=>C) C
def q1m (a:Int)(W:List Wr):List Wr:=W.filter fun x=>!q4h a x
def Dev.settle (D:Dev)(a:Int):Dev:={ D with cells:=q0x a D.waits D.cells,waits:=q1m a D.waits }
theorem z0e (a:Int)(W:List Wr)(x:Wr)(C:List Cell):q0x a (W++[x]) C=match q4h a x with|true=>q1b (q0x a W C) x|false=>q0x a W C:=by
 unfold q0x;rw[List.foldl_append];rfl
theorem q7x (a:Int)(W:List Wr):∀ C,(q0x a W C).length=C.length:=by
 induction W with
 |nil=>intro C;rfl
 |cons x r ih=>
  intro C
  show (q0x a r (match q4h a x with|true=>q1b C x|false=>C)).length=_
  rw[ih];split
  ·exact q8z _ _
  ·rfl
theorem y6m {a:Int}{W:List Wr}(h:∀ x∈W,q4h a x=false)(C:List Cell):q0x a W C=C:=by
 induction W generalizing C with
 |nil=>rfl
 |cons x r ih=>
  show q0x a r (match q4h a x with|true=>q1b C x|false=>C)=_
  rw[h x (by simp)];exact ih (fun y hy=>h y (by simp[hy])) C
theorem z5d {a:Int}{W:List Wr}(h:∀ x∈W,q4h a x=false):q1m a W=W:=by
 unfold q1m;rw[List.filter_eq_self];intro x hx;rw[h x hx];rfl
theorem z0f (a:Int)(W:List Wr)(x:Wr):q1m a (W++[x])=match q4h a x with|true=>q1m a W|false=>q1m a W++[x]:=by
 unfold q1m;rw[List.filter_append]
 cases h:q4h a x <;> simp[h]
theorem w3s (a:Int)(W:List Wr):(q1m a W).length≤W.length:=List.length_filter_le _ _
abbrev u0y (D:Dev)(a:Int):List ABlk:=[q3r D 1 2,.row Z9 4 (cx (q0x a D.waits D.cells)),.row Z1 2 (wx (q1m a D.waits)),.cells q0h [.ref 0 0]]
theorem u0z (l:List Wr)(i:Nat)(c:Wr):wx (l.set i c)=(wx l).set i c.pv:=by simp[wx,List.map_set]
structure DelOk (D:Dev) (a:Int) (k j:Nat) (C:List Cell) (W:List Wr):Prop where
 len:W.length=D.waits.length
 kj:k<j
 jn:j≤D.waits.length
 C:C=q0x a (D.waits.take j) D.cells
 W1:W.take k=q1m a (D.waits.take j)
 W2:W.drop j=D.waits.drop j
theorem DelOk.hit {D:Dev}{a:Int}{k j:Nat}{C:List Cell}{W:List Wr}(h:DelOk D a k j C W){x:Wr}(hx:D.waits[j]?=some x)(hh:q4h a x=true):DelOk D a k (j+1) (q1b C x) W:=by
 have hjl:j<D.waits.length:=(List.getElem?_eq_some_iff.1 hx).1
 refine⟨h.len,by have:=h.kj;omega,hjl,?_,?_,?_⟩
 ·rw[List.take_add_one,hx];show _=q0x a (_++[x]) _;rw[z0e,hh,← h.C]
 ·rw[List.take_add_one,hx];show _=q1m a (_++[x]);rw[z0f,hh,← h.W1]
 ·rw[← List.drop_drop,← List.drop_drop,h.W2]
theorem DelOk.miss {D:Dev}{a:Int}{k j:Nat}{C:List Cell}{W:List Wr}(h:DelOk D a k j C W){x:Wr}(hx:D.waits[j]?=some x)(hh:q4h a x=false):DelOk D a (k+1) (j+1) C (W.set k x):=by
 have hjl:j<D.waits.length:=(List.getElem?_eq_some_iff.1 hx).1
 have hkj:=h.kj
 refine⟨by rw[List.length_set];exact h.len,by omega,hjl,?_,?_,?_⟩
 ·rw[List.take_add_one,hx];show _=q0x a (_++[x]) _;rw[z0e,hh,← h.C]
 ·rw[List.take_add_one (l:=D.waits),hx];show _=q1m a (_++[x]);rw[z0f,hh,← h.W1]
  rw[List.take_add_one,List.getElem?_set_self (by rw[h.len];omega),List.take_set_of_le (Nat.le_refl _)];rfl
 ·rw[List.drop_set_of_lt (by omega),← List.drop_drop,← List.drop_drop,h.W2]
theorem u7r {α β γ:Sort _}(f:α→β→γ){a a':α}{b b':β}(h:a=a')(k:b=b'):f a b=f a' b':=by rw[h,k]
theorem w8n {α:Type}(l:List α)(k:Nat)(vs:List α)(h:k≤l.length):(W4 l k vs).take k=l.take k:=by
 unfold W4
 rw[List.append_assoc,List.take_append_of_le_length (by rw[List.length_take];omega),List.take_take,Nat.min_self]
theorem x9i (D:Dev)(a:Int)(C:List Cell)(W:List Wr)(hC:C.length=D.cells.length)(hW:W.length=D.waits.length)(x:Wr)(h0:0≤x.at_)(h1:x.at_.toNat<D.cells.length)(b:Bool)(C':List Cell)
 (hb:q4h a x=b) (hC':C'=match b with|true=>q1b C x|false=>C) :
 AFm Tryz.prog 4 q1z [.agg [i64 x.at_,bA x.s],.p (.box [.raw (.int .i64 a)]),.ref 3 0] [q3r D 1 2,.row Z9 4 (cx C),.row Z1 2 (wx W),.cells q0h [.ref 0 0]]
  (Q0 (bl b) [q3r D 1 2,.row Z9 4 (cx C'),.row Z1 2 (wx W),.cells q0h [.ref 0 0]]):=by
 have h:=x9h { D with cells:=C,waits:=W } a x h0 (by show x.at_.toNat<C.length;omega)
 have e1:z1a { D with cells:=C,waits:=W }=[q3r D 1 2,.row Z9 4 (cx C),.row Z1 2 (wx W),.cells q0h [.ref 0 0]]:=by
  unfold z1a q3r;rw[hC,hW]
 have e2:z1a (({ D with cells:=C,waits:=W }:Dev).hits a x)=[q3r D 1 2,.row Z9 4 (cx C'),.row Z1 2 (wx W),.cells q0h [.ref 0 0]]:=by
  unfold Dev.hits
  rw[hb]
  cases b with
  |true=>
   have hC'':C'.length=D.cells.length:=by rw[hC'];exact(q8z C x).trans hC
   rw[hC']at hC'' ⊢
   unfold z1a q3r Dev.done
   rw[show (q1b C x).length=D.cells.length from hC'',hW]
  |false=>rw[hC'];exact e1
 rw[e1,e2,hb]at h
 exact h
theorem w8p (D:Dev)(a:Int)(hw:D.waitsIn)(hn:D.waits.length≤1000000) :
 AFm Tryz.prog 4 q4t [.msl 2 2 0 D.waits.length,v7t a] (z1a D) (Q0 (.msl 2 2 0 (q1m a D.waits).length) (u0y D a)):=by
 refine Q9 4 hT q4u rfl rfl q4v rfl rfl ?_
 refine q8 (q7 hT ?_)
 refine q8 (q7 hT ?_)
 refine v9e (v4j D a hw hn) ?_
 rintro r H' (⟨rfl,hno,rfl⟩|⟨i,x,hx,hh,hno,rfl,rfl⟩)
 ·refine q8 (q8 (q7 hT ?_))
  refine z6 ?_
  refine q8 (q7 hT ?_)
  refine x6 ?_
  refine y9 [0,1,2,3] ⟨?_,?_⟩ rfl
  ·rw[z5d hno];rfl
  ·show z1a D=u0y D a
   unfold z1a u0y
   rw[z5d hno,y6m hno]
 ·have hi:i<D.waits.length:=(List.getElem?_eq_some_iff.1 hx).1
  refine q8 (q8 (q7 hT ?_))
  refine z6 ?_
  refine z9 ?_
  refine q8 (q8 (q7 hT ?_))
  refine z7 ?_
  refine w7 (fun n s=>∃ (k j:Nat) (k' j':Int) (C:List Cell) (W:List Wr),n+j=D.waits.length∧k'=k∧j'=j∧DelOk D a k j C W∧s=⟨⟨42,[(0,.msl 2 2 0 D.waits.length),(1,v7t a),(5,i64 k'),(6,i64 j')]⟩,[q3r D 1 2,.row Z9 4 (cx C),.row Z1 2 (wx W),.cells q0h [.ref 0 0]]⟩) (D.waits.length - (i+1)) ⟨⟨42,_⟩,[_,_,_,_]⟩ (q9 [0,1,2,3] [0,1,5,6] rfl) ⟨i,i+1,i,IntKind.i64.wrap ((i:Int)+1),q1b D.cells x,D.waits,by omega,rfl,?_,?_,?_⟩ ?_
  ·rw[x9 _ (by omega) (by omega)];rfl
  ·refine⟨rfl,by omega,hi,?_,?_,rfl⟩
   ·rw[List.take_add_one,hx];show _=q0x a (_++[x]) _;rw[z0e,hh,y6m hno]
   ·rw[List.take_add_one,hx];show _=q1m a (_++[x]);rw[z0f,hh,z5d hno]
  ·refine congrArg (St.mk _) ?_
   show z1a (D.done x)=_
   unfold z1a q3r
   rw[show (D.done x).cells.length=D.cells.length from q8z _ _]
   rfl
  rintro n s ⟨k,j,k',j',C,W,hnj,rfl,rfl,hd,rfl⟩
  refine q8 (q8 (q7 hT ?_))
  refine z6 (x7 (fun h=>?_) (fun h=>?_))
  ·have hj:j<D.waits.length:=by
    have:=of_decide_eq_true (show decide ((j:Int)<(D.waits.length:Int))=true from h)
    omega
   have hx2:=List.getElem?_eq_getElem hj
   have hin:=hw _ (List.getElem_mem hj)
   generalize D.waits[j]=y at hx2 hin
   have hkj:=hd.kj
   have hy:W[j]?=some y:=by
    have:=congrArg (fun l=>l[0]?) hd.W2
    simpa [hx2] using this
   have hCl:C.length=D.cells.length:=by rw[hd.C,q7x]
   refine z9 ?_
   refine q8 (z7 (q8 (q7 hT ?_)))
   refine⟨⟨Int.natCast_nonneg _,of_decide_eq_true h⟩,?_⟩
   refine u7 (show (wx W)[0+((j:Nat):Int).toNat]?=some y.pv by rw[Nat.zero_add,Int.toNat_natCast];exact y6b hy) ?_
   refine Q8 (Q6 4 [.raw (.int .i64 y.at_),bP y.s] rfl rfl) ?_
   refine q8 (q7 hT ?_)
   cases hh:q4h a y with
   |true=>
    refine x8 (Q1 [0,1,2,3] (x9i D a C W hCl hd.len y hin.1 (by omega) true (q1b C y) hh rfl) rfl rfl rfl) ?_
    refine z6 ?_
    refine z9 ?_
    refine q7 hT ?_
    refine⟨n - 1,by omega,_,q9 [0,1,2,3] [0,1,5,6] rfl,k,j+1,k,IntKind.i64.wrap ((j:Int)+1),q1b C y,W,by omega,rfl,?_,hd.hit hx2 hh,rfl⟩
    rw[x9 _ (by omega) (by omega)];rfl
   |false=>
    refine x8 (Q1 [0,1,2,3] (x9i D a C W hCl hd.len y hin.1 (by omega) false C hh rfl) rfl rfl rfl) ?_
    refine z6 ?_
    refine q8 (q7 hT ?_)
    refine⟨⟨Int.natCast_nonneg _,by omega⟩,?_⟩
    refine u7 (show (wx W)[0+((k:Nat):Int).toNat]?=some (W[k]'(by rw[hd.len];omega)).pv by rw[Nat.zero_add,Int.toNat_natCast];exact y6b (List.getElem?_eq_getElem _)) ?_
    refine y3v rfl (u7 rfl ?_)
    refine q7 hT ?_
    refine q7 hT ?_
    refine⟨n - 1,by omega,_,q9 [0,1,2,3] [0,1,5,6] rfl,k+1,j+1,IntKind.i64.wrap ((k:Int)+1),IntKind.i64.wrap ((j:Int)+1),C,W.set k y,by omega,?_,?_,hd.miss hx2 hh,?_⟩
    ·rw[x9 _ (by omega) (by omega)];rfl
    ·rw[x9 _ (by omega) (by omega)];rfl
    ·refine congrArg (St.mk _) ?_
     rw[u0z,show (wx W).set k y.pv=(wx W).set (0+((k:Nat):Int).toNat) y.pv by rw[Int.toNat_natCast,Nat.zero_add]]
     rfl
  ·refine u0 ?_
   have hj:j=D.waits.length:=by
    have:¬ ((j:Int)<(D.waits.length:Int)):=of_decide_eq_false h
    have:=hd.jn
    omega
   subst hj
   have hkj:=hd.kj
   refine q8 (q7 hT ?_)
   refine⟨⟨Int.natCast_nonneg _,by omega,Int.le_refl _⟩,?_⟩
   refine⟨by rw[z9y,hd.len];simp;omega,?_⟩
   refine q8 (q7 hT ?_)
   refine⟨⟨Int.le_refl _,Int.natCast_nonneg _,by omega⟩,?_⟩
   refine Q8 (y6h 2 k rfl) ?_
   refine x6 ?_
   have hk:=hd.W1
   rw[List.take_length]at hk
   have hkl:(q1m a D.waits).length=k:=by rw[← hk,List.length_take,hd.len];omega
   refine y9 [0,1,2,3] ⟨?_,?_⟩ rfl
   ·rw[hkl];rfl
   ·refine u7r (fun x y=>[q3r D 1 2,ABlk.row Z9 4 (cx x),ABlk.row Z1 2 y,ABlk.cells q0h [.ref 0 0]]) ?_ ?_
    ·rw[hd.C,List.take_length]
    ·show (W4 (wx W) (0+((k:Nat):Int).toNat) _).take k=_
     rw[Nat.zero_add,Int.toNat_natCast,w8n _ _ _ (by rw[z9y,hd.len];omega),← hk]
     simp[wx]
end Go.Proofs.YtinfbclgkghgaaaGreat.AL
namespace Go.Proofs.YtinfbclgkghgaaaGreat.AL
open Go Go.Proofs
theorem z1x (D:Dev)(a:Int)(hw:D.waitsIn)(hn:D.waits.length≤1000000):AFm Tryz.prog 3 z4t [.ref 0 0,i64 a] (Z5 D) (Q0 (.tup []) (Z5 (D.settle a))):=by
 refine Q9 3 hT z4u rfl rfl z4v rfl rfl ?_
 refine q8 (q7 hT ?_)
 refine Q8 (Q6 4 [.raw (.int .i64 a)] rfl rfl) ?_
 refine w9 [6,9] [] hT z8 (by rfl) ?_
 refine⟨_,_,Q1 [0,1,2,3] (w8p D a hw hn) rfl rfl rfl,?_⟩
 refine⟨rfl,?_⟩
 refine y9 [0,1,2] ⟨rfl,?_⟩ rfl
 unfold Z5 q3r
 rw[show (D.settle a).cells.length=D.cells.length from q7x _ _ _]
 rfl
structure Flt where
 kind:Int
 at_:Int
 off:Int
 n:Int
 to:Int
 m0:UInt8
 m1:UInt8
 m2:UInt8
 m3:UInt8
 deriving DecidableEq
abbrev Flt.pv (f:Flt):List PV:=[.raw (.int .i64 f.kind),.raw (.int .i64 f.at_),.raw (.int .i64 f.off),.raw (.int .i64 f.n),.raw (.int .i64 f.to),u8 f.m0,u8 f.m1,u8 f.m2,u8 f.m3]
abbrev Flt.av (f:Flt):AV:=.agg [i64 f.kind,i64 f.at_,i64 f.off,i64 f.n,i64 f.to,.p (u8 f.m0),.p (u8 f.m1),.p (u8 f.m2),.p (u8 f.m3)]
def Dev.upd (D:Dev)(a:Int)(g:Cell→Cell):Dev:={ D with cells:=D.cells.modify a.toNat g }
theorem y1c {l:List Cell}{i:Nat}{c:Cell}(g:Cell→Cell)(h:l[i]?=some c):l.modify i g=l.set i (g c):=by
 apply List.ext_getElem?
 intro j
 rw[List.getElem?_modify,List.getElem?_set]
 by_cases e:i=j
 ·subst e
  rw[if_pos rfl,if_pos (List.getElem?_eq_some_iff.1 h).1,h];simp
 ·simp[e]
theorem z1y (D:Dev)(a:Int)(g:Cell→Cell){c:Cell}(h:D.cells[a.toNat]?=some c):Z5 (D.upd a g)=[q3r D 1 2,.row Z9 4 ((cx D.cells).set (0+a.toNat) (g c).pv),.row Z1 2 (wx D.waits)]:=by
 rw[← y6f D a.toNat (g c)]
 unfold Dev.upd
 rw[y1c g h]
theorem q7y {D:Dev}{a:Int}(h:D.has a=true):a.toNat<D.cells.length∧0≤a∧a<(D.cells.length:Int):=by
 have h1:(decide (a≥0)&&decide (a<(D.cells.length:Int)))=true:=h
 rw[Bool.and_eq_true,decide_eq_true_eq,decide_eq_true_eq]at h1
 omega
theorem q7a (D:Dev){a:Int}(h:D.has a=true):∃ c,D.cells[a.toNat]?=some c∧(cx D.cells)[0+a.toNat]?=some c.pv:=by
 have hc:=List.getElem?_eq_getElem (q7y h).1
 exact⟨_,hc,by rw[Nat.zero_add];exact y6a hc⟩
theorem q3d (D:Dev)(a b:Int):(D.settle a).has b=D.has b:=by
 unfold Dev.has;rw[show (D.settle a).cells.length=D.cells.length from q7x _ _ _]
theorem bx_zeros:bx z4j=List.replicate 256 [PV.raw (.int .u8 0)]:=by
 unfold z4j bx;rw[List.map_replicate];rfl
theorem w8q (D:Dev)(f:Flt)(hw:D.waitsIn)(hn:D.waits.length≤1000000)(hh:D.has f.at_=true) :
 AFm Tryz.prog 3 z9e [.ref 0 0,f.av] (Z5 D) (Q0 (.tup []) (Z5 ((D.settle f.at_).upd f.at_ fun c=>{ c with lost:=true }))):=by
 refine Q9 3 hT z9f rfl rfl z9g rfl rfl ?_
 refine q8 (q7 hT ?_)
 refine Q8 (Q6 3 f.pv rfl rfl) ?_
 refine q8 (q7 hT ?_)
 refine x8 (Q1 [0,1,2] (z1x D f.at_ hw hn) rfl rfl rfl) ?_
 have hlt:=q7y ((q3d D f.at_ f.at_).trans hh)
 obtain⟨c,hc,g1⟩:=q7a (D.settle f.at_) ((q3d D f.at_ f.at_).trans hh)
 refine w9 [8] [] hT z8 (by rfl) ?_
 refine⟨⟨hlt.2.1,hlt.2.2⟩,?_⟩
 refine u7 g1 ?_
 exact y9 [0,1,2] ⟨rfl,(z1y (D.settle f.at_) f.at_ (fun c=>{ c with lost:=true }) hc).symm⟩ rfl
theorem w3t (D:Dev)(f:Flt)(hw:D.waitsIn)(hn:D.waits.length≤1000000)(hh:D.has f.at_=true) :
 AFm Tryz.prog 3 z6q [.ref 0 0,f.av] (Z5 D) (Q0 (.tup []) (Z5 ((D.settle f.at_).upd f.at_ fun c=>{ c with s:=z4j,lost:=false }))):=by
 refine Q9 3 hT z6r rfl rfl z6s rfl rfl ?_
 refine q8 (q7 hT ?_)
 refine Q8 (Q6 3 f.pv rfl rfl) ?_
 refine q8 (q7 hT ?_)
 refine x8 (Q1 [0,1,2] (z1x D f.at_ hw hn) rfl rfl rfl) ?_
 have hlt:=q7y ((q3d D f.at_ f.at_).trans hh)
 obtain⟨c,hc,g1⟩:=q7a (D.settle f.at_) ((q3d D f.at_ f.at_).trans hh)
 have g2:∀ e,((cx (D.settle f.at_).cells).set (0+f.at_.toNat) e)[0+f.at_.toNat]?=some e:=fun e=>by
  rw[Nat.zero_add];exact List.getElem?_set_self (by rw[x4x];exact hlt.1)
 refine w9 [15,18] [12] hT z8 (by rfl) ?_
 refine⟨⟨rfl,by omega,by decide,by omega⟩,?_⟩
 refine⟨⟨rfl,List.length_replicate.symm⟩,?_⟩
 refine⟨⟨hlt.2.1,hlt.2.2⟩,?_⟩
 refine u7 g1 ?_
 refine y3v rfl (u7 rfl ?_)
 refine⟨⟨hlt.2.1,hlt.2.2⟩,?_⟩
 refine u7 (g2 _) ?_
 refine⟨rfl,?_⟩
 refine y9 [0,1,2] ⟨rfl,?_⟩ rfl
 refine Eq.trans ?_ (z1y (D.settle f.at_) f.at_ (fun c=>{ c with s:=z4j,lost:=false }) hc).symm
 refine Eq.trans (congrArg (fun z=>[q3r (D.settle f.at_) 1 2,ABlk.row Z9 4 z,ABlk.row Z1 2 (wx (D.settle f.at_).waits)]) (List.set_set ..)) ?_
 refine congrArg (fun z=>[q3r (D.settle f.at_) 1 2,ABlk.row Z9 4 ((cx (D.settle f.at_).cells).set (0+f.at_.toNat) [.sl 1 z,.raw (.bool false),.raw (.int .i64 c.drop),iP c.miss]),ABlk.row Z1 2 (wx (D.settle f.at_).waits)]) ?_
 exact bx_zeros.symm
theorem w8r (D:Dev)(f:Flt)(hh:D.has f.at_=true) :
 AFm Tryz.prog 3 z9h [.ref 0 0,f.av] (Z5 D) (Q0 (.tup []) (Z5 (D.upd f.at_ fun c=>{ c with drop:=IntKind.i64.wrap (c.drop+f.n) }))):=by
 refine Q9 3 hT z9i rfl rfl z9j rfl rfl ?_
 refine q8 (q7 hT ?_)
 refine Q8 (Q6 3 f.pv rfl rfl) ?_
 have hlt:=q7y hh
 obtain⟨c,hc,g1⟩:=q7a D hh
 refine w9 [14] [] hT z8 (by rfl) ?_
 refine⟨⟨hlt.2.1,hlt.2.2⟩,?_⟩
 refine u7 g1 ?_
 refine⟨⟨hlt.2.1,hlt.2.2⟩,?_⟩
 refine u7 g1 ?_
 exact y9 [0,1,2] ⟨rfl,(z1y D f.at_ (fun c=>{ c with drop:=IntKind.i64.wrap (c.drop+f.n) }) hc).symm⟩ rfl
theorem w8s (D:Dev)(f:Flt)(hh:D.has f.at_=true)(hm:∀ c∈D.cells,c.miss.length≤1000000) :
 AFm Tryz.prog 3 z9k [.ref 0 0,f.av] (Z5 D) (Q0 (.tup []) (Z5 (D.upd f.at_ fun c=>{ c with miss:=c.miss++[f.to] }))):=by
 refine Q9 3 hT z9m rfl rfl z9n rfl rfl ?_
 refine q8 (q7 hT ?_)
 refine Q8 (Q6 3 f.pv rfl rfl) ?_
 have hlt:=q7y hh
 obtain⟨c,hc,g1⟩:=q7a D hh
 have hcm:=hm _ (List.mem_of_getElem? hc)
 refine q8 ?_
 refine w9 [] [] hT z8 (by rfl) ?_
 refine⟨⟨hlt.2.1,hlt.2.2⟩,?_⟩
 refine w9 [5,9,12] [8,9] hT z8 (by rfl) ?_
 refine u7 g1 ?_
 refine⟨_,_,q1t (w8m c.miss hcm) _ rfl,?_⟩
 refine⟨⟨rfl,rfl⟩,?_⟩
 refine⟨z9x _,⟨?_,?_⟩,?_⟩
 ·show ((ix c.miss).length+1)*8≤140737488355328
  rw[z9x];omega
 ·show (ix c.miss).length+1≤140737488355328
  rw[z9x];omega
 refine⟨⟨rfl,rfl⟩,?_⟩
 refine u7 g1 ?_
 refine⟨rfl,?_⟩
 refine⟨⟨⟨rfl,rfl⟩,rfl⟩,?_⟩
 refine y9 [0,1,2] ⟨rfl,?_⟩ rfl
 refine Eq.trans ?_ (z1y D f.at_ (fun c=>{ c with miss:=c.miss++[f.to] }) hc).symm
 have e:ix (c.miss++[f.to])=ix c.miss++[[.raw (.int .i64 f.to)]]:=by simp[ix]
 show _=[_,ABlk.row Z9 4 ((cx D.cells).set (0+f.at_.toNat) [_,_,_,.sl 1 (ix (c.miss++[f.to]))]),_]
 rw[e]
 rfl
end Go.Proofs.YtinfbclgkghgaaaGreat.AL
namespace Go.Proofs.YtinfbclgkghgaaaGreat.AL
open Go Go.Proofs
theorem w8t (l:y7)(hl:l.length≤1000000):AF Tryz.prog q0w [bA l] [] (Q0 (.msl 0 1 0 l.length) [.row z4 1 (bx l)]):=by
 have hb:=u6 l
 show AF Tryz.prog q0w [.p (.sl 1 (bx l))] [] _
 rw[← hb]
 generalize bx l=xs at hb
 refine u9 hT q6e rfl rfl q6f rfl ?_
 refine q8 (q7 hT ?_)
 refine q8 (q8 (q7 hT ?_))
 intro b hn
 refine z6 (x7 (fun h=>?_) (fun h=>?_))
 ·refine q8 (q7 hT ?_)
  refine x6 ?_
  rw[hn h]
  exact x3w z4 1 ⟨rfl,rfl⟩
 ·refine z9 ?_
  refine q8 (q7 hT ?_)
  refine⟨rfl,⟨?_,?_⟩,?_⟩
  ·show (0+xs.length)*1≤_;omega
  ·show 0+xs.length≤_;omega
  refine x6 ?_
  exact y9 [1] ⟨rfl,rfl⟩ rfl
def Flt.m (f:Flt):Nat→UInt8|0=>f.m0|1=>f.m1|2=>f.m2|_=>f.m3
def q6c (f:Flt)(s:y7):Nat→y7
 |0=>s
 |i+1=>match decide (f.off+i<(s.length:Int)) with
  |true=>(q6c f s i).set (f.off.toNat+i) ((q6c f s i).getD (f.off.toNat+i) 0 ^^^ f.m i)
  |false=>q6c f s i
theorem q9a (f:Flt)(s:y7):∀ i,(q6c f s i).length=s.length
 |0=>rfl
 |i+1=>by
  unfold q6c;split
  ·rw[List.length_set,q9a f s i]
  ·exact q9a f s i
theorem w3u (a b:UInt8):IntKind.u8.wrap ((BitVec.ofInt 8 (a.toNat:Int) ^^^ BitVec.ofInt 8 (b.toNat:Int)).toNat:Int)=((a ^^^ b).toNat:Int):=by
 have h1:BitVec.ofInt 8 (a.toNat:Int)=a.toBitVec:=by
  apply BitVec.eq_of_toNat_eq;simp
 have h2:BitVec.ofInt 8 (b.toNat:Int)=b.toBitVec:=by
  apply BitVec.eq_of_toNat_eq;simp
 rw[h1,h2]
 have h3:(a.toBitVec ^^^ b.toBitVec)=(a ^^^ b).toBitVec:=rfl
 rw[h3]
 have h4:(a ^^^ b).toBitVec.toNat<256:=(a ^^^ b).toBitVec.isLt
 show IntKind.u8.wrap (((a ^^^ b).toBitVec.toNat:Nat):Int)=(((a ^^^ b).toBitVec.toNat:Nat):Int)
 generalize (a ^^^ b).toBitVec.toNat=n at h4
 rw[IntKind.wrap_u8];omega
theorem z9z (f:Flt)(i:Nat)(h0:0≤f.off)(h1:f.off<256)(hi:i<4):IntKind.i64.wrap (f.off+((i:Nat):Int))=f.off+(i:Int)∧(IntKind.i64.wrap (f.off+((i:Nat):Int))).toNat=f.off.toNat+i:=by
 rw[x9 _ (by omega) (by omega)];omega
theorem q7z (f:Flt)(s:y7)(i:Nat)(h0:0≤f.off)(h1:f.off<256)(hi:i<4)(h:f.off+(i:Int)<(s.length:Int)) :
 (bx (q6c f s i))[0+(IntKind.i64.wrap (f.off+((i:Nat):Int))).toNat]?=some [u8 ((q6c f s i).getD (f.off.toNat+i) 0)]:=by
 rw[Nat.zero_add,(z9z f i h0 h1 hi).2]
 have hl:f.off.toNat+i<(q6c f s i).length:=by rw[q9a];omega
 rw[bx,List.getElem?_map,List.getElem?_eq_getElem hl,List.getD_eq_getElem?_getD,List.getElem?_eq_getElem hl];rfl
theorem y3e (f:Flt)(s:y7)(i:Nat)(h0:0≤f.off)(h1:f.off<256)(hi:i<4)(h:f.off+(i:Int)<(s.length:Int)) :
 bx (q6c f s (i+1))=(bx (q6c f s i)).set (0+(IntKind.i64.wrap (f.off+((i:Nat):Int))).toNat) [.raw (.int .u8 (IntKind.u8.wrap ((BitVec.ofInt 8 (((q6c f s i).getD (f.off.toNat+i) 0).toNat:Int) ^^^ BitVec.ofInt 8 ((f.m i).toNat:Int)).toNat:Int)))]:=by
 rw[Nat.zero_add,(z9z f i h0 h1 hi).2,w3u]
 conv=>lhs;unfold q6c
 rw[decide_eq_true h]
 show bx (List.set _ _ _)=_
 rw[bx,List.map_set];rfl
theorem x4y (f:Flt)(s:y7)(i:Nat)(h:¬ f.off+(i:Int)<(s.length:Int)):q6c f s (i+1)=q6c f s i:=by
 conv=>lhs;unfold q6c
 rw[decide_eq_false h]
theorem v4k (D:Dev)(f:Flt)(hw:D.waitsIn)(hn:D.waits.length≤1000000)(hh:D.has f.at_=true)(h0:0≤f.off)(h1:f.off<256)(hs:∀ c∈(D.settle f.at_).cells,c.s.length≤1000000) :
 AFm Tryz.prog 3 y1y [.ref 0 0,f.av] (Z5 D) (Q0 (.tup []) (Z5 ((D.settle f.at_).upd f.at_ fun c=>{ c with s:=q6c f c.s 4 }))):=by
 refine Q9 3 hT y1z rfl rfl y2a rfl rfl ?_
 refine q8 (q7 hT ?_)
 refine Q8 (Q6 3 f.pv rfl rfl) ?_
 refine q8 (q7 hT ?_)
 refine x8 (Q1 [0,1,2] (z1x D f.at_ hw hn) rfl rfl rfl) ?_
 have hlt:=q7y ((q3d D f.at_ f.at_).trans hh)
 obtain⟨c,hc,g1⟩:=q7a (D.settle f.at_) ((q3d D f.at_ f.at_).trans hh)
 have hcs:=hs _ (List.mem_of_getElem? hc)
 refine q8 ?_
 refine w9 [9] [] hT z8 (by rfl) ?_
 refine⟨⟨hlt.2.1,hlt.2.2⟩,?_⟩
 refine u7 g1 ?_
 refine⟨_,_,q1t (w8t c.s hcs) _ rfl,?_⟩
 refine q8 (q8 (q7 hT ?_))
 refine z7 ?_
 refine w7 (fun n s=>∃ (i:Nat) (j:Int),n+i=4∧j=i∧s=⟨⟨54,[(0,.ref 0 0),(3,.p (.box f.pv)),(4,.msl 3 1 0 c.s.length),(22,.agg [.p (u8 f.m0),.p (u8 f.m1),.p (u8 f.m2),.p (u8 f.m3)]),(23,i64 j)]⟩,Z5 (D.settle f.at_)++[.row z4 1 (bx (q6c f c.s i))]⟩) 4 ⟨⟨54,_⟩,[_,_,_,_]⟩ (q9 [0,1,2,4] [0,3,4,22,23] rfl) ⟨0,_,rfl,rfl,rfl⟩ ?_
 rintro n s ⟨i,j,hni,rfl,rfl⟩
 refine q8 (q7 hT ?_)
 refine q8 (z6 (x7 (fun h=>?_) (fun h=>?_)))
 ·have hi:i<4:=by
   have:=of_decide_eq_true (show decide ((i:Int)<4)=true from h)
   omega
  refine z9 ?_
  obtain rfl|rfl|rfl|rfl:i=0∨i=1∨i=2∨i=3:=by omega
  ·refine q8 (z7 (q8 (q7 hT ?_)))
   refine⟨⟨by omega,by omega⟩,?_⟩
   have ha:=z9z f 0 h0 h1 (by omega)
   refine q8 (q7 hT ?_)
   refine z6 (x7 (fun h3=>?_) (fun h3=>?_))
   ·have h3:f.off+((0:Nat):Int)<(c.s.length:Int):=by
     have:=of_decide_eq_true h3
     rw[ha.1]at this;exact this
    refine q7 hT ?_
    refine⟨⟨by rw[ha.1];omega,by rw[ha.1];exact h3⟩,?_⟩
    refine u7 (q7z f c.s 0 h0 h1 (by omega) h3) ?_
    refine⟨⟨by rw[ha.1];omega,by rw[ha.1];exact h3⟩,?_⟩
    refine u7 (q7z f c.s 0 h0 h1 (by omega) h3) ?_
    refine q7 hT ?_
    refine⟨n - 1,by omega,_,q9 [0,1,2,3] [0,3,4,22,23] rfl,0+1,IntKind.i64.wrap (((0:Nat):Int)+1),by omega,by decide,?_⟩
    refine congrArg (St.mk _) ?_
    rw[y3e f c.s 0 h0 h1 (by omega) h3]
    rfl
   ·have h3:¬ f.off+((0:Nat):Int)<(c.s.length:Int):=by
     have:=of_decide_eq_false h3
     rw[ha.1]at this;exact this
    refine z9 ?_
    refine q7 hT ?_
    refine⟨n - 1,by omega,_,q9 [0,1,2,3] [0,3,4,22,23] rfl,0+1,IntKind.i64.wrap (((0:Nat):Int)+1),by omega,by decide,?_⟩
    refine congrArg (St.mk _) ?_
    rw[x4y f c.s 0 h3]
    rfl
  ·refine q8 (z7 (q8 (q7 hT ?_)))
   refine⟨⟨by omega,by omega⟩,?_⟩
   have ha:=z9z f 1 h0 h1 (by omega)
   refine q8 (q7 hT ?_)
   refine z6 (x7 (fun h3=>?_) (fun h3=>?_))
   ·have h3:f.off+((1:Nat):Int)<(c.s.length:Int):=by
     have:=of_decide_eq_true h3
     rw[ha.1]at this;exact this
    refine q7 hT ?_
    refine⟨⟨by rw[ha.1];omega,by rw[ha.1];exact h3⟩,?_⟩
    refine u7 (q7z f c.s 1 h0 h1 (by omega) h3) ?_
    refine⟨⟨by rw[ha.1];omega,by rw[ha.1];exact h3⟩,?_⟩
    refine u7 (q7z f c.s 1 h0 h1 (by omega) h3) ?_
    refine q7 hT ?_
    refine⟨n - 1,by omega,_,q9 [0,1,2,3] [0,3,4,22,23] rfl,1+1,IntKind.i64.wrap (((1:Nat):Int)+1),by omega,by decide,?_⟩
    refine congrArg (St.mk _) ?_
    rw[y3e f c.s 1 h0 h1 (by omega) h3]
    rfl
   ·have h3:¬ f.off+((1:Nat):Int)<(c.s.length:Int):=by
     have:=of_decide_eq_false h3
     rw[ha.1]at this;exact this
    refine z9 ?_
    refine q7 hT ?_
    refine⟨n - 1,by omega,_,q9 [0,1,2,3] [0,3,4,22,23] rfl,1+1,IntKind.i64.wrap (((1:Nat):Int)+1),by omega,by decide,?_⟩
    refine congrArg (St.mk _) ?_
    rw[x4y f c.s 1 h3]
    rfl
  ·refine q8 (z7 (q8 (q7 hT ?_)))
   refine⟨⟨by omega,by omega⟩,?_⟩
   have ha:=z9z f 2 h0 h1 (by omega)
   refine q8 (q7 hT ?_)
   refine z6 (x7 (fun h3=>?_) (fun h3=>?_))
   ·have h3:f.off+((2:Nat):Int)<(c.s.length:Int):=by
     have:=of_decide_eq_true h3
     rw[ha.1]at this;exact this
    refine q7 hT ?_
    refine⟨⟨by rw[ha.1];omega,by rw[ha.1];exact h3⟩,?_⟩
    refine u7 (q7z f c.s 2 h0 h1 (by omega) h3) ?_
    refine⟨⟨by rw[ha.1];omega,by rw[ha.1];exact h3⟩,?_⟩
    refine u7 (q7z f c.s 2 h0 h1 (by omega) h3) ?_
    refine q7 hT ?_
    refine⟨n - 1,by omega,_,q9 [0,1,2,3] [0,3,4,22,23] rfl,2+1,IntKind.i64.wrap (((2:Nat):Int)+1),by omega,by decide,?_⟩
    refine congrArg (St.mk _) ?_
    rw[y3e f c.s 2 h0 h1 (by omega) h3]
    rfl
   ·have h3:¬ f.off+((2:Nat):Int)<(c.s.length:Int):=by
     have:=of_decide_eq_false h3
     rw[ha.1]at this;exact this
    refine z9 ?_
    refine q7 hT ?_
    refine⟨n - 1,by omega,_,q9 [0,1,2,3] [0,3,4,22,23] rfl,2+1,IntKind.i64.wrap (((2:Nat):Int)+1),by omega,by decide,?_⟩
    refine congrArg (St.mk _) ?_
    rw[x4y f c.s 2 h3]
    rfl
  ·refine q8 (z7 (q8 (q7 hT ?_)))
   refine⟨⟨by omega,by omega⟩,?_⟩
   have ha:=z9z f 3 h0 h1 (by omega)
   refine q8 (q7 hT ?_)
   refine z6 (x7 (fun h3=>?_) (fun h3=>?_))
   ·have h3:f.off+((3:Nat):Int)<(c.s.length:Int):=by
     have:=of_decide_eq_true h3
     rw[ha.1]at this;exact this
    refine q7 hT ?_
    refine⟨⟨by rw[ha.1];omega,by rw[ha.1];exact h3⟩,?_⟩
    refine u7 (q7z f c.s 3 h0 h1 (by omega) h3) ?_
    refine⟨⟨by rw[ha.1];omega,by rw[ha.1];exact h3⟩,?_⟩
    refine u7 (q7z f c.s 3 h0 h1 (by omega) h3) ?_
    refine q7 hT ?_
    refine⟨n - 1,by omega,_,q9 [0,1,2,3] [0,3,4,22,23] rfl,3+1,IntKind.i64.wrap (((3:Nat):Int)+1),by omega,by decide,?_⟩
    refine congrArg (St.mk _) ?_
    rw[y3e f c.s 3 h0 h1 (by omega) h3]
    rfl
   ·have h3:¬ f.off+((3:Nat):Int)<(c.s.length:Int):=by
     have:=of_decide_eq_false h3
     rw[ha.1]at this;exact this
    refine z9 ?_
    refine q7 hT ?_
    refine⟨n - 1,by omega,_,q9 [0,1,2,3] [0,3,4,22,23] rfl,3+1,IntKind.i64.wrap (((3:Nat):Int)+1),by omega,by decide,?_⟩
    refine congrArg (St.mk _) ?_
    rw[x4y f c.s 3 h3]
    rfl
 ·refine u0 ?_
  have hi:i=4:=by
   have:=of_decide_eq_false (show decide ((i:Int)<4)=false from h)
   omega
  subst hi
  refine Q8 (y3c 4 3 rfl rfl (by rw[u6,q9a];omega)) ?_
  refine w9 [9] [] hT z8 (by rfl) ?_
  refine⟨⟨hlt.2.1,hlt.2.2⟩,?_⟩
  refine u7 g1 ?_
  refine y9 [0,1,2] ⟨rfl,?_⟩ rfl
  refine Eq.trans ?_ (z1y (D.settle f.at_) f.at_ (fun c=>{ c with s:=q6c f c.s 4 }) hc).symm
  refine congrArg (fun z=>[q3r (D.settle f.at_) 1 2,ABlk.row Z9 4 ((cx (D.settle f.at_).cells).set (0+f.at_.toNat) [.sl 1 z,.raw (.bool c.lost),.raw (.int .i64 c.drop),iP c.miss]),ABlk.row Z1 2 (wx (D.settle f.at_).waits)]) ?_
  show ((bx (q6c f c.s 4)).drop 0).take c.s.length=_
  rw[List.drop_zero,← q9a f c.s 4,← u6,List.take_length]
end Go.Proofs.YtinfbclgkghgaaaGreat.AL
namespace Go.Proofs.YtinfbclgkghgaaaGreat.AL
open Go Go.Proofs
def Dev.may (D:Dev)(f:Flt):Int:=match D.has f.at_ with
 |false=>3
 |true=>match decide (f.kind<1)||decide (f.kind > 5) with
  |true=>1
  |false=>match (f.kind==1)&&(decide (f.off<0)||decide (f.off≥256)) with
   |true=>1
   |false=>match (f.kind==4)&&(decide (f.n<1)||decide (f.n > 1000)) with
    |true=>1
    |false=>match (f.kind==5)&&!(D.has f.to) with
     |true=>3
     |false=>0
theorem v4m (D:Dev)(f:Flt):AFm Tryz.prog 3 y1v [.ref 0 0,f.av] (Z5 D) (Q0 (i64 (D.may f)) (Z5 D)):=by
 refine Q9 3 hT y1w rfl rfl y1x rfl rfl ?_
 refine q8 (q7 hT ?_)
 refine Q8 (Q6 3 f.pv rfl rfl) ?_
 refine y8 ⟨⟨57,[]⟩,Z5 D⟩ (D.may f=0) (z7 (q8 (q7 hT ?_))) ?_
 ·refine x8 (Q1 [0,1,2] (z7h D f.at_) rfl rfl rfl) ?_
  refine z6 (x7 (fun h=>?_) (fun h=>?_))
  ·have e:D.may f=3:=by unfold Dev.may;rw[(Bool.not_eq_true' _).mp h]
   refine q8 (q7 hT ?_)
   refine x6 ?_
   rw[e]
   exact y9 [0,1,2] ⟨rfl,rfl⟩ rfl
  have h:D.has f.at_=true:=(Bool.not_eq_false' _).mp h
  have one:(decide (f.kind<1)||decide (f.kind > 5))=true→D.may f=1:=fun h2=>by unfold Dev.may;rw[h,h2]
  refine w6 (fun s1=>∃ b,b=(decide (f.kind<1)||decide (f.kind > 5))∧s1=⟨⟨57,[(0,.ref 0 0),(3,.p (.box f.pv)),(11,bl b)]⟩,Z5 D⟩) (q8 (q7 hT ?_)) ?_
  ·refine z6 (x7 (fun h2=>?_) (fun h2=>?_))
   ·refine z9 ⟨_,q9 [0,1,2] [0,3,11] rfl,decide (f.kind<1),?_,rfl⟩
    rw[show decide (f.kind<1)=true from h2];rfl
   ·refine q7 hT ?_
    refine⟨_,q9 [0,1,2] [0,3,11] rfl,decide (f.kind > 5),?_,rfl⟩
    rw[show decide (f.kind<1)=false from h2];rfl
  rintro _ ⟨b,hb,rfl⟩
  refine z6 (x7 (fun h2=>?_) (fun h2=>?_))
  ·have e:D.may f=1:=one (hb.symm.trans h2)
   refine q8 (q7 hT ?_)
   refine x6 ?_
   rw[e]
   exact y9 [0,1,2] ⟨rfl,rfl⟩ rfl
  have hk:(decide (f.kind<1)||decide (f.kind > 5))=false:=hb.symm.trans h2
  have two:((f.kind==1)&&(decide (f.off<0)||decide (f.off≥256)))=true→D.may f=1:=fun h3=>by unfold Dev.may;rw[h,hk,h3]
  refine w6 (fun s1=>∃ b,b=((f.kind==1)&&(decide (f.off<0)||decide (f.off≥256)))∧s1=⟨⟨57,[(0,.ref 0 0),(3,.p (.box f.pv)),(18,bl b)]⟩,Z5 D⟩) (q7 hT ?_) ?_
  ·refine x7 (fun h3=>?_) (fun h3=>?_)
   ·have h3:(f.kind==1)=true:=h3
    refine x7 (fun h4=>?_) (fun h4=>?_)
    ·refine⟨_,q9 [0,1,2] [0,3,18] rfl,true,?_,rfl⟩
     rw[h3,show decide (f.off<0)=true from h4];rfl
    ·refine⟨_,q9 [0,1,2] [0,3,18] rfl,decide (f.off≥256),?_,rfl⟩
     rw[h3,show decide (f.off<0)=false from h4];rfl
   ·have h3:(f.kind==1)=false:=h3
    refine⟨_,q9 [0,1,2] [0,3,18] rfl,false,?_,rfl⟩
    rw[h3];rfl
  rintro _ ⟨b,hb,rfl⟩
  refine z6 (x7 (fun h2=>?_) (fun h2=>?_))
  ·have e:D.may f=1:=two (hb.symm.trans h2)
   refine q8 (q7 hT ?_)
   refine x6 ?_
   rw[e]
   exact y9 [0,1,2] ⟨rfl,rfl⟩ rfl
  have hk2:((f.kind==1)&&(decide (f.off<0)||decide (f.off≥256)))=false:=hb.symm.trans h2
  have three:((f.kind==4)&&(decide (f.n<1)||decide (f.n > 1000)))=true→D.may f=1:=fun h3=>by unfold Dev.may;rw[h,hk,hk2,h3]
  refine w6 (fun s1=>∃ b,b=((f.kind==4)&&(decide (f.n<1)||decide (f.n > 1000)))∧s1=⟨⟨57,[(0,.ref 0 0),(3,.p (.box f.pv)),(32,bl b)]⟩,Z5 D⟩) (q7 hT ?_) ?_
  ·refine x7 (fun h3=>?_) (fun h3=>?_)
   ·have h3:(f.kind==4)=true:=h3
    refine x7 (fun h4=>?_) (fun h4=>?_)
    ·refine⟨_,q9 [0,1,2] [0,3,32] rfl,true,?_,rfl⟩
     rw[h3,show decide (f.n<1)=true from h4];rfl
    ·refine⟨_,q9 [0,1,2] [0,3,32] rfl,decide (f.n > 1000),?_,rfl⟩
     rw[h3,show decide (f.n<1)=false from h4];rfl
   ·have h3:(f.kind==4)=false:=h3
    refine⟨_,q9 [0,1,2] [0,3,32] rfl,false,?_,rfl⟩
    rw[h3];rfl
  rintro _ ⟨b,hb,rfl⟩
  refine z6 (x7 (fun h2=>?_) (fun h2=>?_))
  ·have e:D.may f=1:=three (hb.symm.trans h2)
   refine q8 (q7 hT ?_)
   refine x6 ?_
   rw[e]
   exact y9 [0,1,2] ⟨rfl,rfl⟩ rfl
  have hk3:((f.kind==4)&&(decide (f.n<1)||decide (f.n > 1000)))=false:=hb.symm.trans h2
  refine q8 (q7 hT ?_)
  refine x7 (fun h3=>?_) (fun h3=>?_)
  ·have h3:(f.kind==5)=true:=h3
   refine x8 (Q1 [0,1,2] (z7h D f.to) rfl rfl rfl) ?_
   refine z6 (x7 (fun h4=>?_) (fun h4=>?_))
   ·have e:D.may f=3:=by unfold Dev.may;rw[h,hk,hk2,hk3,h3,show (!(D.has f.to))=true from h4];rfl
    refine q8 (q7 hT ?_)
    refine x6 ?_
    rw[e]
    exact y9 [0,1,2] ⟨rfl,rfl⟩ rfl
   ·have e:D.may f=0:=by unfold Dev.may;rw[h,hk,hk2,hk3,h3,show (!(D.has f.to))=false from h4];rfl
    exact z9 ⟨q9 [0,1,2] [] rfl,e⟩
  ·have h3:(f.kind==5)=false:=h3
   have e:D.may f=0:=by unfold Dev.may;rw[h,hk,hk2,hk3,h3];rfl
   refine z6 ?_
   exact z9 ⟨q9 [0,1,2] [] rfl,e⟩
 ·intro e
  refine q8 (q7 hT ?_)
  refine x6 ?_
  rw[e]
  exact y9 [0,1,2] ⟨rfl,rfl⟩ rfl
end Go.Proofs.YtinfbclgkghgaaaGreat.AL
namespace Go.Proofs.YtinfbclgkghgaaaGreat.AL
open Go Go.Proofs
structure Dev.Ok (D:Dev) (b:Nat):Prop where
 at_:∀ x∈D.waits,0≤x.at_∧x.at_<(D.cells.length:Int)
 ws:∀ x∈D.waits,x.s.length=256
 cs:∀ c∈D.cells,c.s.length=256
 mt:∀ c∈D.cells,∀ t∈c.miss,0≤t∧t<(D.cells.length:Int)
 ml:∀ c∈D.cells,c.miss.length≤b
 wl:D.waits.length≤b
def Dev.hurt (D:Dev)(f:Flt):Dev:=
 if f.kind=1 then (D.settle f.at_).upd f.at_ fun c=>{ c with s:=q6c f c.s 4 }
 else if f.kind=2 then (D.settle f.at_).upd f.at_ fun c=>{ c with s:=z4j,lost:=false }
 else if f.kind=3 then (D.settle f.at_).upd f.at_ fun c=>{ c with lost:=true }
 else if f.kind=4 then D.upd f.at_ fun c=>{ c with drop:=IntKind.i64.wrap (c.drop+f.n) }
 else D.upd f.at_ fun c=>{ c with miss:=c.miss++[f.to] }
def Dev.fault (D:Dev)(f:Flt):Int × Dev:=match D.may f==0 with
 |false=>(D.may f,D)
 |true=>(0,D.hurt f)
theorem v4n {D:Dev}{f:Flt}(h:D.may f=0):D.has f.at_=true∧(1≤f.kind∧f.kind≤5)∧(f.kind=1→0≤f.off∧f.off<256)∧(f.kind=4→1≤f.n∧f.n≤1000)∧(f.kind=5→D.has f.to=true):=by
 unfold Dev.may at h
 split at h
 ·omega
 rename_i h1
 split at h
 ·omega
 rename_i h2
 split at h
 ·omega
 rename_i h3
 split at h
 ·omega
 rename_i h4
 split at h
 ·omega
 rename_i h5
 simp only[Bool.or_eq_false_iff,decide_eq_false_iff_not,Bool.and_eq_false_iff,beq_eq_false_iff_ne,Bool.not_eq_false']at h2 h3 h4 h5
 refine⟨h1,by omega,fun hk=>?_,fun hk=>?_,fun hk=>?_⟩
 ·rcases h3 with h3|h3
  ·exact absurd hk h3
  ·omega
 ·rcases h4 with h4|h4
  ·exact absurd hk h4
  ·omega
 ·rcases h5 with h5|h5
  ·exact absurd hk h5
  ·exact h5
theorem x1f {C:List Cell}{x:Wr}{c:Cell}(h:c∈q1b C x):c∈C∨∃ c0∈C,c = { c0 with s:=x.s,lost:=false }:=by
 unfold q1b at h
 split at h
 ·rename_i c0 hc0
  rcases List.mem_or_eq_of_mem_set h with h|h
  ·exact .inl h
  ·exact .inr ⟨c0,List.mem_of_getElem? hc0,h⟩
 ·exact .inl h
theorem z1z {a:Int}{W:List Wr}{C:List Cell}{c:Cell}(h:c∈q0x a W C):∃ c0∈C,c.miss=c0.miss∧(c.s=c0.s∨∃ x∈W,c.s=x.s):=by
 induction W generalizing C with
 |nil=>exact⟨c,h,rfl,.inl rfl⟩
 |cons x r ih=>
  have h:c∈q0x a r (match q4h a x with|true=>q1b C x|false=>C):=h
  obtain⟨c1,h1,h2,h3⟩:=ih h
  have:∃ c0∈C,c1.miss=c0.miss∧(c1.s=c0.s∨c1.s=x.s):=by
   split at h1
   ·rcases x1f h1 with h1|⟨c0,h0,e⟩
    ·exact⟨c1,h1,rfl,.inl rfl⟩
    ·exact⟨c0,h0,by rw[e],.inr (by rw[e])⟩
   ·exact⟨c1,h1,rfl,.inl rfl⟩
  obtain⟨c0,g1,g2,g3⟩:=this
  refine⟨c0,g1,h2.trans g2,?_⟩
  rcases h3 with h3|⟨y,hy,h3⟩
  ·rcases g3 with g3|g3
   ·exact .inl (h3.trans g3)
   ·exact .inr ⟨x,by simp,h3.trans g3⟩
  ·exact .inr ⟨y,by simp[hy],h3⟩
theorem Dev.Ok.settle {D:Dev}{b:Nat}(h:D.Ok b)(a:Int):(D.settle a).Ok b:=by
 have hl:(D.settle a).cells.length=D.cells.length:=q7x _ _ _
 have hw:∀ x∈(D.settle a).waits,x∈D.waits:=fun x hx=>(List.mem_filter.1 hx).1
 refine⟨fun x hx=>by rw[hl];exact h.at_ x (hw x hx),fun x hx=>h.ws x (hw x hx),fun c hc=>?_,fun c hc t ht=>?_,fun c hc=>?_,Nat.le_trans (w3s a D.waits) h.wl⟩
 ·obtain⟨c0,h0,_,h2⟩:=z1z hc
  rcases h2 with h2|⟨x,hx,h2⟩
  ·rw[h2];exact h.cs c0 h0
  ·rw[h2];exact h.ws x hx
 ·obtain⟨c0,h0,h1,_⟩:=z1z hc
  rw[h1]at ht;rw[hl];exact h.mt c0 h0 t ht
 ·obtain⟨c0,h0,h1,_⟩:=z1z hc
  rw[h1];exact h.ml c0 h0
theorem y6n (D:Dev)(f:Flt)(b:Nat)(hD:D.Ok b)(hb:b≤1000000):AFm Tryz.prog 3 q7s [.ref 0 0,f.av] (Z5 D) (Q0 (i64 (D.fault f).1) (Z5 (D.fault f).2)):=by
 refine Q9 3 hT z6c rfl rfl z6d rfl rfl ?_
 refine q8 (q7 hT ?_)
 refine Q8 (Q6 3 f.pv rfl rfl) ?_
 refine q8 (q8 (q7 hT ?_))
 refine x8 (Q1 [0,1,2] (v4m D f) rfl rfl rfl) ?_
 refine q8 (q7 hT ?_)
 refine z6 (x7 (fun h=>?_) (fun h=>?_))
 ·have h:(D.may f==0)=false:=by
   have h:(D.may f != 0)=true:=h
   simpa using h
  have e:D.fault f=(D.may f,D):=by unfold Dev.fault;rw[h]
  refine q8 (q7 hT ?_)
  refine x6 ?_
  rw[e]
  exact y9 [0,1,2] ⟨rfl,rfl⟩ rfl
 have h:(D.may f==0)=true:=by
  have h:(D.may f != 0)=false:=h
  simpa using h
 have e:D.fault f=(0,D.hurt f):=by unfold Dev.fault;rw[h]
 have hm:=v4n (show D.may f=0 by simpa using h)
 rw[e]
 refine z9 ?_
 refine q8 (q7 hT ?_)
 obtain⟨k,fa,fo,fn,ft,f0,f1,f2,f3⟩:=f
 have hw:D.waitsIn:=fun x hx=>hD.at_ x hx
 have hn:D.waits.length≤1000000:=Nat.le_trans hD.wl hb
 have hcs:∀ c∈(D.settle fa).cells,c.s.length≤1000000:=fun c hc=>by rw[(hD.settle fa).cs c hc];omega
 have hml:∀ c∈D.cells,c.miss.length≤1000000:=fun c hc=>Nat.le_trans (hD.ml c hc) hb
 have hk:k=1∨k=2∨k=3∨k=4∨k=5:=by have:=hm.2.1;simp only at this;omega
 rcases hk with rfl|rfl|rfl|rfl|rfl
 ·refine q8 (q7 hT ?_)
  refine x8 (Q1 [0,1,2] (v4k D ⟨1,fa,fo,fn,ft,f0,f1,f2,f3⟩ hw hn hm.1 (hm.2.2.1 rfl).1 (hm.2.2.1 rfl).2 hcs) rfl rfl rfl) ?_
  refine q8 (q7 hT ?_)
  refine x6 ?_
  exact y9 [0,1,2] ⟨rfl,rfl⟩ rfl
 ·refine q8 (q7 hT ?_)
  refine x8 (Q1 [0,1,2] (w3t D ⟨2,fa,fo,fn,ft,f0,f1,f2,f3⟩ hw hn hm.1) rfl rfl rfl) ?_
  refine q8 (q7 hT ?_)
  refine x6 ?_
  exact y9 [0,1,2] ⟨rfl,rfl⟩ rfl
 ·refine q8 (q7 hT ?_)
  refine x8 (Q1 [0,1,2] (w8q D ⟨3,fa,fo,fn,ft,f0,f1,f2,f3⟩ hw hn hm.1) rfl rfl rfl) ?_
  refine q8 (q7 hT ?_)
  refine x6 ?_
  exact y9 [0,1,2] ⟨rfl,rfl⟩ rfl
 ·refine q8 (q7 hT ?_)
  refine x8 (Q1 [0,1,2] (w8r D ⟨4,fa,fo,fn,ft,f0,f1,f2,f3⟩ hm.1) rfl rfl rfl) ?_
  refine q8 (q7 hT ?_)
  refine x6 ?_
  exact y9 [0,1,2] ⟨rfl,rfl⟩ rfl
 ·refine q8 (q7 hT ?_)
  refine x8 (Q1 [0,1,2] (w8s D ⟨5,fa,fo,fn,ft,f0,f1,f2,f3⟩ hm.1 hml) rfl rfl rfl) ?_
  refine q8 (q7 hT ?_)
  refine x6 ?_
  exact y9 [0,1,2] ⟨rfl,rfl⟩ rfl
end Go.Proofs.YtinfbclgkghgaaaGreat.AL
namespace Go.Proofs.YtinfbclgkghgaaaGreat.AL
open Go Go.Proofs
def Q1x (b:UInt8):y7:=List.replicate 256 b
theorem u1a (l:y7)(i:Nat)(b:UInt8):bx (l.set i b)=(bx l).set i [u8 b]:=by simp[bx,List.map_set]
theorem z0g (s t:y7)(hs:s.length≤1000000):AF Tryz.prog x4a [bA s,bA t] [] (Q0 (bl (s==t)) []):=by
 refine u9 hT x4b rfl rfl x4c rfl ?_
 refine q8 (q7 hT ?_)
 refine q8 (q8 (q7 hT ?_))
 refine z6 (x7 (fun h=>?_) (fun h=>?_))
 ·have hne:(s==t)=false:=by
   have h:(((bx s).length:Int) != ((bx t).length:Int))=true:=h
   rw[u6,u6]at h
   rw[beq_eq_false_iff_ne]
   rintro rfl
   simp at h
  refine q8 (q7 hT ?_)
  refine x6 ?_
  rw[hne]
  exact y9 [] ⟨rfl,rfl⟩ rfl
 have hlen:s.length=t.length:=by
  have h:(((bx s).length:Int) != ((bx t).length:Int))=false:=h
  rw[u6,u6]at h
  have h:(s.length:Int)=t.length:=by simpa using h
  omega
 refine z9 ?_
 refine q8 (q8 (q7 hT ?_))
 refine z7 ?_
 refine w7 (fun n st=>∃ (i:Nat) (j:Int),n+i=s.length∧j=i∧s.take i=t.take i∧st=⟨⟨26,[(0,bA s),(1,bA t),(5,i64 j)]⟩,[]⟩) s.length ⟨⟨26,_⟩,[]⟩ (q9 [] [0,1,5] rfl) ⟨0,_,rfl,rfl,rfl,rfl⟩ ?_
 rintro n st ⟨i,j,hni,rfl,ht,rfl⟩
 refine q8 (q8 (q7 hT ?_))
 refine z6 (x7 (fun h=>?_) (fun h=>?_))
 ·have hi:i<s.length:=by
   have:=of_decide_eq_true (show decide ((i:Int)<((bx s).length:Int))=true from h)
   rw[u6]at this;omega
  have hx:(bx s)[((i:Nat):Int).toNat]?=some [u8 s[i]]:=by
   rw[Int.toNat_natCast,bx,List.getElem?_map,List.getElem?_eq_getElem hi];rfl
  have hy:(bx t)[((i:Nat):Int).toNat]?=some [u8 (t[i]'(by omega))]:=by
   rw[Int.toNat_natCast,bx,List.getElem?_map,List.getElem?_eq_getElem (by omega)];rfl
  refine z9 ?_
  refine q8 (z7 (q8 ?_))
  refine w9 [] [] hT z8 (by rfl) ?_
  refine⟨Int.natCast_nonneg _,u7 hx ?_⟩
  refine⟨Int.natCast_nonneg _,u7 hy ?_⟩
  refine z6 (x7 (fun h2=>?_) (fun h2=>?_))
  ·have hne:(s==t)=false:=by
    rw[beq_eq_false_iff_ne]
    rintro rfl
    have h2:(((s[i].toNat:Nat):Int) != ((s[i].toNat:Nat):Int))=true:=h2
    simp at h2
   refine q8 (q7 hT ?_)
   refine x6 ?_
   rw[hne]
   exact y9 [] ⟨rfl,rfl⟩ rfl
  ·have he:s[i]=t[i]'(by omega):=by
    have h2:(((s[i].toNat:Nat):Int) != (((t[i]'(by omega)).toNat:Nat):Int))=false:=h2
    have h2:(s[i].toNat:Int)=((t[i]'(by omega)).toNat:Int):=by simpa using h2
    have h2:s[i].toNat=(t[i]'(by omega)).toNat:=by omega
    exact UInt8.toNat_inj.mp h2
   refine z9 ?_
   refine q7 hT ?_
   refine⟨n - 1,by omega,_,q9 [] [0,1,5] rfl,i+1,IntKind.i64.wrap ((i:Int)+1),by omega,?_,?_,rfl⟩
   ·rw[x9 _ (by omega) (by omega)];rfl
   ·rw[List.take_add_one,List.take_add_one,ht,List.getElem?_eq_getElem hi,List.getElem?_eq_getElem (show i<t.length by omega),he]
 ·refine u0 ?_
  have hi:i=s.length:=by
   have:=of_decide_eq_false (show decide ((i:Int)<((bx s).length:Int))=false from h)
   rw[u6]at this;omega
  have he:(s==t)=true:=by
   rw[beq_iff_eq]
   rw[hi,List.take_length,hlen,List.take_length]at ht
   exact ht
  refine q8 (q7 hT ?_)
  refine x6 ?_
  rw[he]
  exact y9 [] ⟨rfl,rfl⟩ rfl
end Go.Proofs.YtinfbclgkghgaaaGreat.AL
namespace Go.Proofs.YtinfbclgkghgaaaGreat.AL
open Go Go.Proofs
theorem Dev.Ok.mono {D:Dev}{b b':Nat}(h:D.Ok b)(hb:b≤b'):D.Ok b':=
 ⟨h.at_,h.ws,h.cs,h.mt,fun c hc=>Nat.le_trans (h.ml c hc) hb,Nat.le_trans h.wl hb⟩
theorem v4p (n b:Nat):(Dev.new n).Ok b:=by
 refine⟨fun x hx=>by simp[Dev.new]at hx,fun x hx=>by simp[Dev.new]at hx,fun c hc=>?_,fun c hc t ht=>?_,fun c hc=>?_,Nat.zero_le _⟩
 ·rw[List.eq_of_mem_replicate hc];exact List.length_replicate
 ·rw[List.eq_of_mem_replicate hc]at ht;simp at ht
 ·rw[List.eq_of_mem_replicate hc];exact Nat.zero_le _
theorem Dev.Ok.lives {D:Dev}{b:Nat}(h:D.Ok b):D.lives.Ok b:=⟨h.at_,h.ws,h.cs,h.mt,h.ml,h.wl⟩
theorem Dev.Ok.count {D:Dev}{b:Nat}(h:D.Ok b):D.count.Ok b:=⟨h.at_,h.ws,h.cs,h.mt,h.ml,h.wl⟩
theorem Dev.Ok.arm {D:Dev}{b:Nat}(h:D.Ok b)(n:Int):(D.arm n).Ok b:=⟨h.at_,h.ws,h.cs,h.mt,h.ml,h.wl⟩
theorem Dev.Ok.read {D:Dev}{b:Nat}(h:D.Ok b)(a:Int):(D.read a).2.Ok b:=by
 unfold Dev.read
 split
 ·exact h
 ·split
  ·exact h
  ·exact h.count
theorem z5e {W:List Wr}{keep:List Bool}{C:List Cell}{i:Nat}{c:Cell}(h:c∈q1k W keep i C)(hi:i≤W.length):∃ c0∈C,c.miss=c0.miss∧(c.s=c0.s∨∃ x∈W,c.s=x.s):=by
 induction i generalizing c with
 |zero=>exact⟨c,h,rfl,.inl rfl⟩
 |succ i ih=>
  unfold q1k at h
  split at h
  ·have hx:W.getD i ⟨0,[]⟩∈W:=by
    rw[List.getD_eq_getElem?_getD,List.getElem?_eq_getElem (by omega)]
    exact List.getElem_mem _
   rcases x1f h with h|⟨c0,h0,e⟩
   ·exact ih h (by omega)
   ·obtain⟨c1,g1,g2,_⟩:=ih h0 (by omega)
    refine⟨c1,g1,by rw[e];exact g2,.inr ⟨_,hx,by rw[e]⟩⟩
  ·exact ih h (by omega)
theorem Dev.Ok.drain {D:Dev}{b:Nat}(h:D.Ok b)(keep:List Bool):(D.drain keep).Ok b:=by
 have hl:(D.drain keep).cells.length=D.cells.length:=q4y _ _ _ _
 refine⟨fun x hx=>by simp[Dev.drain]at hx,fun x hx=>by simp[Dev.drain]at hx,fun c hc=>?_,fun c hc t ht=>?_,fun c hc=>?_,Nat.zero_le _⟩
 ·obtain⟨c0,h0,_,h2⟩:=z5e hc (Nat.le_refl _)
  rcases h2 with h2|⟨x,hx,h2⟩
  ·rw[h2];exact h.cs c0 h0
  ·rw[h2];exact h.ws x hx
 ·obtain⟨c0,h0,h1,_⟩:=z5e hc (Nat.le_refl _)
  rw[h1]at ht;rw[hl];exact h.mt c0 h0 t ht
 ·obtain⟨c0,h0,h1,_⟩:=z5e hc (Nat.le_refl _)
  rw[h1];exact h.ml c0 h0
theorem Dev.Ok.crashed {D:Dev}{b:Nat}(h:D.Ok b)(keep:List Bool):(D.crashed keep).Ok b:=by
 have h:=h.drain keep
 exact⟨h.at_,h.ws,h.cs,h.mt,h.ml,h.wl⟩
theorem Dev.Ok.flush {D:Dev}{b:Nat}(h:D.Ok b):D.flush.2.Ok b:=by
 unfold Dev.flush
 split
 ·exact h
 ·split
  ·exact h.lives
  ·exact h.lives.drain _
theorem Dev.Ok.set {D:Dev}{b:Nat}(h:D.Ok b)(i:Nat){c:Cell}(h1:c.s.length=256)(h2:∀ t∈c.miss,0≤t∧t<(D.cells.length:Int))(h3:c.miss.length≤b):({ D with cells:=D.cells.set i c }:Dev).Ok b:=by
 have hm:∀ x∈D.cells.set i c,x∈D.cells∨x=c:=fun x hx=>List.mem_or_eq_of_mem_set hx
 refine⟨fun x hx=>by show _∧_<((D.cells.set i c).length:Int);rw[List.length_set];exact h.at_ x hx,h.ws,fun x hx=>?_,fun x hx t ht=>?_,fun x hx=>?_,h.wl⟩
 ·rcases hm x hx with hx|rfl
  ·exact h.cs x hx
  ·exact h1
 ·show _∧_<((D.cells.set i c).length:Int)
  rw[List.length_set]
  rcases hm x hx with hx|rfl
  ·exact h.mt x hx t ht
  ·exact h2 t ht
 ·rcases hm x hx with hx|rfl
  ·exact h.ml x hx
  ·exact h3
theorem Dev.Ok.wait {D:Dev}{b:Nat}(h:D.Ok b){x:Wr}(h1:0≤x.at_∧x.at_<(D.cells.length:Int))(h2:x.s.length=256):({ D with waits:=D.waits++[x] }:Dev).Ok (b+1):=by
 have hm:∀ y∈D.waits++[x],y∈D.waits∨y=x:=fun y hy=>by simpa using hy
 refine⟨fun y hy=>?_,fun y hy=>?_,h.cs,h.mt,fun c hc=>Nat.le_succ_of_le (h.ml c hc),?_⟩
 ·rcases hm y hy with hy|rfl
  ·exact h.at_ y hy
  ·exact h1
 ·rcases hm y hy with hy|rfl
  ·exact h.ws y hy
  ·exact h2
 ·show (D.waits++[x]).length≤b+1
  have:=h.wl
  simp;omega
theorem Dev.Ok.put {D:Dev}{b:Nat}(h:D.Ok b){a:Int}(ha:D.has a=true){s:y7}(hs:s.length=256):(D.put a s).Ok (b+1):=by
 have hlt:=q7y ha
 obtain⟨c,hc,_⟩:=q7a D ha
 have hcm:=List.mem_of_getElem? hc
 obtain⟨c1,c2,c3,c4⟩:=c
 cases h3:decide (c3 > 0) with
 |true=>
  rw[x9f hc h3]
  exact(h.set a.toNat (c:=⟨c1,c2,IntKind.i64.wrap (c3 - 1),c4⟩) (h.cs ⟨c1,c2,c3,c4⟩ hcm) (h.mt ⟨c1,c2,c3,c4⟩ hcm) (h.ml ⟨c1,c2,c3,c4⟩ hcm)).mono (Nat.le_succ _)
 |false=>
  cases c4 with
  |nil=>
   rw[x1a hc h3]
   exact h.wait hlt.2 hs
  |cons t r=>
   rw[x9g hc h3]
   have ht:=h.mt _ hcm t (by simp)
   have h1:=h.set a.toNat (c:=⟨c1,c2,c3,r⟩) (h.cs ⟨c1,c2,c3,t :: r⟩ hcm) (fun t' ht'=>h.mt _ hcm t' (by simp[ht'])) (Nat.le_trans (Nat.le_succ _) (h.ml _ hcm))
   exact h1.wait (x:=⟨t,s⟩) (by show _∧_<((D.cells.set _ _).length:Int);rw[List.length_set];exact ht) hs
theorem Dev.Ok.write {D:Dev}{b:Nat}(h:D.Ok b)(a:Int)(s:y7):(D.write a s).2.Ok (b+1):=by
 unfold Dev.write
 split
 ·exact h.mono (Nat.le_succ _)
 split
 ·exact h.mono (Nat.le_succ _)
 rename_i ha
 split
 ·exact h.mono (Nat.le_succ _)
 rename_i hs
 split
 ·exact h.lives.mono (Nat.le_succ _)
 ·have hs:(s.length:Int)=256:=by simpa using hs
  exact h.lives.count.put (a:=a) ha (by omega)
theorem Dev.Ok.upd {D:Dev}{b:Nat}(h:D.Ok b){a:Int}(ha:D.has a=true)(g:Cell→Cell)(h1:∀ c∈D.cells,(g c).s.length=256)(h2:∀ c∈D.cells,∀ t∈(g c).miss,0≤t∧t<(D.cells.length:Int))(h3:∀ c∈D.cells,(g c).miss.length≤b):(D.upd a g).Ok b:=by
 obtain⟨c,hc,_⟩:=q7a D ha
 have hcm:=List.mem_of_getElem? hc
 unfold Dev.upd
 rw[y1c g hc]
 exact h.set a.toNat (h1 c hcm) (h2 c hcm) (h3 c hcm)
theorem Dev.Ok.fault {D:Dev}{b:Nat}(h:D.Ok b)(f:Flt):(D.fault f).2.Ok (b+1):=by
 unfold Dev.fault
 split
 ·exact h.mono (Nat.le_succ _)
 rename_i hm
 have hm:=v4n (show D.may f=0 by simpa using hm)
 have hs:=h.settle f.at_
 have ha:(D.settle f.at_).has f.at_=true:=(q3d D f.at_ f.at_).trans hm.1
 unfold Dev.hurt
 split
 ·exact(hs.upd ha (fun c=>{ c with s:=q6c f c.s 4 }) (fun c hc=>(q9a f c.s 4).trans (hs.cs c hc)) (fun c hc=>hs.mt c hc) (fun c hc=>hs.ml c hc)).mono (Nat.le_succ _)
 split
 ·exact(hs.upd ha (fun c=>{ c with s:=z4j,lost:=false }) (fun c hc=>List.length_replicate) (fun c hc=>hs.mt c hc) (fun c hc=>hs.ml c hc)).mono (Nat.le_succ _)
 split
 ·exact(hs.upd ha (fun c=>{ c with lost:=true }) (fun c hc=>hs.cs c hc) (fun c hc=>hs.mt c hc) (fun c hc=>hs.ml c hc)).mono (Nat.le_succ _)
 split
 ·exact(h.upd hm.1 (fun c=>{ c with drop:=IntKind.i64.wrap (c.drop+f.n) }) (fun c hc=>h.cs c hc) (fun c hc=>h.mt c hc) (fun c hc=>h.ml c hc)).mono (Nat.le_succ _)
 ·have h5:f.kind=5:=by omega
  have hto:=q7y (hm.2.2.2.2 h5)
  refine(h.mono (Nat.le_succ _)).upd hm.1 (fun c=>{ c with miss:=c.miss++[f.to] }) (fun c hc=>h.cs c hc) (fun c hc t ht=>?_) (fun c hc=>?_)
  ·rcases List.mem_append.1 ht with ht|ht
   ·exact h.mt c hc t ht
   ·have:t=f.to:=by simpa using ht
    rw[this];exact hto.2
  ·have:=h.ml c hc
   simp;omega
end Go.Proofs.YtinfbclgkghgaaaGreat.AL
namespace Go.Proofs.YtinfbclgkghgaaaGreat.AL
open Go Go.Proofs
def Dev.holds (D:Dev)(a:Int)(b:UInt8):Bool:=match (D.read a).1.2==0 with|true=>(D.read a).1.1==Q1x b|false=>false
theorem Dev.Ok.big {D:Dev}{b:Nat}(h:D.Ok b)(hb:b≤1000000):D.waitsIn∧D.waits.length≤1000000∧(∀ x∈D.waits,x.s.length≤1000000)∧(∀ c∈D.cells,c.s.length≤1000000):=
 ⟨h.at_,Nat.le_trans h.wl hb,fun x hx=>by rw[h.ws x hx];omega,fun c hc=>by rw[h.cs c hc];omega⟩
end Go.Proofs.YtinfbclgkghgaaaGreat.AL
namespace Go.Proofs.YtinfbclgkghgaaaGreat.AL
open Go Go.RowKit
theorem fill {w w':World}{I I':Nat→Prop}{ι ι1:Nat→Option Nat}{H:List ABlk}{b sz:Nat}{t:TypeId}{xs:List (List PV)}(hs:SimH w I ι H)(hb:H[b]?=some .dead)(hι:ι b=none)
 (h1:SimH w' I' ι1 [.row t sz xs]) (hx:Ext w I (fun _=>none) [] w' I' ι1 [.row t sz xs]) :
 SimH w' I' (fun x=>if x=b then ι1 0 else ι x) (H.set b (.row t sz xs))∧Ext w I ι H w' I' (fun x=>if x=b then ι1 0 else ι x) (H.set b (.row t sz xs)):=by
 have hbl:b<H.length:=(List.getElem?_eq_some_iff.1 hb).1
 have nol:∀ c,¬ live ([]:List ABlk) c:=fun c ⟨k,hk,_⟩=>by simp at hk
 have fr:∀ B,B<w.heap.size→w'.heap[B]?=w.heap[B]?:=fun B hB=>hx.frame B hB fun⟨c,hc,_⟩=>nol c hc
 have hI:∀ B,I B→w'.heap[B]?=w.heap[B]?:=fun B hB=>fr B (hs.Ilt B hB)
 have inew:∀ B,I' B→I B∨w.heap.size≤B:=fun B hB=>by
  rcases hx.Inew B hB with h|h|⟨c,hc,_⟩
  ·exact .inl h
  ·exact .inr h
  ·exact absurd hc (nol c)
 have own0:∀ B,ι1 0=some B→w.heap.size≤B:=fun B hB=>by
  rcases hx.own 0 B ⟨_,rfl,rfl⟩ hB with h|⟨c,hc,_⟩
  ·exact h
  ·exact absurd hc (nol c)
 have mv:∀ c B,ι c=some B→(if c=b then ι1 0 else ι c)=some B:=fun c B hc=>by
  by_cases e:c=b
  ·subst e;rw[hι]at hc;simp at hc
  ·rw[if_neg e];exact hc
 have lv:∀ c,live (H.set b (.row t sz xs)) c→c≠b→live H c:=fun c ⟨k,hk,hl⟩ hc=>by
  rw[List.getElem?_set_ne (by omega)]at hk;exact⟨k,hk,hl⟩
 have ldb:¬ live H b:=fun⟨k,hk,hl⟩=>by rw[hb]at hk;obtain rfl:=Option.some.inj hk;simp[ABlk.live]at hl
 have notI:∀ {B},B<w.heap.size→¬ I B→¬ I' B:=fun {B} hB hn hI'=>by
  rcases inew B hI' with h|h
  ·exact hn h
  ·omega
 refine⟨⟨?_,?_,h1.Ilt,?_,?_⟩,⟨hx.os,hx.tape,hx.output,hx.size,hx.shape,hx.Isub,fun B hB _=>fr B hB,fun B hB=>?_,?_⟩⟩
 ·intro c kc hc
  by_cases e:c=b
  ·subst e
   rw[List.getElem?_set_self hbl]at hc
   obtain rfl:=Option.some.inj hc
   have h0:=h1.blk 0 _ rfl
   rcases h0 with ⟨g1,g2⟩|⟨B,cs,g1,g2⟩
   ·exact .inl ⟨g1,by show (if c=c then ι1 0 else ι c)=none;rw[if_pos rfl];exact g2⟩
   ·exact .inr ⟨B,cs,by show (if c=c then ι1 0 else ι c)=some B;rw[if_pos rfl];exact g1,g2⟩
  ·rw[List.getElem?_set_ne (by omega)]at hc
   have h0:=hs.blk c kc hc
   cases kc with
   |dead=>trivial
   |cells t l=>
    obtain⟨B,cs,g1,g2,g3,g4,g5⟩:=h0
    exact⟨B,cs,mv c B g1,by rw[fr B (hs.rng c B g1)];exact g2,notI (hs.rng c B g1) g3,g4,fun i u hu=>(g5 i u hu).move hI hx.Isub mv hx.shape⟩
   |lp q st pe l=>
    obtain⟨B,cs,g1,g2,g3,g4,g5⟩:=h0
    exact⟨B,cs,mv c B g1,by rw[fr B (hs.rng c B g1)];exact g2,notI (hs.rng c B g1) g3,g4,fun i u hu=>(g5 i u hu).move hI hx.Isub mv hx.shape⟩
   |row t sz xs=>
    rcases h0 with ⟨g1,g2⟩|⟨B,cs,g1,g2,g3,g4,g5,g6⟩
    ·exact .inl ⟨g1,by show (if c=b then ι1 0 else ι c)=none;rw[if_neg e];exact g2⟩
    ·exact .inr ⟨B,cs,mv c B g1,by rw[fr B (hs.rng c B g1)];exact g2,notI (hs.rng c B g1) g3,g4,g5,fun j x hj=>⟨(g6 j x hj).1,fun i u hu=>((g6 j x hj).2 i u hu).move hI hx.Isub⟩⟩
   |obj o=>
    obtain⟨g0,B,g1,g2,g3⟩:=h0
    exact⟨g0,B,mv c B g1,by rw[fr B (hs.rng c B g1)];exact g2,notI (hs.rng c B g1) g3⟩
 ·intro c c' B hc hc' e1 e2
  have e1:(if c=b then ι1 0 else ι c)=some B:=e1
  have e2:(if c'=b then ι1 0 else ι c')=some B:=e2
  by_cases h:c=b <;> by_cases h':c'=b
  ·omega
  ·rw[if_pos h]at e1;rw[if_neg h']at e2
   have:=own0 B e1;have:=hs.rng c' B e2;omega
  ·rw[if_neg h]at e1;rw[if_pos h']at e2
   have:=own0 B e2;have:=hs.rng c B e1;omega
  ·rw[if_neg h]at e1;rw[if_neg h']at e2
   exact hs.inj c c' B (lv c hc h) (lv c' hc' h') e1 e2
 ·intro c hc
  simp only[List.length_set]at hc
  show (if c=b then ι1 0 else ι c)=none
  rw[if_neg (by omega)];exact hs.dom c hc
 ·intro c B hc
  have hc:(if c=b then ι1 0 else ι c)=some B:=hc
  by_cases e:c=b
  ·rw[if_pos e]at hc;exact h1.rng 0 B hc
  ·rw[if_neg e]at hc;have:=hs.rng c B hc;have:=hx.size;omega
 ·rcases inew B hB with h|h
  ·exact .inl h
  ·exact .inr (.inl h)
 ·intro c B hc e1
  have e1:(if c=b then ι1 0 else ι c)=some B:=e1
  by_cases e:c=b
  ·rw[if_pos e]at e1;exact .inl (own0 B e1)
  ·rw[if_neg e]at e1;exact .inr ⟨c,lv c hc e,e1⟩
section
variable {P:Program} {T:V7} {ops:Array Oper} {m N:Nat} {B:Array Bool→List ABlk} {G:Array Bool→(Nat→Option Nat)→Prop}
end
structure Mk where
 k:Nat
 t:TypeId
 sz:Nat
 len:Nat
 xs:List (List PV)
abbrev Mk.row (x:Mk):ABlk:=.row x.t x.sz x.xs
abbrev Mk.val (x:Mk)(b:Nat):AV:=.msl b x.sz 0 x.len
section
variable {P:Program} {T:V7} {ops ops':Array Oper} {m:Nat} {fe:List Mk} {ef:List Nat}
end
end Go.Proofs.YtinfbclgkghgaaaGreat.AL
namespace Go.Proofs.YtinfbclgkghgaaaGreat.AL
open Go
theorem x9j {α:Type}{l:List α}{i j:Nat}{x d:α}(h:i≠j):(l.set i x).getD j d=l.getD j d:=by
 rw[List.getD_eq_getElem?_getD,List.getD_eq_getElem?_getD,List.getElem?_set_ne h]
theorem U2 {m:Nat}{s:St}(M:Nat)(ps ks:List Nat)(H2:List ABlk){q:RecK}{st:LoopState}{pe:Option Code}{l:List AV}(hM:s.H[M]?=some (.lp q st pe l))(hl:U5 (M+1) l=true)
 (hp:z5t (M+1) 0 ps=true) (hH:(q7q (s.H.set M .dead) ps ps).set M (.lp q st pe l)=H2)
 (h:(z5t m 0 ps&&q2z ps&&z0w s.H.length ps&&q9v (s.H.set M .dead) ps ps&&q7r s.fr.l ps ks)=true) :
 Wk m s ⟨⟨s.fr.n,q0u s.fr.l ps ks⟩,H2⟩:=by
 subst hH
 simp only[Bool.and_eq_true]at h
 obtain⟨⟨⟨⟨h1,h2⟩,h3⟩,h4⟩,h5⟩:=h
 have hid:∀ b,b<M+1→rho s.H.length ps b=b:=fun b hb=>by
  have:=z2z hp b hb
  simp[rho,List.getD_eq_getElem?_getD,this]
 have hnd:=q5e h2
 have hMp:ps[M]?=some M:=by rw[z2z hp M (by omega)];congr 1;omega
 refine w2j ps ⟨by rw[List.length_set];exact z3a ps,hnd,fun b k hb=>.inr ?_⟩ (fun b hb=>by rw[z2z h1 b hb];congr 1;omega) rfl (fun i u2 hu=>?_)
 ·by_cases e:b=M
  ·subst e
   have hlt:b<(q7q (s.H.set b .dead) ps ps).length:=by
    have:=(List.getElem?_eq_some_iff.1 hb).1
    simpa using this
   rw[List.getElem?_set_self hlt]at hb
   obtain rfl:=Option.some.inj hb
   refine⟨b,hMp,?_⟩
   rw[hM]
   congr 1
   show _=ABlk.lp q st pe (q2n _ l)
   rw[q3x hid l hl]
  ·rw[List.getElem?_set_ne (by omega)]at hb
   obtain⟨p,hpp,hk⟩:=z3b (n:=s.H.length) h4 b k hb
   refine⟨p,hpp,?_⟩
   have hlt:=z1n h3 p (List.mem_of_getElem? hpp)
   have hne:M≠p:=fun e2=>by
    subst e2
    obtain⟨x1,y1⟩:=List.getElem?_eq_some_iff.1 hpp
    obtain⟨x2,y2⟩:=List.getElem?_eq_some_iff.1 hMp
    have hpw:=List.pairwise_iff_getElem.1 hnd
    rcases Nat.lt_trichotomy b M with hlt2|he|hlt2
    ·exact hpw b M x1 x2 hlt2 (y1.trans y2.symm)
    ·exact e he
    ·exact hpw M b x2 x1 hlt2 (y2.trans y1.symm)
   rw[x9j hne]at hk
   rw[← hk,List.getD_eq_getElem?_getD,List.getElem?_eq_getElem hlt];rfl
 ·obtain⟨u,hu1,hu2⟩:=q8s (n:=s.H.length) h5 i u2 hu
  exact⟨u,hu1,.inr (.inl hu2)⟩
end Go.Proofs.YtinfbclgkghgaaaGreat.AL
namespace Go.Proofs.YtinfbclgkghgaaaGreat.AL
open Go
theorem v7u {m:Nat}{s:St}(i b sz n:Nat){t:TypeId}{xs ys:List (List PV)}(e:xs=ys)(hn:n=xs.length)(hb:s.H[b]?=some (.row t sz xs))(hi:Y5 s.fr.l i=some (.msl b sz 0 n)) :
 Wk m s ⟨⟨s.fr.n,(i,.p (.sl sz ys)) :: s.fr.l⟩,s.H.set b .dead⟩:=by
 subst hn
 have:=y3c (m:=m) (s:=s) i b hb hi (by omega)
 rw[List.drop_zero,List.take_length]at this
 subst e
 exact this
end Go.Proofs.YtinfbclgkghgaaaGreat.AL
namespace Go.Proofs.YtinfbclgkghgaaaGreat.AL
open Go Go.RowKit
theorem U9 {m:Nat}{s:St}(b c o len:Nat){t t2:TypeId}{sz:Nat}{xs:List (List PV)}{l:List AV}(hb:s.H[b]?=some (.row t sz xs))(hc:s.H[c]?=some (.cells t2 l))(hl:l[o]?=some (.msl b sz 0 len))(hlen:len=xs.length) :
 Wk m s ⟨s.fr,(s.H.set b .dead).set c (.cells t2 (l.set o (.p (.sl sz xs))))⟩:=fun N w I ι a hs hm=>by
 subst hlen
 have hlive:live s.H b:=⟨_,hb,rfl⟩
 have hbc:b≠c:=fun e=>by subst e;rw[hb]at hc;cases hc
 obtain⟨k1,k2⟩:=hs.H.freeze b hlive
 have hblk:=hs.H.blk b _ hb
 have hcb:=hs.H.blk c _ hc
 have hlivec:live (s.H.set b .dead) c:=⟨_,by rw[List.getElem?_set_ne hbc];exact hc,rfl⟩
 have hsl:∀ (n:Nat) (v:Value),n=xs.length→ARep w I ι (.msl b sz 0 n) v→PRep w (fun C=>I C∨ι b=some C) (.sl sz xs) v:=by
  intro n v hn hu
  cases hu with
  |msl _ _ _ _ B cc hB hcc hsz=>
   rcases hblk with ⟨_,g1⟩|⟨B',cs,g1,g2,g3,g4,gl,g6⟩
   ·rw[g1]at hB;exact absurd hB (by simp)
   ·rw[g1]at hB;obtain rfl:=Option.some.inj hB
    have:=x3m (xs:=xs) (I2:=fun C=>I C∨ι b=some C) (off:=0) (len:=n) (fun _ h=>Or.inl h) (Or.inr g1) g2 g4 gl g6 (by omega) hcc
    rw[List.drop_zero,hn,List.take_length]at this
    rw[hn]
    exact this
  |msl0 _ _ _ A=>
   have hx:xs=[]:=List.length_eq_zero_iff.1 hn.symm
   subst hx
   exact PRep.sl (w:=w) sz [] A 0 (fun _ _=>undef) (by simp) (by simp) (.inl rfl) (fun j e i u h=>by simp at h)
 have hlv:∀ d,live ((s.H.set b .dead).set c (.cells t2 (l.set o (.p (.sl sz xs))))) d→live (s.H.set b .dead) d:=fun d hd=>q1p hd hlivec
 have hsim:SimH w (fun C=>I C∨ι b=some C) ι ((s.H.set b .dead).set c (.cells t2 (l.set o (.p (.sl sz xs))))):=by
  refine⟨fun d k hd=>?_,fun d d' B hd hd'=>k1.inj d d' B (hlv d hd) (hlv d' hd'),k1.Ilt,fun d hd=>k1.dom d (by simpa using hd),k1.rng⟩
  by_cases e:d=c
  ·subst e
   rw[List.getElem?_set_self (V9 hlivec)]at hd
   obtain rfl:=Option.some.inj hd
   obtain⟨B,cs,g1,g2,g3,g4,g5⟩:=hcb
   have h0:=k1.blk d (.cells t2 l) (by rw[List.getElem?_set_ne hbc];exact hc)
   obtain⟨B',cs',f1,f2,f3,f4,f5⟩:=h0
   rw[g1]at f1;obtain rfl:=Option.some.inj f1
   rw[g2]at f2;obtain⟨rfl,_⟩:=Obj.cells.inj (Option.some.inj f2)
   refine⟨B,cs,g1,g2,f3,by rw[List.length_set];exact g4,fun i u hu=>?_⟩
   rw[List.getElem?_set]at hu
   split at hu
   ·rename_i e2;subst e2
    split at hu
    ·obtain rfl:=Option.some.inj hu
     exact .p (hsl _ _ rfl (g5 o _ hl))
    ·cases hu
   ·exact f5 i u hu
  ·rw[List.getElem?_set_ne (by omega)]at hd
   exact k1.blk d k hd
 have hx:Ex m w I ι s.H w (fun C=>I C∨ι b=some C) ι ((s.H.set b .dead).set c (.cells t2 (l.set o (.p (.sl sz xs))))):=by
  have hx2:Ex m w (fun C=>I C∨ι b=some C) ι (s.H.set b .dead) w (fun C=>I C∨ι b=some C) ι ((s.H.set b .dead).set c (.cells t2 (l.set o (.p (.sl sz xs))))):=⟨⟨rfl,rfl,rfl,Nat.le_refl _,Shape.refl w,fun _ h=>h,fun _ _ _=>rfl,fun _ h=>.inl h,fun c B hc h=>.inr ⟨c,hlv c hc,h⟩⟩,fun _ _=>rfl,by simpa using hm⟩
  exact(k2.less hm).trans hx2
 exact⟨_,ι,hs.turn ⟨hs.fr.1,fun i u hu=>(hs.fr.2 i u hu).move (fun _ _=>rfl) (fun _ h=>.inl h) (fun _ _ h=>h) (Shape.refl w)⟩ hsim hx,hx⟩
theorem w8u {P:Program}{f:FuncId}{l l1 rest:List AV}{H:List ABlk}{R:AV→List ABlk→Prop}(h:AF P f (.agg l1 :: rest) H R)(ha:ArgL l l1):AF P f (.agg l :: rest) H R:=by
 obtain⟨k1,k2⟩:=ha.get
 refine⟨h.1,fun w I ι vals hn hv hs=>h.2 w I ι vals (by simpa using hn) (fun i u1 hu1=>?_) hs⟩
 cases i with
 |succ i=>exact hv (i+1) u1 hu1
 |zero=>
  simp only[List.getElem?_cons_zero,Option.some.injEq]at hu1
  subst hu1
  have h0:=hv 0 (.agg l) rfl
  generalize vals.getD 0 undef=x at h0
  cases h0 with
  |agg _ vs hvn hr=>
   refine .agg l1 vs (by omega) fun i u1 hu1=>?_
   obtain⟨u,hu,h1⟩:=k2 i u1 hu1
   rcases h1 with rfl|⟨rfl,sz,rfl⟩
   ·exact hr i _ hu
   ·rw[Z0 (hr i _ hu)]
    exact .p (PRep.sl sz [] none 0 (fun _ _=>undef) (by simp) (by simp) (.inl rfl) (fun j e i u h=>by simp at h))
end Go.Proofs.YtinfbclgkghgaaaGreat.AL
namespace Go.Proofs.YtinfbclgkghgaaaGreat.AL
open Go Go.RowKit
structure Marked (w w':World) (B:Nat):Prop where
 os:w'.os=w.os
 tape:w'.tape=w.tape
 output:w'.output=w.output
 size:w'.heap.size=w.heap.size
 old:∀ k,k≠B→w'.heap[k]?=w.heap[k]?
 new:∀ cs t fr,w.heap[B]?=some (.cells cs t fr)→∃ fr',w'.heap[B]?=some (.cells cs t fr')
theorem Marked.cell {w w':World}{B:Nat}(m:Marked w w' B){cs:Array Value}{t:TypeId}{fr:Nat × Nat}(hB:w.heap[B]?=some (.cells cs t fr))(C o:Nat):w'.cell? ⟨C,o,none⟩=w.cell? ⟨C,o,none⟩:=by
 unfold World.cell?
 by_cases e:C=B
 ·subst e
  obtain⟨fr',h⟩:=m.new cs t fr hB
  simp only[hB,h]
 ·simp only[m.old C e]
section
variable {P:Program} {T:V7} {m:Nat}
end
end Go.Proofs.YtinfbclgkghgaaaGreat.AL
namespace Go.Proofs.YtinfbclgkghgaaaGreat.AL
open Go Go.RowKit
theorem q0f {l:List AV}{K:List AV→Prop}(k:K l):q9t l K:=by rw[z2w];exact k
def w8v (l:List (Nat × AV)):List Nat→List (Nat × AV)
 |[]=>[]
 |t :: ks=>match Y5 l t with
  |some u=>(t,u) :: w8v l ks
  |none=>w8v l ks
theorem y0a {l:List (Nat × AV)}:∀ {ks:List Nat} {i:Nat} {u:AV},Y5 (w8v l ks) i=some u→Y5 l i=some u
 |[],i,u,h=>by simp[w8v,Y5]at h
 |t :: ks,i,u,h=>by
  unfold w8v at h
  cases hl:Y5 l t with
  |none=>rw[hl]at h;exact y0a h
  |some v=>
   rw[hl]at h
   simp only at h
   by_cases e:t=i
   ·subst e
    rw[W6]at h
    rw[hl];exact h
   ·rw[X8 _ _ e]at h
    exact y0a h
theorem z7k {m:Nat}{s:St}(ks:List Nat):Wk m s ⟨⟨s.fr.n,w8v s.fr.l ks⟩,s.H⟩:=fun _ _ I ι _ hs hm=>
 ⟨I,ι,hs.turn ⟨hs.fr.1,fun i u hu=>hs.fr.2 i u (y0a hu)⟩ hs.H (Ex.refl hm),Ex.refl hm⟩
theorem w5y {u:AV}{H:List ABlk}{R:AV→List ABlk→Prop}{m:Nat}(h:R u H):∃ u2 H2,Wk m ⟨⟨1,[(0,u)]⟩,H⟩ ⟨⟨1,[(0,u2)]⟩,H2⟩∧R u2 H2:=⟨u,H,Wk.refl m _,h⟩
end Go.Proofs.YtinfbclgkghgaaaGreat.AL
namespace Go.Proofs.YtinfbclgkghgaaaGreat.AL
namespace Crc
abbrev W:=BitVec 32
def poly:W:=0x82F63B78#32
def st (n:W):W:=(n >>> 1) ^^^ (match n.getLsbD 0 with|true=>poly|false=>0#32)
def stN:Nat→W→W
 |0,n=>n
 |k+1,n=>stN k (st n)
theorem u1b (a b:W):st (a ^^^ b)=st a ^^^ st b:=by
 unfold st
 rw[BitVec.ushiftRight_xor_distrib,BitVec.getLsbD_xor]
 cases a.getLsbD 0 <;> cases b.getLsbD 0
 ·simp
 ·simp[BitVec.xor_assoc]
 ·simp only[Bool.xor_false,BitVec.xor_zero]
  rw[BitVec.xor_assoc,BitVec.xor_assoc,BitVec.xor_comm (b >>> 1)]
 ·show (a >>> 1 ^^^ b >>> 1) ^^^ 0#32=(a >>> 1 ^^^ poly) ^^^ (b >>> 1 ^^^ poly)
  rw[BitVec.xor_zero,BitVec.xor_assoc (a >>> 1),← BitVec.xor_assoc poly,BitVec.xor_comm poly (b >>> 1),BitVec.xor_assoc (b >>> 1),BitVec.xor_self,BitVec.xor_zero]
theorem z7m:∀ (k:Nat) (a b:W),stN k (a ^^^ b)=stN k a ^^^ stN k b
 |0,_,_=>rfl
 |k+1,a,b=>by rw[stN,stN,stN,u1b,z7m k]
theorem z3h:∀ (j k:Nat) (n:W),stN (j+k) n=stN k (stN j n)
 |0,k,n=>by rw[Nat.zero_add];rfl
 |j+1,k,n=>by rw[Nat.add_right_comm];exact z3h j k (st n)
theorem v7v {n:W}(h:n.getLsbD 0=false):st n=n >>> 1:=by unfold st;rw[h];simp
theorem x4z:∀ (k:Nat) {n:W},(∀ i,i<k→n.getLsbD i=false)→stN k n=n >>> k
 |0,n,_=>by simp[stN]
 |k+1,n,h=>by
  rw[stN,v7v (h 0 (by omega)),x4z k (fun i hi=>by rw[BitVec.getLsbD_ushiftRight];exact h (1+i) (by omega)),← BitVec.shiftRight_add,Nat.add_comm k 1]
theorem y6p (i:Nat):(255#32).getLsbD i=decide (i<8):=by
 by_cases h:i<32
 ·have:∀ j:Fin 32,(255#32).getLsbD j.val=decide (j.val<8):=by decide
  exact this ⟨i,h⟩
 ·rw[BitVec.getLsbD_of_ge _ _ (by omega),decide_eq_false (by omega)]
theorem v7w (n:W):stN 8 (n ^^^ (n &&& 255#32))=n >>> 8:=by
 rw[x4z 8 (fun i hi=>by rw[BitVec.getLsbD_xor,BitVec.getLsbD_and,y6p,decide_eq_true hi,Bool.and_true,Bool.xor_self])]
 apply BitVec.eq_of_getLsbD_eq
 intro i hi
 rw[BitVec.getLsbD_ushiftRight,BitVec.getLsbD_ushiftRight,BitVec.getLsbD_xor,BitVec.getLsbD_and,y6p,decide_eq_false (by omega),Bool.and_false,Bool.xor_false]
def wd (c:UInt8):W:=BitVec.ofNat 32 c.toNat
def z3y (n:W)(c:UInt8):W:=stN 8 (n ^^^ wd c)
def run (n:W)(l:List UInt8):W:=l.foldl z3y n
def all1:W:=0xFFFFFFFF#32
def sum (l:List UInt8):W:=run all1 l ^^^ all1
theorem z0h (n:W)(l r:List UInt8):run n (l++r)=run (run n l) r:=List.foldl_append
theorem x9k (n:W)(l:List UInt8)(c:UInt8):run n (l++[c])=z3y (run n l) c:=by rw[z0h];rfl
theorem v4q (a b:W)(c:UInt8):z3y (a ^^^ b) c=z3y a c ^^^ stN 8 b:=by
 unfold z3y
 rw[BitVec.xor_assoc,BitVec.xor_comm b,← BitVec.xor_assoc,z7m]
theorem w5z:∀ (l:List UInt8) (a b:W),run (a ^^^ b) l=run a l ^^^ stN (8*l.length) b
 |[],a,b=>rfl
 |c :: r,a,b=>by
  show run (z3y (a ^^^ b) c) r=run (z3y a c) r ^^^ _
  rw[v4q,w5z r,← z3h,List.length_cons]
  congr 2
  omega
theorem v7x {n:W}(h:st n=0#32):n=0#32:=by
 unfold st at h
 have h31:=congrArg (fun x=>BitVec.getLsbD x 31) h
 simp only[BitVec.getLsbD_xor,BitVec.getLsbD_ushiftRight]at h31
 rw[BitVec.getLsbD_of_ge n (1+31) (by omega)]at h31
 cases hb:n.getLsbD 0 with
 |true=>
  rw[hb]at h31
  exact absurd h31 (by decide)
 |false=>
  rw[hb]at h
  have h:n >>> 1 ^^^ 0#32=0#32:=h
  rw[BitVec.xor_zero]at h
  apply BitVec.eq_of_getLsbD_eq
  intro i hi
  rw[BitVec.getLsbD_zero]
  cases i with
  |zero=>exact hb
  |succ i=>
   have:=congrArg (fun x=>BitVec.getLsbD x i) h
   simp only[BitVec.getLsbD_ushiftRight,BitVec.getLsbD_zero]at this
   rw[Nat.add_comm];exact this
theorem y6q:∀ (k:Nat) {n:W},stN k n=0#32→n=0#32
 |0,_,h=>h
 |k+1,_,h=>v7x (y6q k h)
theorem w6a:∀ k,stN k 0#32=0#32
 |0=>rfl
 |k+1=>by rw[stN,show st 0#32=0#32 by decide];exact w6a k
def x1g (a b c d:UInt8):W:=wd a ^^^ (wd b <<< 8) ^^^ (wd c <<< 16) ^^^ (wd d <<< 24)
theorem q8a (c:UInt8){i:Nat}(h:8≤i):(wd c).getLsbD i=false:=by
 unfold wd
 rw[BitVec.getLsbD_ofNat]
 have:c.toNat<2 ^ i:=Nat.lt_of_lt_of_le c.toNat_lt (Nat.pow_le_pow_right (by omega) h)
 rw[Nat.testBit_lt_two_pow this,Bool.and_false]
theorem v7y (k:Nat){n:W}(hk:k≤32)(h:∀ i,32 - k≤i→n.getLsbD i=false):stN k (n <<< k)=n:=by
 rw[x4z k (fun i hi=>by rw[BitVec.getLsbD_shiftLeft,decide_eq_true hi];simp)]
 apply BitVec.eq_of_getLsbD_eq
 intro i hi
 rw[BitVec.getLsbD_ushiftRight,BitVec.getLsbD_shiftLeft,decide_eq_false (show ¬ k+i<k by omega)]
 by_cases hl:k+i<32
 ·rw[decide_eq_true hl,Nat.add_sub_cancel_left];rfl
 ·rw[decide_eq_false hl,h i (by omega)];rfl
theorem y0b (x:W)(k:Nat)(hk:k≤24)(c:UInt8):stN k x ^^^ wd c=stN k (x ^^^ (wd c <<< k)):=by
 rw[z7m,v7y k (by omega) (fun i hi=>q8a c (by omega))]
theorem u7s (x:W)(a b c d:UInt8):run x [a,b,c,d]=stN 32 (x ^^^ x1g a b c d):=by
 show stN 8 (stN 8 (stN 8 (stN 8 (x ^^^ wd a) ^^^ wd b) ^^^ wd c) ^^^ wd d)=_
 rw[y0b (x ^^^ wd a) 8 (by omega) b,← z3h 8 8,y0b _ 16 (by omega) c,← z3h 16 8,y0b _ 24 (by omega) d,← z3h 24 8]
 unfold x1g
 congr 1
 rw[BitVec.xor_assoc,BitVec.xor_assoc,BitVec.xor_assoc,BitVec.xor_assoc,BitVec.xor_assoc]
theorem y3f {c:UInt8}(h:∀ i,i<8→(wd c).getLsbD i=false):c=0:=by
 have h0:wd c=0#32:=by
  apply BitVec.eq_of_getLsbD_eq
  intro i hi
  rw[BitVec.getLsbD_zero]
  by_cases h8:i<8
  ·exact h i h8
  ·exact q8a c (by omega)
 have h1:=congrArg BitVec.toNat h0
 unfold wd at h1
 rw[BitVec.toNat_ofNat,Nat.mod_eq_of_lt (Nat.lt_trans c.toNat_lt (by decide))]at h1
 exact UInt8.toNat_inj.1 h1
def v7z (a b c d:UInt8):Nat→UInt8|0=>a|1=>b|2=>c|_=>d
theorem x1h (a b c d:UInt8){j i:Nat}(hj:j<4)(hi:i<8):(x1g a b c d).getLsbD (8*j+i)=(wd (v7z a b c d j)).getLsbD i:=by
 unfold x1g v7z
 have hlt:8*j+i<32:=by omega
 simp only[BitVec.getLsbD_xor,BitVec.getLsbD_shiftLeft,decide_eq_true hlt,Bool.true_and]
 match j,hj with
 |0,_=>rw[decide_eq_true (show 8*0+i<8 by omega),decide_eq_true (show 8*0+i<16 by omega),decide_eq_true (show 8*0+i<24 by omega)];simp
 |1,_=>rw[decide_eq_false (show ¬ 8*1+i<8 by omega),decide_eq_true (show 8*1+i<16 by omega),decide_eq_true (show 8*1+i<24 by omega),q8a a (show 8≤8*1+i by omega),show 8*1+i - 8=i by omega];simp
 |2,_=>rw[decide_eq_false (show ¬ 8*2+i<8 by omega),decide_eq_false (show ¬ 8*2+i<16 by omega),decide_eq_true (show 8*2+i<24 by omega),q8a a (show 8≤8*2+i by omega),q8a b (show 8≤8*2+i - 8 by omega),show 8*2+i - 16=i by omega];simp
 |3,_=>rw[decide_eq_false (show ¬ 8*3+i<8 by omega),decide_eq_false (show ¬ 8*3+i<16 by omega),decide_eq_false (show ¬ 8*3+i<24 by omega),q8a a (show 8≤8*3+i by omega),q8a b (show 8≤8*3+i - 8 by omega),q8a c (show 8≤8*3+i - 16 by omega),show 8*3+i - 24=i by omega];simp
theorem w3v {a b c d:UInt8}(h:x1g a b c d=0#32):a=0∧b=0∧c=0∧d=0:=by
 have hb:∀ j i,j<4→i<8→(wd (v7z a b c d j)).getLsbD i=false:=fun j i hj hi=>by
  rw[← x1h a b c d hj hi,h,BitVec.getLsbD_zero]
 exact⟨y3f fun i hi=>hb 0 i (by omega) hi,y3f fun i hi=>hb 1 i (by omega) hi,y3f fun i hi=>hb 2 i (by omega) hi,y3f fun i hi=>hb 3 i (by omega) hi⟩
def y9s (l r:List UInt8):List UInt8:=List.zipWith (· ^^^ ·) l r
theorem v4r (a b:UInt8):wd (a ^^^ b)=wd a ^^^ wd b:=by
 unfold wd
 rw[UInt8.toNat_xor]
 apply BitVec.eq_of_getLsbD_eq
 intro i hi
 simp[hi]
theorem x9m:∀ (l r:List UInt8) (a b:W),l.length=r.length→run a l ^^^ run b r=run (a ^^^ b) (y9s l r)
 |[],[],a,b,_=>rfl
 |x :: l,y :: r,a,b,h=>by
  show run (z3y a x) l ^^^ run (z3y b y) r=run (z3y (a ^^^ b) (x ^^^ y)) (y9s l r)
  rw[x9m l r _ _ (by simpa using h)]
  congr 1
  unfold z3y
  rw[← z7m,v4r]
  congr 1
  rw[BitVec.xor_assoc,BitVec.xor_assoc,← BitVec.xor_assoc (wd x),BitVec.xor_comm (wd x),BitVec.xor_assoc]
 |[],_ :: _,_,_,h=>by simp at h
 |_ :: _,[],_,_,h=>by simp at h
theorem x1i (n:W)(k:Nat):run n (List.replicate k 0)=stN (8*k) n:=by
 have:=w5z (List.replicate k 0) 0#32 n
 rw[BitVec.zero_xor,List.length_replicate]at this
 rw[this]
 have h0:run 0#32 (List.replicate k 0)=0#32:=by
  clear this
  induction k with
  |zero=>rfl
  |succ k ih=>rw[List.replicate_succ];show run (z3y 0#32 0) _=_;rw[show z3y 0#32 0=0#32 by decide];exact ih
 rw[h0,BitVec.zero_xor]
theorem w8w {x y:Nat}{a b c d:UInt8}(h:run 0#32 (List.replicate x 0++[a,b,c,d]++List.replicate y 0)=0#32):a=0∧b=0∧c=0∧d=0:=by
 rw[z0h,z0h,x1i,x1i,w6a,u7s,BitVec.zero_xor]at h
 exact w3v (y6q 32 (y6q _ h))
end Crc
end Go.Proofs.YtinfbclgkghgaaaGreat.AL
