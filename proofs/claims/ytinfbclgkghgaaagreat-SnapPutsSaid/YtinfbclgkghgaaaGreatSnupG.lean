/- A part of the proof. -/
import Derived.Test.YtinfbclgkghgaaaGreatSnupF
/- Rounds: what stands behind the record is forgotten. -/
namespace Go.Proofs.YtinfbclgkghgaaaGreat.AL
open Go
theorem y9k {n:Nat}:∀ {l:List AV},(∀ u∈l,X8 n u=true)→U1 n l=true
 |[],_=>rfl
 |x :: r,h=>by
  simp only[U1,Bool.and_eq_true]
  exact⟨h x (by simp),y9k fun u hu=>h u (by simp[hu])⟩
theorem z6i {k n:Nat}{l:List (Nat × AV)}(h:q5p k l=true):U1 k (W8 n l)=true:=by
 refine y9k fun u hu=>?_
 unfold W8 at hu
 rw[List.mem_map]at hu
 obtain⟨t,_,rfl⟩:=hu
 cases e:Z9 l t with
 |none=>rfl
 |some u=>exact z0t h e
theorem y0b {n:Nat}{x:ABlk}:∀ {H:List ABlk},q2x n H=true→x1x n x=true→q2x n (H++[x])=true
 |[],_,h=>by simp[q2x,h]
 |y :: r,h,hx=>by
  simp only[q2x,Bool.and_eq_true,List.cons_append]at h ⊢
  exact⟨h.1,y0b h.2 hx⟩
theorem y9m {m:Nat}{s:St}(M:Nat)(ks:List Nat){q:RecK}{st:LoopState}{pe:Option Code}{l:List AV}(hM:s.H[M]?=some (.lp q st pe l))(hl:U1 (M+1) l=true)
 (hm:Nat.ble m (M+1)=true) (hf:q5p (M+1) (q2f s.fr.l ks)=true) (hb:q2x (M+1) (s.H.take M)=true) :
 Wk m s ⟨⟨s.fr.n,q2f s.fr.l ks⟩,s.H.take (M+1)⟩:=by
 have hlt:M<s.H.length:=(List.getElem?_eq_some_iff.1 hM).1
 refine z4y (M+1) ks hm (by rw[Nat.ble_eq];omega) hf ?_
 rw[List.take_add_one,hM]
 exact y0b hb hl
theorem w5y {m:Nat}{s:St}(ks:List Nat):Wk m s ⟨⟨s.fr.n,q2f s.fr.l ks⟩,s.H⟩:=fun _ _ I ι _ hs hm=>
 ⟨I,ι,hs.turn ⟨hs.fr.1,fun i u hu=>hs.fr.2 i u (q3v hu)⟩ hs.H (Ex.refl hm),Ex.refl hm⟩
/-- A round,where what the record holds is not looked at. -/
theorem y9n {P:Program}{α β:Type}{M n:Nat}{q:RecK}{lf:List (Nat × AV)}{args:List AV}{J:ABlk→α→List ABlk}{Z:ABlk→β→List ABlk}{a:α}{Rnd:α→Prop}{Stp:Code→β→Prop}
 (hJ:∀ L a,(J L a)[M]?=some L∧∀ L',(J L a).set M L'=J L' a) (hZ:∀ L z,(Z L z)[M]?=some L∧∀ L',(Z L z).set M L'=Z L' z)
 (hlf:∀ t u,Z9 lf t=some u→t<n) (hps:∀ p∈q.ps.toList,p<n) (hpa:q.ps.size=args.length) (hbf:q5p (M+1) lf=true)
 (hround:∀ B l,U1 (M+1) l=true→AW P (some B) (M+1) q.assign ⟨⟨n,z5a lf q.ps.toList args⟩,J (.lp q .ready none l) a⟩
  (z9t (fun s1=>s1.H[M]?=some (.lp q .ready none l)∧AW P (some B) (M+1) q.body ⟨s1.fr,s1.H.set M (.lp q .busy none l)⟩ (w2j M J Z (.lp q .busy none l) Rnd Stp)) (fun _ _=>False))) :
 AYm P (M+1) M args (J (.lp q .ready none (W8 n lf)) a) (fun r H'=>(r=.p (.raw (.bool true))∧∃ a',Rnd a'∧H'=J (.lp q .ready none (W8 n lf)) a')∨(r=.p (.raw (.bool false))∧∃ c z,Stp c z∧H'=Z (.lp q .done (some c) (W8 n lf)) z)):=
 v3f hJ hZ hlf hps hpa fun B=>hround B _ (z6i hbf)
theorem AYm.mono {P:Program}{m b:Nat}{args:List AV}{H:List ABlk}{R R':AV→List ABlk→Prop}(h:AYm P m b args H R)(hR:∀ r H',R r H'→R' r H'):AYm P m b args H R':=
 fun w I ι vals B hn ha hs hb=>let ⟨fn,tmps,assign,body,h1,h2⟩:=h w I ι vals B hn ha hs hb
  ⟨fn,tmps,assign,body,h1,h2.mono fun _ _ ⟨v,r,H',I',ι',e,hr,k⟩=>⟨v,r,H',I',ι',e,hR _ _ hr,k⟩⟩
theorem y4v {m:Nat}{s:St}(b k:Nat){t:TypeId}{sz:Nat}{xs:List (List PV)}(hb:s.H[b]?=some (.row t sz xs)):Wk m s ⟨s.fr,s.H.set b (.row t sz (xs.take k))⟩:=fun N w I ι a hs hm=>by
 have hlive:live s.H b:=⟨_,hb,rfl⟩
 have hlv:∀ c,live (s.H.set b (.row t sz (xs.take k))) c→live s.H c:=fun c hc=>q1j hc hlive
 have hsim:SimH w I ι (s.H.set b (.row t sz (xs.take k))):=by
  refine⟨fun c k' hc=>?_,fun c c' B hc hc'=>hs.H.inj c c' B (hlv c hc) (hlv c' hc'),hs.H.Ilt,fun c hc=>hs.H.dom c (by simpa using hc),hs.H.rng⟩
  by_cases e:c=b
  ·subst e
   rw[List.getElem?_set_self (V6 hlive)]at hc
   obtain rfl:=Option.some.inj hc
   rcases hs.H.blk c _ hb with ⟨g1,g2⟩|⟨B,cs,g1,g2,g3,g4,g5,g6⟩
   ·subst g1
    exact .inl ⟨List.take_nil,g2⟩
   ·have hle:(xs.take k).length≤xs.length:=by rw[List.length_take];omega
    refine .inr ⟨B,cs,g1,g2,g3,Nat.le_trans (Nat.mul_le_mul_right _ hle) g4,by omega,fun j e2 hj=>g6 j e2 ?_⟩
    have hj2:j<k:=by have:=(List.getElem?_eq_some_iff.1 hj).1;rw[List.length_take]at this;omega
    rw[List.getElem?_take_of_lt hj2]at hj
    exact hj
  ·rw[List.getElem?_set_ne (by omega)]at hc
   exact hs.H.blk c k' hc
 have hx:Ex m w I ι s.H w I ι (s.H.set b (.row t sz (xs.take k))):=⟨⟨rfl,rfl,rfl,Nat.le_refl _,Shape.refl w,fun _ h=>h,fun _ _ _=>rfl,fun _ h=>.inl h,fun c B hc h=>.inr ⟨c,hlv c hc,h⟩⟩,fun _ _=>rfl,by simpa using hm⟩
 exact⟨I,ι,hs.turn hs.fr hsim hx,hx⟩
theorem u0q {m:Nat}{s:St}(b:Nat){t:TypeId}{l:List AV}(ps:List PV)(hb:s.H[b]?=some (.cells t l))(hl:l=ps.map .p)(hn:Nat.ble ps.length 140737488355328=true) :
 Wk m s ⟨s.fr,s.H.set b (.row t 1 (ps.map fun p=>[p]))⟩:=fun N w I ι a hs hm=>by
 have hlive:live s.H b:=⟨_,hb,rfl⟩
 have hlv:∀ c,live (s.H.set b (.row t 1 (ps.map fun p=>[p]))) c→live s.H c:=fun c hc=>q1j hc hlive
 have hsim:SimH w I ι (s.H.set b (.row t 1 (ps.map fun p=>[p]))):=by
  refine⟨fun c k' hc=>?_,fun c c' B hc hc'=>hs.H.inj c c' B (hlv c hc) (hlv c' hc'),hs.H.Ilt,fun c hc=>hs.H.dom c (by simpa using hc),hs.H.rng⟩
  by_cases e:c=b
  ·subst e
   rw[List.getElem?_set_self (V6 hlive)]at hc
   obtain rfl:=Option.some.inj hc
   obtain⟨B,cs,g1,g2,g3,g4,g5⟩:=hs.H.blk c _ hb
   rw[hl,List.length_map]at g4
   refine .inr ⟨B,cs,g1,g2,g3,by rw[List.length_map];omega,by rw[List.length_map];exact Nat.le_of_ble_eq_true hn,fun j e2 hj=>?_⟩
   rw[List.getElem?_map]at hj
   cases hp:ps[j]? with
   |none=>rw[hp]at hj;cases hj
   |some p=>
    rw[hp]at hj
    obtain rfl:=Option.some.inj hj
    refine⟨rfl,fun i u hu=>?_⟩
    cases i with
    |succ i=>simp at hu
    |zero=>
     obtain rfl:p=u:=by simpa using hu
     have:=g5 j (.p p) (by rw[hl,List.getElem?_map,hp];rfl)
     rw[Nat.mul_one,Nat.add_zero]
     cases this with
     |p h=>exact h
  ·rw[List.getElem?_set_ne (by omega)]at hc
   exact hs.H.blk c k' hc
 have hx:Ex m w I ι s.H w I ι (s.H.set b (.row t 1 (ps.map fun p=>[p]))):=⟨⟨rfl,rfl,rfl,Nat.le_refl _,Shape.refl w,fun _ h=>h,fun _ _ _=>rfl,fun _ h=>.inl h,fun c B hc h=>.inr ⟨c,hlv c hc,h⟩⟩,fun _ _=>rfl,by simpa using hm⟩
 exact⟨I,ι,hs.turn hs.fr hsim hx,hx⟩
theorem u0r {m:Nat}{s:St}(i b sz:Nat)(h:Z9 s.fr.l i=some (.ref b 0)):Wk m s ⟨⟨s.fr.n,(i,.elr b sz 0 0) :: s.fr.l⟩,s.H⟩:=fun N w I ι a hs hm=>by
 refine⟨I,ι,hs.turn ⟨hs.fr.1,fun j u hu=>?_⟩ hs.H (Ex.refl hm),Ex.refl hm⟩
 by_cases e:i=j
 ·subst e
  rw[X9]at hu;obtain rfl:=Option.some.inj hu
  have:=hs.fr.2 i _ h
  generalize a.tmps.getD i undef=v at this ⊢
  cases this with
  |ref _ _ B hB =>
   have k:=ARep.elr (w:=w) (I:=I) b sz 0 0 B hB
   simpa using k
 ·rw[X4 _ _ e]at hu;exact hs.fr.2 j u hu
end Go.Proofs.YtinfbclgkghgaaaGreat.AL
namespace Go.Proofs.YtinfbclgkghgaaaGreat.AL
open Go Go.Proofs
def q4f (hit:Wr→Bool):List Wr→Option Wr
 |[]=>none
 |x :: r=>match q4f hit r with
  |some y=>some y
  |none=>match hit x with|true=>some x|false=>none
theorem y4w (hit:Wr→Bool)(x:Wr):∀ l,q4f hit (l++[x])=match hit x with|true=>some x|false=>q4f hit l
 |[]=>by cases h:hit x <;> simp[q4f,h]
 |y :: r=>by
  simp only[List.cons_append,q4f,y4w hit x r]
  cases hit x <;> rfl
theorem y4x (hit:Wr→Bool){l:List Wr}{i:Nat}{x:Wr}(h:l[i]?=some x):q4f hit (l.take (i+1))=match hit x with|true=>some x|false=>q4f hit (l.take i):=by
 rw[List.take_add_one,h];exact y4w hit x _
theorem v4b (l:List Wr):AFm Tryz.prog 1 q5r [.msl 0 2 0 l.length] [.row Q8 2 (wx l)] (v9 (.clo (.func q0x) [.ref 1 0]) [.row Q8 2 (wx l),.cells q6t [.msl 0 2 0 l.length]]):=by
 refine Q5 1 hT q5s rfl rfl q5t rfl rfl ?_
 refine q8 (q7 hT ?_)
 refine q8 (q7 hT ?_)
 refine y5 ?_
 exact z9 [0,1] ⟨rfl,rfl⟩ rfl
abbrev y4y (D:Dev)(a:Int)(L:ABlk):List ABlk:=[q3k D 1 2,.row Z3 4 (cx D.cells),.row Q8 2 (wx D.waits),.cells q4e [i64 a],.cells z0 [.p (.raw (.slice none 0 0))],.cells q0m [i64 0],.cells q6t [.msl 2 2 0 D.waits.length],L]
abbrev w5z (D:Dev)(a:Int)(s:z7)(L:ABlk):List ABlk:=[q3k D 1 2,.row Z3 4 (cx D.cells),.row Q8 2 (wx D.waits),.cells q4e [i64 a],.cells z0 [bA s],.cells q0m [i64 0],.cells q6t [.msl 2 2 0 D.waits.length],L]
theorem v4c (D:Dev)(a:Int)(q:RecK)(l:List AV)(hn:D.waits.length≤1000000)(hit:Wr→Bool)(S:Code→z7→Prop)
 (hy:∀ (i:Nat) (x:Wr),D.waits[i]?=some x→AYm Tryz.prog 8 7 [i64 i,.agg [i64 x.at_,bA x.s]] (y4y D a (.lp q .ready none l)) (fun r H'=>(r=bl true∧hit x=false∧H'=y4y D a (.lp q .ready none l))∨(r=bl false∧hit x=true∧∃ c,S c x.s∧H'=w5z D a x.s (.lp q .done (some c) l)))) :
 AFm Tryz.prog 8 q0x [.yld 7,.ref 6 0] (y4y D a (.lp q .ready none l)) (fun _ H'=>(q4f hit D.waits=none∧H'=y4y D a (.lp q .ready none l))∨(∃ x c,q4f hit D.waits=some x∧S c x.s∧H'=w5z D a x.s (.lp q .done (some c) l))):=by
 refine Q5 8 hT q4p rfl rfl q4q rfl rfl ?_
 refine q8 (q7 hT ?_)
 refine z3 ?_
 refine y8 (fun n s=>∃ j:Int,j=(n:Int) - 1∧n≤D.waits.length∧q4f hit D.waits=q4f hit (D.waits.take n)∧s=⟨⟨19,[(0,.yld 7),(1,.ref 6 0),(3,i64 j)]⟩,y4y D a (.lp q .ready none l)⟩) D.waits.length ⟨⟨19,_⟩,_⟩ (w5y [0,1,3]) ⟨_,?_,Nat.le_refl _,by rw[List.take_length],rfl⟩ ?_
 ·exact y7 _ (by omega) (by omega)
 rintro n s ⟨j,hj,hle,hl,rfl⟩
 refine q8 (q8 (q7 hT ?_))
 refine z2 (y4 (fun h=>?_) (fun h=>?_))
 ·have h:=of_decide_eq_true h
  cases n with
  |zero=>omega
  |succ n=>
  have hj:j=(n:Int):=by omega
  subst hj
  have hx:=List.getElem?_eq_getElem (show n<D.waits.length by omega)
  generalize D.waits[n]=x at hx
  refine z5 ?_
  refine q8 (z3 (q8 (q7 hT ?_)))
  refine⟨⟨Int.natCast_nonneg _,by omega⟩,?_⟩
  refine v7 (show (wx D.waits)[0+((n:Nat):Int).toNat]?=some x.pv by rw[Nat.zero_add,Int.toNat_natCast];exact y4r hx) ?_
  refine⟨_,hy n x hx,?_⟩
  rintro r H' (⟨rfl,hh,rfl⟩|⟨rfl,hh,c,hT,rfl⟩)
  ·refine z2 ?_
   refine z5 ?_
   refine q7 hT ?_
   refine⟨n,by omega,_,w5y [0,1,3],_,?_,by omega,?_,rfl⟩
   ·exact y7 _ (by omega) (by omega)
   ·rw[hl,y4x hit hx,hh]
  ·refine z2 ?_
   refine y5 ?_
   refine⟨_,_,Wk.refl _ _,.inr ⟨x,c,?_,hT,rfl⟩⟩
   rw[hl,y4x hit hx,hh]
 ·have h:=of_decide_eq_false h
  refine x9 ?_
  have hn0:n=0:=by omega
  subst hn0
  exact⟨_,_,Wk.refl _ _,.inl ⟨hl,rfl⟩⟩
end Go.Proofs.YtinfbclgkghgaaaGreat.AL
namespace Go.Proofs.YtinfbclgkghgaaaGreat.AL
open Go Go.Proofs
abbrev q4c (a:Int):Wr→Bool:=fun x=>x.at_==a
def Dev.readAt (D:Dev)(a:Int):Int × z7:=match q4f (q4c a) D.waits with
 |some x=>(0,x.s)
 |none=>match D.cells[a.toNat]? with
  |some c=>match c.lost with|true=>(20,[])|false=>(0,c.s)
  |none=>(20,[])
def Dev.read (D:Dev)(a:Int):(z7 × Int) × Dev:=match D.dead with
 |true=>(([],21),D)
 |false=>match D.has a with
  |false=>(([],3),D)
  |true=>(((D.readAt a).2,(D.readAt a).1),D.count)
set_option maxRecDepth 20000 in
theorem y9p (D:Dev)(a:Int)(hn:D.waits.length≤1000000)(hs:∀ x∈D.waits,x.s.length≤1000000)(hc:∀ c∈D.cells,c.s.length≤1000000) :
 AFm Tryz.prog 3 q8b [.ref 0 0,i64 a] (Y4 D) (v9 (.tup [bA (D.read a).1.1,i64 (D.read a).1.2]) (Y4 (D.read a).2)):=by
 refine Q5 3 hT z8q rfl rfl z8r rfl rfl ?_
 refine q8 (q7 hT ?_)
 refine z8 ⟨⟨54,[(0,.ref 0 0),(3,.ref 3 0),(4,.ref 4 0),(5,.ref 5 0)]⟩,[q3k D 1 2,.row Z3 4 (cx D.cells),.row Q8 2 (wx D.waits),.cells q4e [i64 a],.cells z0 [.p (.raw (.slice none 0 0))],.cells q0m [i64 0]]⟩ (D.dead=false∧D.has a=true) (z3 (q8 (q7 hT ?_))) ?_
 ·refine y9 (u6 [0,1,2] (z2q D) rfl rfl rfl) ?_
  refine z2 (y4 (fun h=>?_) (fun h=>?_))
  ·have e:D.read a=(([],21),D):=by unfold Dev.read;rw[h]
   refine q8 (q7 hT ?_)
   refine Q1 (q0w 4 [.p (.sl 1 [])] rfl ⟨.inr (.inr (.inr ⟨1,rfl,rfl⟩)),trivial⟩) ?_
   refine y5 ?_
   rw[e]
   exact z9 [0,1,2] ⟨rfl,rfl⟩ rfl
  refine q8 (q7 hT ?_)
  refine y9 (u6 [0,1,2] (z6g D a) rfl rfl rfl) ?_
  refine z2 (y4 (fun h1=>?_) (fun h1=>?_))
  ·have e:D.read a=(([],3),D):=by unfold Dev.read;rw[h,(Bool.not_eq_true' _).mp h1]
   refine q8 (q7 hT ?_)
   refine Q1 (q0w 4 [.p (.sl 1 [])] rfl ⟨.inr (.inr (.inr ⟨1,rfl,rfl⟩)),trivial⟩) ?_
   refine y5 ?_
   rw[e]
   exact z9 [0,1,2] ⟨rfl,rfl⟩ rfl
  exact z5 ⟨q9 [0,1,2,3,4,5] [0,3,4,5] rfl,h,(Bool.not_eq_false' _).mp h1⟩
 ·rintro⟨h,h1⟩
  have e:D.read a=(((D.readAt a).2,(D.readAt a).1),D.count):=by unfold Dev.read;rw[h,h1]
  rw[e]
  clear e
  have hlt:a.toNat<D.cells.length∧0≤a∧a<(D.cells.length:Int):=by
   have h1:(decide (a≥0)&&decide (a<(D.cells.length:Int)))=true:=h1
   rw[Bool.and_eq_true,decide_eq_true_eq,decide_eq_true_eq]at h1
   omega
  have hcg:=List.getElem?_eq_getElem hlt.1
  have hcs:=hc _ (List.getElem_mem hlt.1)
  generalize D.cells[a.toNat]=c at hcg hcs
  have g1:(cx D.cells)[0+a.toNat]?=some c.pv:=by rw[Nat.zero_add];exact y4q hcg
  refine q8 (q7 hT ?_)
  refine q8 (q8 (q7 hT ?_))
  refine y9 (u6 [2] (v4b D.waits) rfl rfl rfl) ?_
  refine z3 ?_
  refine z5c 7 54 [0,1,2,3,4,5,6,7] [0,3,4,5,27] (fun L (_:Unit)=>y4y D.count a L) (fun L s=>w5z D.count a s L) () (fun _=>q4f (q4c a) D.waits=none) (fun c z=>c=.ret∧∃ x,q4f (q4c a) D.waits=some x∧z=x.s) rfl rfl (fun L _=>⟨rfl,fun _=>rfl⟩) (fun L _=>⟨rfl,fun _=>rfl⟩) rfl ?_ ?_ ?_
  ·refine AFm.mono (v4c D.count a _ _ hn (q4c a) (fun c z=>c=.ret) ?_) ?_
   ·intro i x hx
    refine AYm.mono (y9n (J:=fun L (_:Unit)=>y4y D.count a L) (Z:=fun L s=>w5z D.count a s L) (a:=()) (Rnd:=fun _=>q4c a x=false) (Stp:=fun c z=>c=.ret∧q4c a x=true∧z=x.s) (fun L _=>⟨rfl,fun _=>rfl⟩) (fun L _=>⟨rfl,fun _=>rfl⟩) ?_ ?_ rfl rfl ?_) ?_
    ·exact fun t u ht=>z5b (ks:=[0,3,4,5,27]) rfl ht
    ·show ∀ p∈[28,29],p<54
     decide
    ·intro B l hbl
     have hsx:=hs x (List.mem_of_getElem? (show D.waits[i]?=some x from hx))
     refine q7 hT ?_
     refine⟨rfl,?_⟩
     refine z3 (q8 (q7 hT ?_))
     refine z2 (y4 (fun h2=>?_) (fun h2=>?_))
     ·refine q8 (q7 hT ?_)
      refine y9 (w7 (z6h x.s hsx) _ rfl rfl) ?_
      refine y5 ?_
      exact⟨x.s,_,⟨rfl,h2,rfl⟩,y9m 7 [] rfl hbl rfl rfl rfl⟩
     ·refine z5 ?_
      exact⟨(),_,h2,y9m 7 [] rfl hbl rfl rfl rfl⟩
    ·rintro r H' (⟨hr,_,hh,hH⟩|⟨hr,c,z,⟨h3,h4,h5⟩,hH⟩)
     ·exact .inl ⟨hr,hh,hH⟩
     ·subst h5;exact .inr ⟨hr,h4,c,h3,hH⟩
   ·rintro r H' (⟨hx,rfl⟩|⟨x,c,hx,rfl,rfl⟩)
    ·exact .inl ⟨(),hx,rfl⟩
    ·exact .inr ⟨_,_,⟨rfl,x,hx,rfl⟩,rfl⟩
  ·intro _ hl
   refine q8 (q8 ?_)
   refine x6 [] [] hT z6 (by rfl) ?_
   refine⟨⟨hlt.2.1,hlt.2.2⟩,?_⟩
   refine v7 g1 ?_
   have e:D.readAt a=match c.lost with|true=>(20,[])|false=>(0,c.s):=by unfold Dev.readAt;rw[hl,hcg]
   refine z2 (y4 (fun h2=>?_) (fun h2=>?_))
   ·have h2:c.lost=true:=h2
    rw[h2]at e
    refine q8 (q7 hT ?_)
    refine Q1 (q0w 4 [.p (.sl 1 [])] rfl ⟨.inr (.inr (.inr ⟨1,rfl,rfl⟩)),trivial⟩) ?_
    refine y5 ?_
    rw[e]
    exact z9 [0,1,2] ⟨rfl,rfl⟩ rfl
   ·have h2:c.lost=false:=h2
    rw[h2]at e
    refine z5 ?_
    refine q8 ?_
    refine x6 [9,10] [] hT z6 (by rfl) ?_
    refine⟨⟨hlt.2.1,hlt.2.2⟩,?_⟩
    refine v7 g1 ?_
    refine⟨_,w7 (z6h c.s hcs) _ rfl rfl,?_⟩
    refine y5 ?_
    rw[e]
    exact z9 [0,1,2] ⟨rfl,rfl⟩ rfl
  ·rintro _ z ⟨rfl,x,hx,rfl⟩
   refine y5 ?_
   have e:D.readAt a=(0,x.s):=by unfold Dev.readAt;rw[hx]
   rw[e]
   exact z9 [0,1,2] ⟨rfl,rfl⟩ rfl
end Go.Proofs.YtinfbclgkghgaaaGreat.AL
namespace Go.Proofs.YtinfbclgkghgaaaGreat.AL
open Go Go.Proofs
abbrev z0a (D:Dev):List ABlk:=[q3k D 1 2,.row Z3 4 (cx D.cells),.row Q8 2 (wx D.waits),.cells q0g [.ref 0 0]]
abbrev v7p (a:Int):AV:=.clo (.func q1r) [.p (.box [.raw (.int .i64 a)]),.ref 3 0]
def Dev.hits (D:Dev)(a:Int)(x:Wr):Dev:=match q4c a x with|true=>D.done x|false=>D
theorem x9b (D:Dev)(a:Int)(x:Wr)(h0:0≤x.at_)(h1:x.at_.toNat<D.cells.length) :
 AFm Tryz.prog 4 q1r [.agg [i64 x.at_,bA x.s],.p (.box [.raw (.int .i64 a)]),.ref 3 0] (z0a D) (v9 (bl (q4c a x)) (z0a (D.hits a x))):=by
 refine Q5 4 hT z0y rfl rfl z0z rfl rfl ?_
 refine q8 (q7 hT ?_)
 refine Q1 (Q3 4 [.raw (.int .i64 x.at_),bP x.s] rfl rfl) ?_
 refine z8 ⟨⟨16,[(1,.p (.box [.raw (.int .i64 a)])),(3,.p (.box [.raw (.int .i64 x.at_),bP x.s]))]⟩,z0a (D.hits a x)⟩ True (q8 (q7 hT ?_)) (fun _=>?_)
 ·refine z2 (y4 (fun h=>?_) (fun h=>?_))
  ·have h:q4c a x=true:=h
   refine q7 hT ?_
   refine y9 (u6 [0,1,2] (y9i D x h0 h1) rfl rfl rfl) ?_
   refine⟨?_,trivial⟩
   have e:D.hits a x=D.done x:=by unfold Dev.hits;rw[h]
   rw[e]
   exact q9 [0,1,2,3] [1,3] rfl
  ·have h:q4c a x=false:=h
   refine z5 ⟨?_,trivial⟩
   have e:D.hits a x=D:=by unfold Dev.hits;rw[h]
   rw[e]
   exact q9 [0,1,2,3] [1,3] rfl
 ·refine q8 (q7 hT ?_)
  refine y5 ?_
  exact z9 [0,1,2,3] ⟨rfl,rfl⟩ rfl
theorem v4d (D:Dev)(a:Int)(hw:D.waitsIn)(hn:D.waits.length≤1000000) :
 AFm Tryz.prog 4 q5a [.msl 2 2 0 D.waits.length,v7p a] (z0a D) (fun r H'=>(r=i64 (-1)∧(∀ x∈D.waits,q4c a x=false)∧H'=z0a D) ∨
  (∃ (i:Nat) (x:Wr),D.waits[i]?=some x∧q4c a x=true∧(∀ y∈D.waits.take i,q4c a y=false)∧r=i64 i∧H'=z0a (D.done x))):=by
 refine Q5 4 hT q5b rfl rfl q5c rfl rfl ?_
 refine q8 (q7 hT ?_)
 refine q8 (q8 (q7 hT ?_))
 refine z3 ?_
 refine y8 (fun n s=>∃ (i:Nat) (j:Int),n+i=D.waits.length∧j=i∧(∀ y∈D.waits.take i,q4c a y=false)∧s=⟨⟨19,[(0,.msl 2 2 0 D.waits.length),(1,v7p a),(7,i64 D.waits.length),(8,i64 j)]⟩,z0a D⟩) D.waits.length ⟨⟨19,_⟩,[_,_,_,_]⟩ (q9 [0,1,2,3] [0,1,7,8] rfl) ⟨0,_,by omega,rfl,fun y hy=>by simp at hy,rfl⟩ ?_
 rintro n s ⟨i,j,hni,rfl,hl,rfl⟩
 refine q8 (q7 hT ?_)
 refine q8 (z2 (y4 (fun h=>?_) (fun h=>?_)))
 ·have hi:i<D.waits.length:=by
   have:=of_decide_eq_true (show decide ((i:Int)<(D.waits.length:Int))=true from h)
   omega
  have hx:=List.getElem?_eq_getElem hi
  have hin:=hw _ (List.getElem_mem hi)
  generalize D.waits[i]=x at hx hin
  refine z5 ?_
  refine q8 (z3 (q8 (q7 hT ?_)))
  refine q8 (q7 hT ?_)
  refine⟨⟨Int.natCast_nonneg _,of_decide_eq_true h⟩,?_⟩
  refine v7 (show (wx D.waits)[0+((i:Nat):Int).toNat]?=some x.pv by rw[Nat.zero_add,Int.toNat_natCast];exact y4r hx) ?_
  refine y9 (x9b D a x hin.1 (by omega)) ?_
  refine z2 (y4 (fun h2=>?_) (fun h2=>?_))
  ·have e:D.hits a x=D.done x:=by unfold Dev.hits;rw[h2]
   refine q8 (q7 hT ?_)
   refine y5 ?_
   refine⟨_,_,q9 [0,1,2,3] [0] rfl,.inr ⟨i,x,hx,h2,hl,rfl,?_⟩⟩
   rw[← e];rfl
  ·have e:D.hits a x=D:=by unfold Dev.hits;rw[h2]
   refine z5 ?_
   refine q7 hT ?_
   refine⟨n - 1,by omega,_,q9 [0,1,2,3] [0,1,7,8] rfl,i+1,IntKind.i64.wrap ((i:Int)+1),by omega,?_,?_,?_⟩
   ·rw[y7 _ (by omega) (by omega)];rfl
   ·intro y hy
    rw[List.take_add_one,hx,List.mem_append]at hy
    rcases hy with hy|hy
    ·exact hl y hy
    ·have:y=x:=by simpa using hy
     rw[this];exact h2
   ·refine congrArg (St.mk _) ?_
    show z0a (D.hits a x)=z0a D
    rw[e]
 ·refine x9 ?_
  have hi:i=D.waits.length:=by
   have:¬ ((i:Int)<(D.waits.length:Int)):=of_decide_eq_false h
   omega
  refine q8 (q7 hT ?_)
  refine y5 ?_
  refine⟨_,_,q9 [0,1,2,3] [0] rfl,.inl ⟨rfl,?_,rfl⟩⟩
  rw[hi,List.take_length]at hl
  exact hl
end Go.Proofs.YtinfbclgkghgaaaGreat.AL
namespace Go.Proofs.YtinfbclgkghgaaaGreat.AL
open Go Go.Proofs
def q0u (a:Int)(W:List Wr)(C:List Cell):List Cell:=W.foldl (fun C x=>match q4c a x with|true=>q1s C x|false=>C) C
def q1h (a:Int)(W:List Wr):List Wr:=W.filter fun x=>!q4c a x
def Dev.settle (D:Dev)(a:Int):Dev:={ D with cells:=q0u a D.waits D.cells,waits:=q1h a D.waits }
theorem q9g (a:Int)(W:List Wr)(x:Wr)(C:List Cell):q0u a (W++[x]) C=match q4c a x with|true=>q1s (q0u a W C) x|false=>q0u a W C:=by
 unfold q0u;rw[List.foldl_append];rfl
theorem q7n (a:Int)(W:List Wr):∀ C,(q0u a W C).length=C.length:=by
 induction W with
 |nil=>intro C;rfl
 |cons x r ih=>
  intro C
  show (q0u a r (match q4c a x with|true=>q1s C x|false=>C)).length=_
  rw[ih];split
  ·exact q8d _ _
  ·rfl
theorem y4z {a:Int}{W:List Wr}(h:∀ x∈W,q4c a x=false)(C:List Cell):q0u a W C=C:=by
 induction W generalizing C with
 |nil=>rfl
 |cons x r ih=>
  show q0u a r (match q4c a x with|true=>q1s C x|false=>C)=_
  rw[h x (by simp)];exact ih (fun y hy=>h y (by simp[hy])) C
theorem z4h {a:Int}{W:List Wr}(h:∀ x∈W,q4c a x=false):q1h a W=W:=by
 unfold q1h;rw[List.filter_eq_self];intro x hx;rw[h x hx];rfl
theorem q9h (a:Int)(W:List Wr)(x:Wr):q1h a (W++[x])=match q4c a x with|true=>q1h a W|false=>q1h a W++[x]:=by
 unfold q1h;rw[List.filter_append]
 cases h:q4c a x <;> simp[h]
theorem w3p (a:Int)(W:List Wr):(q1h a W).length≤W.length:=List.length_filter_le _ _
abbrev u0s (D:Dev)(a:Int):List ABlk:=[q3k D 1 2,.row Z3 4 (cx (q0u a D.waits D.cells)),.row Q8 2 (wx (q1h a D.waits)),.cells q0g [.ref 0 0]]
theorem u0t (l:List Wr)(i:Nat)(c:Wr):wx (l.set i c)=(wx l).set i c.pv:=by simp[wx,List.map_set]
structure DelOk (D:Dev) (a:Int) (k j:Nat) (C:List Cell) (W:List Wr):Prop where
 len:W.length=D.waits.length
 kj:k<j
 jn:j≤D.waits.length
 C:C=q0u a (D.waits.take j) D.cells
 W1:W.take k=q1h a (D.waits.take j)
 W2:W.drop j=D.waits.drop j
theorem DelOk.hit {D:Dev}{a:Int}{k j:Nat}{C:List Cell}{W:List Wr}(h:DelOk D a k j C W){x:Wr}(hx:D.waits[j]?=some x)(hh:q4c a x=true):DelOk D a k (j+1) (q1s C x) W:=by
 have hjl:j<D.waits.length:=(List.getElem?_eq_some_iff.1 hx).1
 refine⟨h.len,by have:=h.kj;omega,hjl,?_,?_,?_⟩
 ·rw[List.take_add_one,hx];show _=q0u a (_++[x]) _;rw[q9g,hh,← h.C]
 ·rw[List.take_add_one,hx];show _=q1h a (_++[x]);rw[q9h,hh,← h.W1]
 ·rw[← List.drop_drop,← List.drop_drop,h.W2]
theorem DelOk.miss {D:Dev}{a:Int}{k j:Nat}{C:List Cell}{W:List Wr}(h:DelOk D a k j C W){x:Wr}(hx:D.waits[j]?=some x)(hh:q4c a x=false):DelOk D a (k+1) (j+1) C (W.set k x):=by
 have hjl:j<D.waits.length:=(List.getElem?_eq_some_iff.1 hx).1
 have hkj:=h.kj
 refine⟨by rw[List.length_set];exact h.len,by omega,hjl,?_,?_,?_⟩
 ·rw[List.take_add_one,hx];show _=q0u a (_++[x]) _;rw[q9g,hh,← h.C]
 ·rw[List.take_add_one (l:=D.waits),hx];show _=q1h a (_++[x]);rw[q9h,hh,← h.W1]
  rw[List.take_add_one,List.getElem?_set_self (by rw[h.len];omega),List.take_set_of_le (Nat.le_refl _)];rfl
 ·rw[List.drop_set_of_lt (by omega),← List.drop_drop,← List.drop_drop,h.W2]
theorem u7k {α β γ:Sort _}(f:α→β→γ){a a':α}{b b':β}(h:a=a')(k:b=b'):f a b=f a' b':=by rw[h,k]
theorem w8j {α:Type}(l:List α)(k:Nat)(vs:List α)(h:k≤l.length):(X7 l k vs).take k=l.take k:=by
 unfold X7
 rw[List.append_assoc,List.take_append_of_le_length (by rw[List.length_take];omega),List.take_take,Nat.min_self]
theorem x9c (D:Dev)(a:Int)(C:List Cell)(W:List Wr)(hC:C.length=D.cells.length)(hW:W.length=D.waits.length)(x:Wr)(h0:0≤x.at_)(h1:x.at_.toNat<D.cells.length)(b:Bool)(C':List Cell)
 (hb:q4c a x=b) (hC':C'=match b with|true=>q1s C x|false=>C) :
 AFm Tryz.prog 4 q1r [.agg [i64 x.at_,bA x.s],.p (.box [.raw (.int .i64 a)]),.ref 3 0] [q3k D 1 2,.row Z3 4 (cx C),.row Q8 2 (wx W),.cells q0g [.ref 0 0]]
  (v9 (bl b) [q3k D 1 2,.row Z3 4 (cx C'),.row Q8 2 (wx W),.cells q0g [.ref 0 0]]):=by
 have h:=x9b { D with cells:=C,waits:=W } a x h0 (by show x.at_.toNat<C.length;omega)
 have e1:z0a { D with cells:=C,waits:=W }=[q3k D 1 2,.row Z3 4 (cx C),.row Q8 2 (wx W),.cells q0g [.ref 0 0]]:=by
  unfold z0a q3k;rw[hC,hW]
 have e2:z0a (({ D with cells:=C,waits:=W }:Dev).hits a x)=[q3k D 1 2,.row Z3 4 (cx C'),.row Q8 2 (wx W),.cells q0g [.ref 0 0]]:=by
  unfold Dev.hits
  rw[hb]
  cases b with
  |true=>
   have hC'':C'.length=D.cells.length:=by rw[hC'];exact(q8d C x).trans hC
   rw[hC']at hC'' ⊢
   unfold z0a q3k Dev.done
   rw[show (q1s C x).length=D.cells.length from hC'',hW]
  |false=>rw[hC'];exact e1
 rw[e1,e2,hb]at h
 exact h
theorem w8k (D:Dev)(a:Int)(hw:D.waitsIn)(hn:D.waits.length≤1000000) :
 AFm Tryz.prog 4 q4k [.msl 2 2 0 D.waits.length,v7p a] (z0a D) (v9 (.msl 2 2 0 (q1h a D.waits).length) (u0s D a)):=by
 refine Q5 4 hT q4m rfl rfl q4n rfl rfl ?_
 refine q8 (q7 hT ?_)
 refine q8 (q7 hT ?_)
 refine v9a (v4d D a hw hn) ?_
 rintro r H' (⟨rfl,hno,rfl⟩|⟨i,x,hx,hh,hno,rfl,rfl⟩)
 ·refine q8 (q8 (q7 hT ?_))
  refine z2 ?_
  refine q8 (q7 hT ?_)
  refine y5 ?_
  refine z9 [0,1,2,3] ⟨?_,?_⟩ rfl
  ·rw[z4h hno];rfl
  ·show z0a D=u0s D a
   unfold z0a u0s
   rw[z4h hno,y4z hno]
 ·have hi:i<D.waits.length:=(List.getElem?_eq_some_iff.1 hx).1
  refine q8 (q8 (q7 hT ?_))
  refine z2 ?_
  refine z5 ?_
  refine q8 (q8 (q7 hT ?_))
  refine z3 ?_
  refine y8 (fun n s=>∃ (k j:Nat) (k' j':Int) (C:List Cell) (W:List Wr),n+j=D.waits.length∧k'=k∧j'=j∧DelOk D a k j C W∧s=⟨⟨42,[(0,.msl 2 2 0 D.waits.length),(1,v7p a),(5,i64 k'),(6,i64 j')]⟩,[q3k D 1 2,.row Z3 4 (cx C),.row Q8 2 (wx W),.cells q0g [.ref 0 0]]⟩) (D.waits.length - (i+1)) ⟨⟨42,_⟩,[_,_,_,_]⟩ (q9 [0,1,2,3] [0,1,5,6] rfl) ⟨i,i+1,i,IntKind.i64.wrap ((i:Int)+1),q1s D.cells x,D.waits,by omega,rfl,?_,?_,?_⟩ ?_
  ·rw[y7 _ (by omega) (by omega)];rfl
  ·refine⟨rfl,by omega,hi,?_,?_,rfl⟩
   ·rw[List.take_add_one,hx];show _=q0u a (_++[x]) _;rw[q9g,hh,y4z hno]
   ·rw[List.take_add_one,hx];show _=q1h a (_++[x]);rw[q9h,hh,z4h hno]
  ·refine congrArg (St.mk _) ?_
   show z0a (D.done x)=_
   unfold z0a q3k
   rw[show (D.done x).cells.length=D.cells.length from q8d _ _]
   rfl
  rintro n s ⟨k,j,k',j',C,W,hnj,rfl,rfl,hd,rfl⟩
  refine q8 (q8 (q7 hT ?_))
  refine z2 (y4 (fun h=>?_) (fun h=>?_))
  ·have hj:j<D.waits.length:=by
    have:=of_decide_eq_true (show decide ((j:Int)<(D.waits.length:Int))=true from h)
    omega
   have hx2:=List.getElem?_eq_getElem hj
   have hin:=hw _ (List.getElem_mem hj)
   generalize D.waits[j]=y at hx2 hin
   have hkj:=hd.kj
   have hy:W[j]?=some y:=by
    have:=congrArg (fun l=>l[0]?) hd.W2
    simpa [hx2] using this
   have hCl:C.length=D.cells.length:=by rw[hd.C,q7n]
   refine z5 ?_
   refine q8 (z3 (q8 (q7 hT ?_)))
   refine⟨⟨Int.natCast_nonneg _,of_decide_eq_true h⟩,?_⟩
   refine v7 (show (wx W)[0+((j:Nat):Int).toNat]?=some y.pv by rw[Nat.zero_add,Int.toNat_natCast];exact y4r hy) ?_
   refine Q1 (Q3 4 [.raw (.int .i64 y.at_),bP y.s] rfl rfl) ?_
   refine q8 (q7 hT ?_)
   cases hh:q4c a y with
   |true=>
    refine y9 (u6 [0,1,2,3] (x9c D a C W hCl hd.len y hin.1 (by omega) true (q1s C y) hh rfl) rfl rfl rfl) ?_
    refine z2 ?_
    refine z5 ?_
    refine q7 hT ?_
    refine⟨n - 1,by omega,_,q9 [0,1,2,3] [0,1,5,6] rfl,k,j+1,k,IntKind.i64.wrap ((j:Int)+1),q1s C y,W,by omega,rfl,?_,hd.hit hx2 hh,rfl⟩
    rw[y7 _ (by omega) (by omega)];rfl
   |false=>
    refine y9 (u6 [0,1,2,3] (x9c D a C W hCl hd.len y hin.1 (by omega) false C hh rfl) rfl rfl rfl) ?_
    refine z2 ?_
    refine q8 (q7 hT ?_)
    refine⟨⟨Int.natCast_nonneg _,by omega⟩,?_⟩
    refine v7 (show (wx W)[0+((k:Nat):Int).toNat]?=some (W[k]'(by rw[hd.len];omega)).pv by rw[Nat.zero_add,Int.toNat_natCast];exact y4r (List.getElem?_eq_getElem _)) ?_
    refine y2h rfl (v7 rfl ?_)
    refine q7 hT ?_
    refine q7 hT ?_
    refine⟨n - 1,by omega,_,q9 [0,1,2,3] [0,1,5,6] rfl,k+1,j+1,IntKind.i64.wrap ((k:Int)+1),IntKind.i64.wrap ((j:Int)+1),C,W.set k y,by omega,?_,?_,hd.miss hx2 hh,?_⟩
    ·rw[y7 _ (by omega) (by omega)];rfl
    ·rw[y7 _ (by omega) (by omega)];rfl
    ·refine congrArg (St.mk _) ?_
     rw[u0t,show (wx W).set k y.pv=(wx W).set (0+((k:Nat):Int).toNat) y.pv by rw[Int.toNat_natCast,Nat.zero_add]]
     rfl
  ·refine x9 ?_
   have hj:j=D.waits.length:=by
    have:¬ ((j:Int)<(D.waits.length:Int)):=of_decide_eq_false h
    have:=hd.jn
    omega
   subst hj
   have hkj:=hd.kj
   refine q8 (q7 hT ?_)
   refine⟨⟨Int.natCast_nonneg _,by omega,Int.le_refl _⟩,?_⟩
   refine⟨by rw[z8z,hd.len];simp;omega,?_⟩
   refine q8 (q7 hT ?_)
   refine⟨⟨Int.le_refl _,Int.natCast_nonneg _,by omega⟩,?_⟩
   refine Q1 (y4v 2 k rfl) ?_
   refine y5 ?_
   have hk:=hd.W1
   rw[List.take_length]at hk
   have hkl:(q1h a D.waits).length=k:=by rw[← hk,List.length_take,hd.len];omega
   refine z9 [0,1,2,3] ⟨?_,?_⟩ rfl
   ·rw[hkl];rfl
   ·refine u7k (fun x y=>[q3k D 1 2,ABlk.row Z3 4 (cx x),ABlk.row Q8 2 y,ABlk.cells q0g [.ref 0 0]]) ?_ ?_
    ·rw[hd.C,List.take_length]
    ·show (X7 (wx W) (0+((k:Nat):Int).toNat) _).take k=_
     rw[Nat.zero_add,Int.toNat_natCast,w8j _ _ _ (by rw[z8z,hd.len];omega),← hk]
     simp[wx]
end Go.Proofs.YtinfbclgkghgaaaGreat.AL
namespace Go.Proofs.YtinfbclgkghgaaaGreat.AL
open Go Go.Proofs
theorem z1b (D:Dev)(a:Int)(hw:D.waitsIn)(hn:D.waits.length≤1000000):AFm Tryz.prog 3 z3w [.ref 0 0,i64 a] (Y4 D) (v9 (.tup []) (Y4 (D.settle a))):=by
 refine Q5 3 hT z3x rfl rfl z3y rfl rfl ?_
 refine q8 (q7 hT ?_)
 refine Q1 (Q3 4 [.raw (.int .i64 a)] rfl rfl) ?_
 refine x6 [6,9] [] hT z6 (by rfl) ?_
 refine⟨_,_,u6 [0,1,2,3] (w8k D a hw hn) rfl rfl rfl,?_⟩
 refine⟨rfl,?_⟩
 refine z9 [0,1,2] ⟨rfl,?_⟩ rfl
 unfold Y4 q3k
 rw[show (D.settle a).cells.length=D.cells.length from q7n _ _ _]
 rfl
structure Flt where
 kind:Int
 at_:Int
 off:Int
 n:Int
 to:Int
 m0:UInt8
 m1:UInt8
 m2:UInt8
 m3:UInt8
 deriving DecidableEq
abbrev Flt.pv (f:Flt):List PV:=[.raw (.int .i64 f.kind),.raw (.int .i64 f.at_),.raw (.int .i64 f.off),.raw (.int .i64 f.n),.raw (.int .i64 f.to),u8 f.m0,u8 f.m1,u8 f.m2,u8 f.m3]
abbrev Flt.av (f:Flt):AV:=.agg [i64 f.kind,i64 f.at_,i64 f.off,i64 f.n,i64 f.to,.p (u8 f.m0),.p (u8 f.m1),.p (u8 f.m2),.p (u8 f.m3)]
def Dev.upd (D:Dev)(a:Int)(g:Cell→Cell):Dev:={ D with cells:=D.cells.modify a.toNat g }
theorem y0c {l:List Cell}{i:Nat}{c:Cell}(g:Cell→Cell)(h:l[i]?=some c):l.modify i g=l.set i (g c):=by
 apply List.ext_getElem?
 intro j
 rw[List.getElem?_modify,List.getElem?_set]
 by_cases e:i=j
 ·subst e
  rw[if_pos rfl,if_pos (List.getElem?_eq_some_iff.1 h).1,h];simp
 ·simp[e]
theorem z1c (D:Dev)(a:Int)(g:Cell→Cell){c:Cell}(h:D.cells[a.toNat]?=some c):Y4 (D.upd a g)=[q3k D 1 2,.row Z3 4 ((cx D.cells).set (0+a.toNat) (g c).pv),.row Q8 2 (wx D.waits)]:=by
 rw[← y4t D a.toNat (g c)]
 unfold Dev.upd
 rw[y0c g h]
theorem q7p {D:Dev}{a:Int}(h:D.has a=true):a.toNat<D.cells.length∧0≤a∧a<(D.cells.length:Int):=by
 have h1:(decide (a≥0)&&decide (a<(D.cells.length:Int)))=true:=h
 rw[Bool.and_eq_true,decide_eq_true_eq,decide_eq_true_eq]at h1
 omega
theorem q6v (D:Dev){a:Int}(h:D.has a=true):∃ c,D.cells[a.toNat]?=some c∧(cx D.cells)[0+a.toNat]?=some c.pv:=by
 have hc:=List.getElem?_eq_getElem (q7p h).1
 exact⟨_,hc,by rw[Nat.zero_add];exact y4q hc⟩
theorem q2z (D:Dev)(a b:Int):(D.settle a).has b=D.has b:=by
 unfold Dev.has;rw[show (D.settle a).cells.length=D.cells.length from q7n _ _ _]
theorem bx_zeros:bx z3n=List.replicate 256 [PV.raw (.int .u8 0)]:=by
 unfold z3n bx;rw[List.map_replicate];rfl
theorem w8m (D:Dev)(f:Flt)(hw:D.waitsIn)(hn:D.waits.length≤1000000)(hh:D.has f.at_=true) :
 AFm Tryz.prog 3 z8c [.ref 0 0,f.av] (Y4 D) (v9 (.tup []) (Y4 ((D.settle f.at_).upd f.at_ fun c=>{ c with lost:=true }))):=by
 refine Q5 3 hT z8d rfl rfl z8e rfl rfl ?_
 refine q8 (q7 hT ?_)
 refine Q1 (Q3 3 f.pv rfl rfl) ?_
 refine q8 (q7 hT ?_)
 refine y9 (u6 [0,1,2] (z1b D f.at_ hw hn) rfl rfl rfl) ?_
 have hlt:=q7p ((q2z D f.at_ f.at_).trans hh)
 obtain⟨c,hc,g1⟩:=q6v (D.settle f.at_) ((q2z D f.at_ f.at_).trans hh)
 refine x6 [8] [] hT z6 (by rfl) ?_
 refine⟨⟨hlt.2.1,hlt.2.2⟩,?_⟩
 refine v7 g1 ?_
 exact z9 [0,1,2] ⟨rfl,(z1c (D.settle f.at_) f.at_ (fun c=>{ c with lost:=true }) hc).symm⟩ rfl
theorem w3q (D:Dev)(f:Flt)(hw:D.waitsIn)(hn:D.waits.length≤1000000)(hh:D.has f.at_=true) :
 AFm Tryz.prog 3 z5p [.ref 0 0,f.av] (Y4 D) (v9 (.tup []) (Y4 ((D.settle f.at_).upd f.at_ fun c=>{ c with s:=z3n,lost:=false }))):=by
 refine Q5 3 hT z5q rfl rfl z5r rfl rfl ?_
 refine q8 (q7 hT ?_)
 refine Q1 (Q3 3 f.pv rfl rfl) ?_
 refine q8 (q7 hT ?_)
 refine y9 (u6 [0,1,2] (z1b D f.at_ hw hn) rfl rfl rfl) ?_
 have hlt:=q7p ((q2z D f.at_ f.at_).trans hh)
 obtain⟨c,hc,g1⟩:=q6v (D.settle f.at_) ((q2z D f.at_ f.at_).trans hh)
 have g2:∀ e,((cx (D.settle f.at_).cells).set (0+f.at_.toNat) e)[0+f.at_.toNat]?=some e:=fun e=>by
  rw[Nat.zero_add];exact List.getElem?_set_self (by rw[x3t];exact hlt.1)
 refine x6 [15,18] [12] hT z6 (by rfl) ?_
 refine⟨⟨rfl,by omega,by decide,by omega⟩,?_⟩
 refine⟨⟨rfl,List.length_replicate.symm⟩,?_⟩
 refine⟨⟨hlt.2.1,hlt.2.2⟩,?_⟩
 refine v7 g1 ?_
 refine y2h rfl (v7 rfl ?_)
 refine⟨⟨hlt.2.1,hlt.2.2⟩,?_⟩
 refine v7 (g2 _) ?_
 refine⟨rfl,?_⟩
 refine z9 [0,1,2] ⟨rfl,?_⟩ rfl
 refine Eq.trans ?_ (z1c (D.settle f.at_) f.at_ (fun c=>{ c with s:=z3n,lost:=false }) hc).symm
 refine Eq.trans (congrArg (fun z=>[q3k (D.settle f.at_) 1 2,ABlk.row Z3 4 z,ABlk.row Q8 2 (wx (D.settle f.at_).waits)]) (List.set_set ..)) ?_
 refine congrArg (fun z=>[q3k (D.settle f.at_) 1 2,ABlk.row Z3 4 ((cx (D.settle f.at_).cells).set (0+f.at_.toNat) [.sl 1 z,.raw (.bool false),.raw (.int .i64 c.drop),iP c.miss]),ABlk.row Q8 2 (wx (D.settle f.at_).waits)]) ?_
 exact bx_zeros.symm
theorem w8n (D:Dev)(f:Flt)(hh:D.has f.at_=true) :
 AFm Tryz.prog 3 z8f [.ref 0 0,f.av] (Y4 D) (v9 (.tup []) (Y4 (D.upd f.at_ fun c=>{ c with drop:=IntKind.i64.wrap (c.drop+f.n) }))):=by
 refine Q5 3 hT z8g rfl rfl z8h rfl rfl ?_
 refine q8 (q7 hT ?_)
 refine Q1 (Q3 3 f.pv rfl rfl) ?_
 have hlt:=q7p hh
 obtain⟨c,hc,g1⟩:=q6v D hh
 refine x6 [14] [] hT z6 (by rfl) ?_
 refine⟨⟨hlt.2.1,hlt.2.2⟩,?_⟩
 refine v7 g1 ?_
 refine⟨⟨hlt.2.1,hlt.2.2⟩,?_⟩
 refine v7 g1 ?_
 exact z9 [0,1,2] ⟨rfl,(z1c D f.at_ (fun c=>{ c with drop:=IntKind.i64.wrap (c.drop+f.n) }) hc).symm⟩ rfl
theorem w8p (D:Dev)(f:Flt)(hh:D.has f.at_=true)(hm:∀ c∈D.cells,c.miss.length≤1000000) :
 AFm Tryz.prog 3 z8i [.ref 0 0,f.av] (Y4 D) (v9 (.tup []) (Y4 (D.upd f.at_ fun c=>{ c with miss:=c.miss++[f.to] }))):=by
 refine Q5 3 hT z8j rfl rfl z8k rfl rfl ?_
 refine q8 (q7 hT ?_)
 refine Q1 (Q3 3 f.pv rfl rfl) ?_
 have hlt:=q7p hh
 obtain⟨c,hc,g1⟩:=q6v D hh
 have hcm:=hm _ (List.mem_of_getElem? hc)
 refine q8 ?_
 refine x6 [] [] hT z6 (by rfl) ?_
 refine⟨⟨hlt.2.1,hlt.2.2⟩,?_⟩
 refine x6 [5,9,12] [8,9] hT z6 (by rfl) ?_
 refine v7 g1 ?_
 refine⟨_,_,q1z (w8i c.miss hcm) _ rfl,?_⟩
 refine⟨⟨rfl,rfl⟩,?_⟩
 refine⟨z8y _,⟨?_,?_⟩,?_⟩
 ·show ((ix c.miss).length+1)*8≤140737488355328
  rw[z8y];omega
 ·show (ix c.miss).length+1≤140737488355328
  rw[z8y];omega
 refine⟨⟨rfl,rfl⟩,?_⟩
 refine v7 g1 ?_
 refine⟨rfl,?_⟩
 refine⟨⟨⟨rfl,rfl⟩,rfl⟩,?_⟩
 refine z9 [0,1,2] ⟨rfl,?_⟩ rfl
 refine Eq.trans ?_ (z1c D f.at_ (fun c=>{ c with miss:=c.miss++[f.to] }) hc).symm
 have e:ix (c.miss++[f.to])=ix c.miss++[[.raw (.int .i64 f.to)]]:=by simp[ix]
 show _=[_,ABlk.row Z3 4 ((cx D.cells).set (0+f.at_.toNat) [_,_,_,.sl 1 (ix (c.miss++[f.to]))]),_]
 rw[e]
 rfl
end Go.Proofs.YtinfbclgkghgaaaGreat.AL
namespace Go.Proofs.YtinfbclgkghgaaaGreat.AL
open Go Go.Proofs
theorem w8q (l:z7)(hl:l.length≤1000000):AF Tryz.prog q0t [bA l] [] (v9 (.msl 0 1 0 l.length) [.row z1 1 (bx l)]):=by
 have hb:=w9 l
 show AF Tryz.prog q0t [.p (.sl 1 (bx l))] [] _
 rw[← hb]
 generalize bx l=xs at hb
 refine v8 hT q5x rfl rfl q5y rfl ?_
 refine q8 (q7 hT ?_)
 refine q8 (q8 (q7 hT ?_))
 intro b hn
 refine z2 (y4 (fun h=>?_) (fun h=>?_))
 ·refine q8 (q7 hT ?_)
  refine y5 ?_
  rw[hn h]
  exact x2h z1 1 ⟨rfl,rfl⟩
 ·refine z5 ?_
  refine q8 (q7 hT ?_)
  refine⟨rfl,⟨?_,?_⟩,?_⟩
  ·show (0+xs.length)*1≤_;omega
  ·show 0+xs.length≤_;omega
  refine y5 ?_
  exact z9 [1] ⟨rfl,rfl⟩ rfl
def Flt.m (f:Flt):Nat→UInt8|0=>f.m0|1=>f.m1|2=>f.m2|_=>f.m3
def q5u (f:Flt)(s:z7):Nat→z7
 |0=>s
 |i+1=>match decide (f.off+i<(s.length:Int)) with
  |true=>(q5u f s i).set (f.off.toNat+i) ((q5u f s i).getD (f.off.toNat+i) 0 ^^^ f.m i)
  |false=>q5u f s i
theorem q8e (f:Flt)(s:z7):∀ i,(q5u f s i).length=s.length
 |0=>rfl
 |i+1=>by
  unfold q5u;split
  ·rw[List.length_set,q8e f s i]
  ·exact q8e f s i
theorem w3r (a b:UInt8):IntKind.u8.wrap ((BitVec.ofInt 8 (a.toNat:Int) ^^^ BitVec.ofInt 8 (b.toNat:Int)).toNat:Int)=((a ^^^ b).toNat:Int):=by
 have h1:BitVec.ofInt 8 (a.toNat:Int)=a.toBitVec:=by
  apply BitVec.eq_of_toNat_eq;simp
 have h2:BitVec.ofInt 8 (b.toNat:Int)=b.toBitVec:=by
  apply BitVec.eq_of_toNat_eq;simp
 rw[h1,h2]
 have h3:(a.toBitVec ^^^ b.toBitVec)=(a ^^^ b).toBitVec:=rfl
 rw[h3]
 have h4:(a ^^^ b).toBitVec.toNat<256:=(a ^^^ b).toBitVec.isLt
 show IntKind.u8.wrap (((a ^^^ b).toBitVec.toNat:Nat):Int)=(((a ^^^ b).toBitVec.toNat:Nat):Int)
 generalize (a ^^^ b).toBitVec.toNat=n at h4
 rw[IntKind.wrap_u8];omega
theorem z9a (f:Flt)(i:Nat)(h0:0≤f.off)(h1:f.off<256)(hi:i<4):IntKind.i64.wrap (f.off+((i:Nat):Int))=f.off+(i:Int)∧(IntKind.i64.wrap (f.off+((i:Nat):Int))).toNat=f.off.toNat+i:=by
 rw[y7 _ (by omega) (by omega)];omega
theorem q7q (f:Flt)(s:z7)(i:Nat)(h0:0≤f.off)(h1:f.off<256)(hi:i<4)(h:f.off+(i:Int)<(s.length:Int)) :
 (bx (q5u f s i))[0+(IntKind.i64.wrap (f.off+((i:Nat):Int))).toNat]?=some [u8 ((q5u f s i).getD (f.off.toNat+i) 0)]:=by
 rw[Nat.zero_add,(z9a f i h0 h1 hi).2]
 have hl:f.off.toNat+i<(q5u f s i).length:=by rw[q8e];omega
 rw[bx,List.getElem?_map,List.getElem?_eq_getElem hl,List.getD_eq_getElem?_getD,List.getElem?_eq_getElem hl];rfl
theorem y1v (f:Flt)(s:z7)(i:Nat)(h0:0≤f.off)(h1:f.off<256)(hi:i<4)(h:f.off+(i:Int)<(s.length:Int)) :
 bx (q5u f s (i+1))=(bx (q5u f s i)).set (0+(IntKind.i64.wrap (f.off+((i:Nat):Int))).toNat) [.raw (.int .u8 (IntKind.u8.wrap ((BitVec.ofInt 8 (((q5u f s i).getD (f.off.toNat+i) 0).toNat:Int) ^^^ BitVec.ofInt 8 ((f.m i).toNat:Int)).toNat:Int)))]:=by
 rw[Nat.zero_add,(z9a f i h0 h1 hi).2,w3r]
 conv=>lhs;unfold q5u
 rw[decide_eq_true h]
 show bx (List.set _ _ _)=_
 rw[bx,List.map_set];rfl
theorem x3v (f:Flt)(s:z7)(i:Nat)(h:¬ f.off+(i:Int)<(s.length:Int)):q5u f s (i+1)=q5u f s i:=by
 conv=>lhs;unfold q5u
 rw[decide_eq_false h]
theorem v4e (D:Dev)(f:Flt)(hw:D.waitsIn)(hn:D.waits.length≤1000000)(hh:D.has f.at_=true)(h0:0≤f.off)(h1:f.off<256)(hs:∀ c∈(D.settle f.at_).cells,c.s.length≤1000000) :
 AFm Tryz.prog 3 y0n [.ref 0 0,f.av] (Y4 D) (v9 (.tup []) (Y4 ((D.settle f.at_).upd f.at_ fun c=>{ c with s:=q5u f c.s 4 }))):=by
 refine Q5 3 hT y0p rfl rfl y0q rfl rfl ?_
 refine q8 (q7 hT ?_)
 refine Q1 (Q3 3 f.pv rfl rfl) ?_
 refine q8 (q7 hT ?_)
 refine y9 (u6 [0,1,2] (z1b D f.at_ hw hn) rfl rfl rfl) ?_
 have hlt:=q7p ((q2z D f.at_ f.at_).trans hh)
 obtain⟨c,hc,g1⟩:=q6v (D.settle f.at_) ((q2z D f.at_ f.at_).trans hh)
 have hcs:=hs _ (List.mem_of_getElem? hc)
 refine q8 ?_
 refine x6 [9] [] hT z6 (by rfl) ?_
 refine⟨⟨hlt.2.1,hlt.2.2⟩,?_⟩
 refine v7 g1 ?_
 refine⟨_,_,q1z (w8q c.s hcs) _ rfl,?_⟩
 refine q8 (q8 (q7 hT ?_))
 refine z3 ?_
 refine y8 (fun n s=>∃ (i:Nat) (j:Int),n+i=4∧j=i∧s=⟨⟨54,[(0,.ref 0 0),(3,.p (.box f.pv)),(4,.msl 3 1 0 c.s.length),(22,.agg [.p (u8 f.m0),.p (u8 f.m1),.p (u8 f.m2),.p (u8 f.m3)]),(23,i64 j)]⟩,Y4 (D.settle f.at_)++[.row z1 1 (bx (q5u f c.s i))]⟩) 4 ⟨⟨54,_⟩,[_,_,_,_]⟩ (q9 [0,1,2,4] [0,3,4,22,23] rfl) ⟨0,_,rfl,rfl,rfl⟩ ?_
 rintro n s ⟨i,j,hni,rfl,rfl⟩
 refine q8 (q7 hT ?_)
 refine q8 (z2 (y4 (fun h=>?_) (fun h=>?_)))
 ·have hi:i<4:=by
   have:=of_decide_eq_true (show decide ((i:Int)<4)=true from h)
   omega
  refine z5 ?_
  obtain rfl|rfl|rfl|rfl:i=0∨i=1∨i=2∨i=3:=by omega
  ·refine q8 (z3 (q8 (q7 hT ?_)))
   refine⟨⟨by omega,by omega⟩,?_⟩
   have ha:=z9a f 0 h0 h1 (by omega)
   refine q8 (q7 hT ?_)
   refine z2 (y4 (fun h3=>?_) (fun h3=>?_))
   ·have h3:f.off+((0:Nat):Int)<(c.s.length:Int):=by
     have:=of_decide_eq_true h3
     rw[ha.1]at this;exact this
    refine q7 hT ?_
    refine⟨⟨by rw[ha.1];omega,by rw[ha.1];exact h3⟩,?_⟩
    refine v7 (q7q f c.s 0 h0 h1 (by omega) h3) ?_
    refine⟨⟨by rw[ha.1];omega,by rw[ha.1];exact h3⟩,?_⟩
    refine v7 (q7q f c.s 0 h0 h1 (by omega) h3) ?_
    refine q7 hT ?_
    refine⟨n - 1,by omega,_,q9 [0,1,2,3] [0,3,4,22,23] rfl,0+1,IntKind.i64.wrap (((0:Nat):Int)+1),by omega,by decide,?_⟩
    refine congrArg (St.mk _) ?_
    rw[y1v f c.s 0 h0 h1 (by omega) h3]
    rfl
   ·have h3:¬ f.off+((0:Nat):Int)<(c.s.length:Int):=by
     have:=of_decide_eq_false h3
     rw[ha.1]at this;exact this
    refine z5 ?_
    refine q7 hT ?_
    refine⟨n - 1,by omega,_,q9 [0,1,2,3] [0,3,4,22,23] rfl,0+1,IntKind.i64.wrap (((0:Nat):Int)+1),by omega,by decide,?_⟩
    refine congrArg (St.mk _) ?_
    rw[x3v f c.s 0 h3]
    rfl
  ·refine q8 (z3 (q8 (q7 hT ?_)))
   refine⟨⟨by omega,by omega⟩,?_⟩
   have ha:=z9a f 1 h0 h1 (by omega)
   refine q8 (q7 hT ?_)
   refine z2 (y4 (fun h3=>?_) (fun h3=>?_))
   ·have h3:f.off+((1:Nat):Int)<(c.s.length:Int):=by
     have:=of_decide_eq_true h3
     rw[ha.1]at this;exact this
    refine q7 hT ?_
    refine⟨⟨by rw[ha.1];omega,by rw[ha.1];exact h3⟩,?_⟩
    refine v7 (q7q f c.s 1 h0 h1 (by omega) h3) ?_
    refine⟨⟨by rw[ha.1];omega,by rw[ha.1];exact h3⟩,?_⟩
    refine v7 (q7q f c.s 1 h0 h1 (by omega) h3) ?_
    refine q7 hT ?_
    refine⟨n - 1,by omega,_,q9 [0,1,2,3] [0,3,4,22,23] rfl,1+1,IntKind.i64.wrap (((1:Nat):Int)+1),by omega,by decide,?_⟩
    refine congrArg (St.mk _) ?_
    rw[y1v f c.s 1 h0 h1 (by omega) h3]
    rfl
   ·have h3:¬ f.off+((1:Nat):Int)<(c.s.length:Int):=by
     have:=of_decide_eq_false h3
     rw[ha.1]at this;exact this
    refine z5 ?_
    refine q7 hT ?_
    refine⟨n - 1,by omega,_,q9 [0,1,2,3] [0,3,4,22,23] rfl,1+1,IntKind.i64.wrap (((1:Nat):Int)+1),by omega,by decide,?_⟩
    refine congrArg (St.mk _) ?_
    rw[x3v f c.s 1 h3]
    rfl
  ·refine q8 (z3 (q8 (q7 hT ?_)))
   refine⟨⟨by omega,by omega⟩,?_⟩
   have ha:=z9a f 2 h0 h1 (by omega)
   refine q8 (q7 hT ?_)
   refine z2 (y4 (fun h3=>?_) (fun h3=>?_))
   ·have h3:f.off+((2:Nat):Int)<(c.s.length:Int):=by
     have:=of_decide_eq_true h3
     rw[ha.1]at this;exact this
    refine q7 hT ?_
    refine⟨⟨by rw[ha.1];omega,by rw[ha.1];exact h3⟩,?_⟩
    refine v7 (q7q f c.s 2 h0 h1 (by omega) h3) ?_
    refine⟨⟨by rw[ha.1];omega,by rw[ha.1];exact h3⟩,?_⟩
    refine v7 (q7q f c.s 2 h0 h1 (by omega) h3) ?_
    refine q7 hT ?_
    refine⟨n - 1,by omega,_,q9 [0,1,2,3] [0,3,4,22,23] rfl,2+1,IntKind.i64.wrap (((2:Nat):Int)+1),by omega,by decide,?_⟩
    refine congrArg (St.mk _) ?_
    rw[y1v f c.s 2 h0 h1 (by omega) h3]
    rfl
   ·have h3:¬ f.off+((2:Nat):Int)<(c.s.length:Int):=by
     have:=of_decide_eq_false h3
     rw[ha.1]at this;exact this
    refine z5 ?_
    refine q7 hT ?_
    refine⟨n - 1,by omega,_,q9 [0,1,2,3] [0,3,4,22,23] rfl,2+1,IntKind.i64.wrap (((2:Nat):Int)+1),by omega,by decide,?_⟩
    refine congrArg (St.mk _) ?_
    rw[x3v f c.s 2 h3]
    rfl
  ·refine q8 (z3 (q8 (q7 hT ?_)))
   refine⟨⟨by omega,by omega⟩,?_⟩
   have ha:=z9a f 3 h0 h1 (by omega)
   refine q8 (q7 hT ?_)
   refine z2 (y4 (fun h3=>?_) (fun h3=>?_))
   ·have h3:f.off+((3:Nat):Int)<(c.s.length:Int):=by
     have:=of_decide_eq_true h3
     rw[ha.1]at this;exact this
    refine q7 hT ?_
    refine⟨⟨by rw[ha.1];omega,by rw[ha.1];exact h3⟩,?_⟩
    refine v7 (q7q f c.s 3 h0 h1 (by omega) h3) ?_
    refine⟨⟨by rw[ha.1];omega,by rw[ha.1];exact h3⟩,?_⟩
    refine v7 (q7q f c.s 3 h0 h1 (by omega) h3) ?_
    refine q7 hT ?_
    refine⟨n - 1,by omega,_,q9 [0,1,2,3] [0,3,4,22,23] rfl,3+1,IntKind.i64.wrap (((3:Nat):Int)+1),by omega,by decide,?_⟩
    refine congrArg (St.mk _) ?_
    rw[y1v f c.s 3 h0 h1 (by omega) h3]
    rfl
   ·have h3:¬ f.off+((3:Nat):Int)<(c.s.length:Int):=by
     have:=of_decide_eq_false h3
     rw[ha.1]at this;exact this
    refine z5 ?_
    refine q7 hT ?_
    refine⟨n - 1,by omega,_,q9 [0,1,2,3] [0,3,4,22,23] rfl,3+1,IntKind.i64.wrap (((3:Nat):Int)+1),by omega,by decide,?_⟩
    refine congrArg (St.mk _) ?_
    rw[x3v f c.s 3 h3]
    rfl
 ·refine x9 ?_
  have hi:i=4:=by
   have:=of_decide_eq_false (show decide ((i:Int)<4)=false from h)
   omega
  subst hi
  refine Q1 (y1t 4 3 rfl rfl (by rw[w9,q8e];omega)) ?_
  refine x6 [9] [] hT z6 (by rfl) ?_
  refine⟨⟨hlt.2.1,hlt.2.2⟩,?_⟩
  refine v7 g1 ?_
  refine z9 [0,1,2] ⟨rfl,?_⟩ rfl
  refine Eq.trans ?_ (z1c (D.settle f.at_) f.at_ (fun c=>{ c with s:=q5u f c.s 4 }) hc).symm
  refine congrArg (fun z=>[q3k (D.settle f.at_) 1 2,ABlk.row Z3 4 ((cx (D.settle f.at_).cells).set (0+f.at_.toNat) [.sl 1 z,.raw (.bool c.lost),.raw (.int .i64 c.drop),iP c.miss]),ABlk.row Q8 2 (wx (D.settle f.at_).waits)]) ?_
  show ((bx (q5u f c.s 4)).drop 0).take c.s.length=_
  rw[List.drop_zero,← q8e f c.s 4,← w9,List.take_length]
end Go.Proofs.YtinfbclgkghgaaaGreat.AL
namespace Go.Proofs.YtinfbclgkghgaaaGreat.AL
open Go Go.Proofs
def Dev.may (D:Dev)(f:Flt):Int:=match D.has f.at_ with
 |false=>3
 |true=>match decide (f.kind<1)||decide (f.kind > 5) with
  |true=>1
  |false=>match (f.kind==1)&&(decide (f.off<0)||decide (f.off≥256)) with
   |true=>1
   |false=>match (f.kind==4)&&(decide (f.n<1)||decide (f.n > 1000)) with
    |true=>1
    |false=>match (f.kind==5)&&!(D.has f.to) with
     |true=>3
     |false=>0
theorem v4f (D:Dev)(f:Flt):AFm Tryz.prog 3 y0j [.ref 0 0,f.av] (Y4 D) (v9 (i64 (D.may f)) (Y4 D)):=by
 refine Q5 3 hT y0k rfl rfl y0m rfl rfl ?_
 refine q8 (q7 hT ?_)
 refine Q1 (Q3 3 f.pv rfl rfl) ?_
 refine z8 ⟨⟨57,[]⟩,Y4 D⟩ (D.may f=0) (z3 (q8 (q7 hT ?_))) ?_
 ·refine y9 (u6 [0,1,2] (z6g D f.at_) rfl rfl rfl) ?_
  refine z2 (y4 (fun h=>?_) (fun h=>?_))
  ·have e:D.may f=3:=by unfold Dev.may;rw[(Bool.not_eq_true' _).mp h]
   refine q8 (q7 hT ?_)
   refine y5 ?_
   rw[e]
   exact z9 [0,1,2] ⟨rfl,rfl⟩ rfl
  have h:D.has f.at_=true:=(Bool.not_eq_false' _).mp h
  have one:(decide (f.kind<1)||decide (f.kind > 5))=true→D.may f=1:=fun h2=>by unfold Dev.may;rw[h,h2]
  refine y6 (fun s1=>∃ b,b=(decide (f.kind<1)||decide (f.kind > 5))∧s1=⟨⟨57,[(0,.ref 0 0),(3,.p (.box f.pv)),(11,bl b)]⟩,Y4 D⟩) (q8 (q7 hT ?_)) ?_
  ·refine z2 (y4 (fun h2=>?_) (fun h2=>?_))
   ·refine z5 ⟨_,q9 [0,1,2] [0,3,11] rfl,decide (f.kind<1),?_,rfl⟩
    rw[show decide (f.kind<1)=true from h2];rfl
   ·refine q7 hT ?_
    refine⟨_,q9 [0,1,2] [0,3,11] rfl,decide (f.kind > 5),?_,rfl⟩
    rw[show decide (f.kind<1)=false from h2];rfl
  rintro _ ⟨b,hb,rfl⟩
  refine z2 (y4 (fun h2=>?_) (fun h2=>?_))
  ·have e:D.may f=1:=one (hb.symm.trans h2)
   refine q8 (q7 hT ?_)
   refine y5 ?_
   rw[e]
   exact z9 [0,1,2] ⟨rfl,rfl⟩ rfl
  have hk:(decide (f.kind<1)||decide (f.kind > 5))=false:=hb.symm.trans h2
  have two:((f.kind==1)&&(decide (f.off<0)||decide (f.off≥256)))=true→D.may f=1:=fun h3=>by unfold Dev.may;rw[h,hk,h3]
  refine y6 (fun s1=>∃ b,b=((f.kind==1)&&(decide (f.off<0)||decide (f.off≥256)))∧s1=⟨⟨57,[(0,.ref 0 0),(3,.p (.box f.pv)),(18,bl b)]⟩,Y4 D⟩) (q7 hT ?_) ?_
  ·refine y4 (fun h3=>?_) (fun h3=>?_)
   ·have h3:(f.kind==1)=true:=h3
    refine y4 (fun h4=>?_) (fun h4=>?_)
    ·refine⟨_,q9 [0,1,2] [0,3,18] rfl,true,?_,rfl⟩
     rw[h3,show decide (f.off<0)=true from h4];rfl
    ·refine⟨_,q9 [0,1,2] [0,3,18] rfl,decide (f.off≥256),?_,rfl⟩
     rw[h3,show decide (f.off<0)=false from h4];rfl
   ·have h3:(f.kind==1)=false:=h3
    refine⟨_,q9 [0,1,2] [0,3,18] rfl,false,?_,rfl⟩
    rw[h3];rfl
  rintro _ ⟨b,hb,rfl⟩
  refine z2 (y4 (fun h2=>?_) (fun h2=>?_))
  ·have e:D.may f=1:=two (hb.symm.trans h2)
   refine q8 (q7 hT ?_)
   refine y5 ?_
   rw[e]
   exact z9 [0,1,2] ⟨rfl,rfl⟩ rfl
  have hk2:((f.kind==1)&&(decide (f.off<0)||decide (f.off≥256)))=false:=hb.symm.trans h2
  have three:((f.kind==4)&&(decide (f.n<1)||decide (f.n > 1000)))=true→D.may f=1:=fun h3=>by unfold Dev.may;rw[h,hk,hk2,h3]
  refine y6 (fun s1=>∃ b,b=((f.kind==4)&&(decide (f.n<1)||decide (f.n > 1000)))∧s1=⟨⟨57,[(0,.ref 0 0),(3,.p (.box f.pv)),(32,bl b)]⟩,Y4 D⟩) (q7 hT ?_) ?_
  ·refine y4 (fun h3=>?_) (fun h3=>?_)
   ·have h3:(f.kind==4)=true:=h3
    refine y4 (fun h4=>?_) (fun h4=>?_)
    ·refine⟨_,q9 [0,1,2] [0,3,32] rfl,true,?_,rfl⟩
     rw[h3,show decide (f.n<1)=true from h4];rfl
    ·refine⟨_,q9 [0,1,2] [0,3,32] rfl,decide (f.n > 1000),?_,rfl⟩
     rw[h3,show decide (f.n<1)=false from h4];rfl
   ·have h3:(f.kind==4)=false:=h3
    refine⟨_,q9 [0,1,2] [0,3,32] rfl,false,?_,rfl⟩
    rw[h3];rfl
  rintro _ ⟨b,hb,rfl⟩
  refine z2 (y4 (fun h2=>?_) (fun h2=>?_))
  ·have e:D.may f=1:=three (hb.symm.trans h2)
   refine q8 (q7 hT ?_)
   refine y5 ?_
   rw[e]
   exact z9 [0,1,2] ⟨rfl,rfl⟩ rfl
  have hk3:((f.kind==4)&&(decide (f.n<1)||decide (f.n > 1000)))=false:=hb.symm.trans h2
  refine q8 (q7 hT ?_)
  refine y4 (fun h3=>?_) (fun h3=>?_)
  ·have h3:(f.kind==5)=true:=h3
   refine y9 (u6 [0,1,2] (z6g D f.to) rfl rfl rfl) ?_
   refine z2 (y4 (fun h4=>?_) (fun h4=>?_))
   ·have e:D.may f=3:=by unfold Dev.may;rw[h,hk,hk2,hk3,h3,show (!(D.has f.to))=true from h4];rfl
    refine q8 (q7 hT ?_)
    refine y5 ?_
    rw[e]
    exact z9 [0,1,2] ⟨rfl,rfl⟩ rfl
   ·have e:D.may f=0:=by unfold Dev.may;rw[h,hk,hk2,hk3,h3,show (!(D.has f.to))=false from h4];rfl
    exact z5 ⟨q9 [0,1,2] [] rfl,e⟩
  ·have h3:(f.kind==5)=false:=h3
   have e:D.may f=0:=by unfold Dev.may;rw[h,hk,hk2,hk3,h3];rfl
   refine z2 ?_
   exact z5 ⟨q9 [0,1,2] [] rfl,e⟩
 ·intro e
  refine q8 (q7 hT ?_)
  refine y5 ?_
  rw[e]
  exact z9 [0,1,2] ⟨rfl,rfl⟩ rfl
end Go.Proofs.YtinfbclgkghgaaaGreat.AL
namespace Go.Proofs.YtinfbclgkghgaaaGreat.AL
open Go Go.Proofs
structure Dev.Ok (D:Dev) (b:Nat):Prop where
 at_:∀ x∈D.waits,0≤x.at_∧x.at_<(D.cells.length:Int)
 ws:∀ x∈D.waits,x.s.length=256
 cs:∀ c∈D.cells,c.s.length=256
 mt:∀ c∈D.cells,∀ t∈c.miss,0≤t∧t<(D.cells.length:Int)
 ml:∀ c∈D.cells,c.miss.length≤b
 wl:D.waits.length≤b
def Dev.hurt (D:Dev)(f:Flt):Dev:=
 if f.kind=1 then (D.settle f.at_).upd f.at_ fun c=>{ c with s:=q5u f c.s 4 }
 else if f.kind=2 then (D.settle f.at_).upd f.at_ fun c=>{ c with s:=z3n,lost:=false }
 else if f.kind=3 then (D.settle f.at_).upd f.at_ fun c=>{ c with lost:=true }
 else if f.kind=4 then D.upd f.at_ fun c=>{ c with drop:=IntKind.i64.wrap (c.drop+f.n) }
 else D.upd f.at_ fun c=>{ c with miss:=c.miss++[f.to] }
def Dev.fault (D:Dev)(f:Flt):Int × Dev:=match D.may f==0 with
 |false=>(D.may f,D)
 |true=>(0,D.hurt f)
theorem v4g {D:Dev}{f:Flt}(h:D.may f=0):D.has f.at_=true∧(1≤f.kind∧f.kind≤5)∧(f.kind=1→0≤f.off∧f.off<256)∧(f.kind=4→1≤f.n∧f.n≤1000)∧(f.kind=5→D.has f.to=true):=by
 unfold Dev.may at h
 split at h
 ·omega
 rename_i h1
 split at h
 ·omega
 rename_i h2
 split at h
 ·omega
 rename_i h3
 split at h
 ·omega
 rename_i h4
 split at h
 ·omega
 rename_i h5
 simp only[Bool.or_eq_false_iff,decide_eq_false_iff_not,Bool.and_eq_false_iff,beq_eq_false_iff_ne,Bool.not_eq_false']at h2 h3 h4 h5
 refine⟨h1,by omega,fun hk=>?_,fun hk=>?_,fun hk=>?_⟩
 ·rcases h3 with h3|h3
  ·exact absurd hk h3
  ·omega
 ·rcases h4 with h4|h4
  ·exact absurd hk h4
  ·omega
 ·rcases h5 with h5|h5
  ·exact absurd hk h5
  ·exact h5
theorem y9q {C:List Cell}{x:Wr}{c:Cell}(h:c∈q1s C x):c∈C∨∃ c0∈C,c = { c0 with s:=x.s,lost:=false }:=by
 unfold q1s at h
 split at h
 ·rename_i c0 hc0
  rcases List.mem_or_eq_of_mem_set h with h|h
  ·exact .inl h
  ·exact .inr ⟨c0,List.mem_of_getElem? hc0,h⟩
 ·exact .inl h
theorem z1d {a:Int}{W:List Wr}{C:List Cell}{c:Cell}(h:c∈q0u a W C):∃ c0∈C,c.miss=c0.miss∧(c.s=c0.s∨∃ x∈W,c.s=x.s):=by
 induction W generalizing C with
 |nil=>exact⟨c,h,rfl,.inl rfl⟩
 |cons x r ih=>
  have h:c∈q0u a r (match q4c a x with|true=>q1s C x|false=>C):=h
  obtain⟨c1,h1,h2,h3⟩:=ih h
  have:∃ c0∈C,c1.miss=c0.miss∧(c1.s=c0.s∨c1.s=x.s):=by
   split at h1
   ·rcases y9q h1 with h1|⟨c0,h0,e⟩
    ·exact⟨c1,h1,rfl,.inl rfl⟩
    ·exact⟨c0,h0,by rw[e],.inr (by rw[e])⟩
   ·exact⟨c1,h1,rfl,.inl rfl⟩
  obtain⟨c0,g1,g2,g3⟩:=this
  refine⟨c0,g1,h2.trans g2,?_⟩
  rcases h3 with h3|⟨y,hy,h3⟩
  ·rcases g3 with g3|g3
   ·exact .inl (h3.trans g3)
   ·exact .inr ⟨x,by simp,h3.trans g3⟩
  ·exact .inr ⟨y,by simp[hy],h3⟩
theorem Dev.Ok.settle {D:Dev}{b:Nat}(h:D.Ok b)(a:Int):(D.settle a).Ok b:=by
 have hl:(D.settle a).cells.length=D.cells.length:=q7n _ _ _
 have hw:∀ x∈(D.settle a).waits,x∈D.waits:=fun x hx=>(List.mem_filter.1 hx).1
 refine⟨fun x hx=>by rw[hl];exact h.at_ x (hw x hx),fun x hx=>h.ws x (hw x hx),fun c hc=>?_,fun c hc t ht=>?_,fun c hc=>?_,Nat.le_trans (w3p a D.waits) h.wl⟩
 ·obtain⟨c0,h0,_,h2⟩:=z1d hc
  rcases h2 with h2|⟨x,hx,h2⟩
  ·rw[h2];exact h.cs c0 h0
  ·rw[h2];exact h.ws x hx
 ·obtain⟨c0,h0,h1,_⟩:=z1d hc
  rw[h1]at ht;rw[hl];exact h.mt c0 h0 t ht
 ·obtain⟨c0,h0,h1,_⟩:=z1d hc
  rw[h1];exact h.ml c0 h0
theorem w3s (D:Dev)(f:Flt)(b:Nat)(hD:D.Ok b)(hb:b≤1000000):AFm Tryz.prog 3 z5d [.ref 0 0,f.av] (Y4 D) (v9 (i64 (D.fault f).1) (Y4 (D.fault f).2)):=by
 refine Q5 3 hT z5e rfl rfl z5f rfl rfl ?_
 refine q8 (q7 hT ?_)
 refine Q1 (Q3 3 f.pv rfl rfl) ?_
 refine q8 (q8 (q7 hT ?_))
 refine y9 (u6 [0,1,2] (v4f D f) rfl rfl rfl) ?_
 refine q8 (q7 hT ?_)
 refine z2 (y4 (fun h=>?_) (fun h=>?_))
 ·have h:(D.may f==0)=false:=by
   have h:(D.may f != 0)=true:=h
   simpa using h
  have e:D.fault f=(D.may f,D):=by unfold Dev.fault;rw[h]
  refine q8 (q7 hT ?_)
  refine y5 ?_
  rw[e]
  exact z9 [0,1,2] ⟨rfl,rfl⟩ rfl
 have h:(D.may f==0)=true:=by
  have h:(D.may f != 0)=false:=h
  simpa using h
 have e:D.fault f=(0,D.hurt f):=by unfold Dev.fault;rw[h]
 have hm:=v4g (show D.may f=0 by simpa using h)
 rw[e]
 refine z5 ?_
 refine q8 (q7 hT ?_)
 obtain⟨k,fa,fo,fn,ft,f0,f1,f2,f3⟩:=f
 have hw:D.waitsIn:=fun x hx=>hD.at_ x hx
 have hn:D.waits.length≤1000000:=Nat.le_trans hD.wl hb
 have hcs:∀ c∈(D.settle fa).cells,c.s.length≤1000000:=fun c hc=>by rw[(hD.settle fa).cs c hc];omega
 have hml:∀ c∈D.cells,c.miss.length≤1000000:=fun c hc=>Nat.le_trans (hD.ml c hc) hb
 have hk:k=1∨k=2∨k=3∨k=4∨k=5:=by have:=hm.2.1;simp only at this;omega
 rcases hk with rfl|rfl|rfl|rfl|rfl
 ·refine q8 (q7 hT ?_)
  refine y9 (u6 [0,1,2] (v4e D ⟨1,fa,fo,fn,ft,f0,f1,f2,f3⟩ hw hn hm.1 (hm.2.2.1 rfl).1 (hm.2.2.1 rfl).2 hcs) rfl rfl rfl) ?_
  refine q8 (q7 hT ?_)
  refine y5 ?_
  exact z9 [0,1,2] ⟨rfl,rfl⟩ rfl
 ·refine q8 (q7 hT ?_)
  refine y9 (u6 [0,1,2] (w3q D ⟨2,fa,fo,fn,ft,f0,f1,f2,f3⟩ hw hn hm.1) rfl rfl rfl) ?_
  refine q8 (q7 hT ?_)
  refine y5 ?_
  exact z9 [0,1,2] ⟨rfl,rfl⟩ rfl
 ·refine q8 (q7 hT ?_)
  refine y9 (u6 [0,1,2] (w8m D ⟨3,fa,fo,fn,ft,f0,f1,f2,f3⟩ hw hn hm.1) rfl rfl rfl) ?_
  refine q8 (q7 hT ?_)
  refine y5 ?_
  exact z9 [0,1,2] ⟨rfl,rfl⟩ rfl
 ·refine q8 (q7 hT ?_)
  refine y9 (u6 [0,1,2] (w8n D ⟨4,fa,fo,fn,ft,f0,f1,f2,f3⟩ hm.1) rfl rfl rfl) ?_
  refine q8 (q7 hT ?_)
  refine y5 ?_
  exact z9 [0,1,2] ⟨rfl,rfl⟩ rfl
 ·refine q8 (q7 hT ?_)
  refine y9 (u6 [0,1,2] (w8p D ⟨5,fa,fo,fn,ft,f0,f1,f2,f3⟩ hm.1 hml) rfl rfl rfl) ?_
  refine q8 (q7 hT ?_)
  refine y5 ?_
  exact z9 [0,1,2] ⟨rfl,rfl⟩ rfl
end Go.Proofs.YtinfbclgkghgaaaGreat.AL
namespace Go.Proofs.YtinfbclgkghgaaaGreat.AL
open Go Go.Proofs
def Q1t (b:UInt8):z7:=List.replicate 256 b
theorem u0u (l:z7)(i:Nat)(b:UInt8):bx (l.set i b)=(bx l).set i [u8 b]:=by simp[bx,List.map_set]
theorem y5a (s t:z7)(hs:s.length≤1000000):AF Tryz.prog x2q [bA s,bA t] [] (v9 (bl (s==t)) []):=by
 refine v8 hT x2r rfl rfl x2s rfl ?_
 refine q8 (q7 hT ?_)
 refine q8 (q8 (q7 hT ?_))
 refine z2 (y4 (fun h=>?_) (fun h=>?_))
 ·have hne:(s==t)=false:=by
   have h:(((bx s).length:Int) != ((bx t).length:Int))=true:=h
   rw[w9,w9]at h
   rw[beq_eq_false_iff_ne]
   rintro rfl
   simp at h
  refine q8 (q7 hT ?_)
  refine y5 ?_
  rw[hne]
  exact z9 [] ⟨rfl,rfl⟩ rfl
 have hlen:s.length=t.length:=by
  have h:(((bx s).length:Int) != ((bx t).length:Int))=false:=h
  rw[w9,w9]at h
  have h:(s.length:Int)=t.length:=by simpa using h
  omega
 refine z5 ?_
 refine q8 (q8 (q7 hT ?_))
 refine z3 ?_
 refine y8 (fun n st=>∃ (i:Nat) (j:Int),n+i=s.length∧j=i∧s.take i=t.take i∧st=⟨⟨26,[(0,bA s),(1,bA t),(5,i64 j)]⟩,[]⟩) s.length ⟨⟨26,_⟩,[]⟩ (q9 [] [0,1,5] rfl) ⟨0,_,rfl,rfl,rfl,rfl⟩ ?_
 rintro n st ⟨i,j,hni,rfl,ht,rfl⟩
 refine q8 (q8 (q7 hT ?_))
 refine z2 (y4 (fun h=>?_) (fun h=>?_))
 ·have hi:i<s.length:=by
   have:=of_decide_eq_true (show decide ((i:Int)<((bx s).length:Int))=true from h)
   rw[w9]at this;omega
  have hx:(bx s)[((i:Nat):Int).toNat]?=some [u8 s[i]]:=by
   rw[Int.toNat_natCast,bx,List.getElem?_map,List.getElem?_eq_getElem hi];rfl
  have hy:(bx t)[((i:Nat):Int).toNat]?=some [u8 (t[i]'(by omega))]:=by
   rw[Int.toNat_natCast,bx,List.getElem?_map,List.getElem?_eq_getElem (by omega)];rfl
  refine z5 ?_
  refine q8 (z3 (q8 ?_))
  refine x6 [] [] hT z6 (by rfl) ?_
  refine⟨Int.natCast_nonneg _,v7 hx ?_⟩
  refine⟨Int.natCast_nonneg _,v7 hy ?_⟩
  refine z2 (y4 (fun h2=>?_) (fun h2=>?_))
  ·have hne:(s==t)=false:=by
    rw[beq_eq_false_iff_ne]
    rintro rfl
    have h2:(((s[i].toNat:Nat):Int) != ((s[i].toNat:Nat):Int))=true:=h2
    simp at h2
   refine q8 (q7 hT ?_)
   refine y5 ?_
   rw[hne]
   exact z9 [] ⟨rfl,rfl⟩ rfl
  ·have he:s[i]=t[i]'(by omega):=by
    have h2:(((s[i].toNat:Nat):Int) != (((t[i]'(by omega)).toNat:Nat):Int))=false:=h2
    have h2:(s[i].toNat:Int)=((t[i]'(by omega)).toNat:Int):=by simpa using h2
    have h2:s[i].toNat=(t[i]'(by omega)).toNat:=by omega
    exact UInt8.toNat_inj.mp h2
   refine z5 ?_
   refine q7 hT ?_
   refine⟨n - 1,by omega,_,q9 [] [0,1,5] rfl,i+1,IntKind.i64.wrap ((i:Int)+1),by omega,?_,?_,rfl⟩
   ·rw[y7 _ (by omega) (by omega)];rfl
   ·rw[List.take_add_one,List.take_add_one,ht,List.getElem?_eq_getElem hi,List.getElem?_eq_getElem (show i<t.length by omega),he]
 ·refine x9 ?_
  have hi:i=s.length:=by
   have:=of_decide_eq_false (show decide ((i:Int)<((bx s).length:Int))=false from h)
   rw[w9]at this;omega
  have he:(s==t)=true:=by
   rw[beq_iff_eq]
   rw[hi,List.take_length,hlen,List.take_length]at ht
   exact ht
  refine q8 (q7 hT ?_)
  refine y5 ?_
  rw[he]
  exact z9 [] ⟨rfl,rfl⟩ rfl
end Go.Proofs.YtinfbclgkghgaaaGreat.AL
namespace Go.Proofs.YtinfbclgkghgaaaGreat.AL
open Go Go.Proofs
theorem Dev.Ok.mono {D:Dev}{b b':Nat}(h:D.Ok b)(hb:b≤b'):D.Ok b':=
 ⟨h.at_,h.ws,h.cs,h.mt,fun c hc=>Nat.le_trans (h.ml c hc) hb,Nat.le_trans h.wl hb⟩
theorem v4h (n b:Nat):(Dev.new n).Ok b:=by
 refine⟨fun x hx=>by simp[Dev.new]at hx,fun x hx=>by simp[Dev.new]at hx,fun c hc=>?_,fun c hc t ht=>?_,fun c hc=>?_,Nat.zero_le _⟩
 ·rw[List.eq_of_mem_replicate hc];exact List.length_replicate
 ·rw[List.eq_of_mem_replicate hc]at ht;simp at ht
 ·rw[List.eq_of_mem_replicate hc];exact Nat.zero_le _
theorem Dev.Ok.lives {D:Dev}{b:Nat}(h:D.Ok b):D.lives.Ok b:=⟨h.at_,h.ws,h.cs,h.mt,h.ml,h.wl⟩
theorem Dev.Ok.count {D:Dev}{b:Nat}(h:D.Ok b):D.count.Ok b:=⟨h.at_,h.ws,h.cs,h.mt,h.ml,h.wl⟩
theorem Dev.Ok.read {D:Dev}{b:Nat}(h:D.Ok b)(a:Int):(D.read a).2.Ok b:=by
 unfold Dev.read
 split
 ·exact h
 ·split
  ·exact h
  ·exact h.count
theorem z4i {W:List Wr}{keep:List Bool}{C:List Cell}{i:Nat}{c:Cell}(h:c∈q2i W keep i C)(hi:i≤W.length):∃ c0∈C,c.miss=c0.miss∧(c.s=c0.s∨∃ x∈W,c.s=x.s):=by
 induction i generalizing c with
 |zero=>exact⟨c,h,rfl,.inl rfl⟩
 |succ i ih=>
  unfold q2i at h
  split at h
  ·have hx:W.getD i ⟨0,[]⟩∈W:=by
    rw[List.getD_eq_getElem?_getD,List.getElem?_eq_getElem (by omega)]
    exact List.getElem_mem _
   rcases y9q h with h|⟨c0,h0,e⟩
   ·exact ih h (by omega)
   ·obtain⟨c1,g1,g2,_⟩:=ih h0 (by omega)
    refine⟨c1,g1,by rw[e];exact g2,.inr ⟨_,hx,by rw[e]⟩⟩
  ·exact ih h (by omega)
theorem Dev.Ok.drain {D:Dev}{b:Nat}(h:D.Ok b)(keep:List Bool):(D.drain keep).Ok b:=by
 have hl:(D.drain keep).cells.length=D.cells.length:=q4r _ _ _ _
 refine⟨fun x hx=>by simp[Dev.drain]at hx,fun x hx=>by simp[Dev.drain]at hx,fun c hc=>?_,fun c hc t ht=>?_,fun c hc=>?_,Nat.zero_le _⟩
 ·obtain⟨c0,h0,_,h2⟩:=z4i hc (Nat.le_refl _)
  rcases h2 with h2|⟨x,hx,h2⟩
  ·rw[h2];exact h.cs c0 h0
  ·rw[h2];exact h.ws x hx
 ·obtain⟨c0,h0,h1,_⟩:=z4i hc (Nat.le_refl _)
  rw[h1]at ht;rw[hl];exact h.mt c0 h0 t ht
 ·obtain⟨c0,h0,h1,_⟩:=z4i hc (Nat.le_refl _)
  rw[h1];exact h.ml c0 h0
theorem Dev.Ok.crashed {D:Dev}{b:Nat}(h:D.Ok b)(keep:List Bool):(D.crashed keep).Ok b:=by
 have h:=h.drain keep
 exact⟨h.at_,h.ws,h.cs,h.mt,h.ml,h.wl⟩
theorem Dev.Ok.flush {D:Dev}{b:Nat}(h:D.Ok b):D.flush.2.Ok b:=by
 unfold Dev.flush
 split
 ·exact h
 ·split
  ·exact h.lives
  ·exact h.lives.drain _
theorem Dev.Ok.set {D:Dev}{b:Nat}(h:D.Ok b)(i:Nat){c:Cell}(h1:c.s.length=256)(h2:∀ t∈c.miss,0≤t∧t<(D.cells.length:Int))(h3:c.miss.length≤b):({ D with cells:=D.cells.set i c }:Dev).Ok b:=by
 have hm:∀ x∈D.cells.set i c,x∈D.cells∨x=c:=fun x hx=>List.mem_or_eq_of_mem_set hx
 refine⟨fun x hx=>by show _∧_<((D.cells.set i c).length:Int);rw[List.length_set];exact h.at_ x hx,h.ws,fun x hx=>?_,fun x hx t ht=>?_,fun x hx=>?_,h.wl⟩
 ·rcases hm x hx with hx|rfl
  ·exact h.cs x hx
  ·exact h1
 ·show _∧_<((D.cells.set i c).length:Int)
  rw[List.length_set]
  rcases hm x hx with hx|rfl
  ·exact h.mt x hx t ht
  ·exact h2 t ht
 ·rcases hm x hx with hx|rfl
  ·exact h.ml x hx
  ·exact h3
theorem Dev.Ok.wait {D:Dev}{b:Nat}(h:D.Ok b){x:Wr}(h1:0≤x.at_∧x.at_<(D.cells.length:Int))(h2:x.s.length=256):({ D with waits:=D.waits++[x] }:Dev).Ok (b+1):=by
 have hm:∀ y∈D.waits++[x],y∈D.waits∨y=x:=fun y hy=>by simpa using hy
 refine⟨fun y hy=>?_,fun y hy=>?_,h.cs,h.mt,fun c hc=>Nat.le_succ_of_le (h.ml c hc),?_⟩
 ·rcases hm y hy with hy|rfl
  ·exact h.at_ y hy
  ·exact h1
 ·rcases hm y hy with hy|rfl
  ·exact h.ws y hy
  ·exact h2
 ·show (D.waits++[x]).length≤b+1
  have:=h.wl
  simp;omega
theorem Dev.Ok.put {D:Dev}{b:Nat}(h:D.Ok b){a:Int}(ha:D.has a=true){s:z7}(hs:s.length=256):(D.put a s).Ok (b+1):=by
 have hlt:=q7p ha
 obtain⟨c,hc,_⟩:=q6v D ha
 have hcm:=List.mem_of_getElem? hc
 obtain⟨c1,c2,c3,c4⟩:=c
 cases h3:decide (c3 > 0) with
 |true=>
  rw[x8z hc h3]
  exact(h.set a.toNat (c:=⟨c1,c2,IntKind.i64.wrap (c3 - 1),c4⟩) (h.cs ⟨c1,c2,c3,c4⟩ hcm) (h.mt ⟨c1,c2,c3,c4⟩ hcm) (h.ml ⟨c1,c2,c3,c4⟩ hcm)).mono (Nat.le_succ _)
 |false=>
  cases c4 with
  |nil=>
   rw[y9j hc h3]
   exact h.wait hlt.2 hs
  |cons t r=>
   rw[x9a hc h3]
   have ht:=h.mt _ hcm t (by simp)
   have h1:=h.set a.toNat (c:=⟨c1,c2,c3,r⟩) (h.cs ⟨c1,c2,c3,t :: r⟩ hcm) (fun t' ht'=>h.mt _ hcm t' (by simp[ht'])) (Nat.le_trans (Nat.le_succ _) (h.ml _ hcm))
   exact h1.wait (x:=⟨t,s⟩) (by show _∧_<((D.cells.set _ _).length:Int);rw[List.length_set];exact ht) hs
theorem Dev.Ok.write {D:Dev}{b:Nat}(h:D.Ok b)(a:Int)(s:z7):(D.write a s).2.Ok (b+1):=by
 unfold Dev.write
 split
 ·exact h.mono (Nat.le_succ _)
 split
 ·exact h.mono (Nat.le_succ _)
 rename_i ha
 split
 ·exact h.mono (Nat.le_succ _)
 rename_i hs
 split
 ·exact h.lives.mono (Nat.le_succ _)
 ·have hs:(s.length:Int)=256:=by simpa using hs
  exact h.lives.count.put (a:=a) ha (by omega)
theorem Dev.Ok.upd {D:Dev}{b:Nat}(h:D.Ok b){a:Int}(ha:D.has a=true)(g:Cell→Cell)(h1:∀ c∈D.cells,(g c).s.length=256)(h2:∀ c∈D.cells,∀ t∈(g c).miss,0≤t∧t<(D.cells.length:Int))(h3:∀ c∈D.cells,(g c).miss.length≤b):(D.upd a g).Ok b:=by
 obtain⟨c,hc,_⟩:=q6v D ha
 have hcm:=List.mem_of_getElem? hc
 unfold Dev.upd
 rw[y0c g hc]
 exact h.set a.toNat (h1 c hcm) (h2 c hcm) (h3 c hcm)
theorem Dev.Ok.fault {D:Dev}{b:Nat}(h:D.Ok b)(f:Flt):(D.fault f).2.Ok (b+1):=by
 unfold Dev.fault
 split
 ·exact h.mono (Nat.le_succ _)
 rename_i hm
 have hm:=v4g (show D.may f=0 by simpa using hm)
 have hs:=h.settle f.at_
 have ha:(D.settle f.at_).has f.at_=true:=(q2z D f.at_ f.at_).trans hm.1
 unfold Dev.hurt
 split
 ·exact(hs.upd ha (fun c=>{ c with s:=q5u f c.s 4 }) (fun c hc=>(q8e f c.s 4).trans (hs.cs c hc)) (fun c hc=>hs.mt c hc) (fun c hc=>hs.ml c hc)).mono (Nat.le_succ _)
 split
 ·exact(hs.upd ha (fun c=>{ c with s:=z3n,lost:=false }) (fun c hc=>List.length_replicate) (fun c hc=>hs.mt c hc) (fun c hc=>hs.ml c hc)).mono (Nat.le_succ _)
 split
 ·exact(hs.upd ha (fun c=>{ c with lost:=true }) (fun c hc=>hs.cs c hc) (fun c hc=>hs.mt c hc) (fun c hc=>hs.ml c hc)).mono (Nat.le_succ _)
 split
 ·exact(h.upd hm.1 (fun c=>{ c with drop:=IntKind.i64.wrap (c.drop+f.n) }) (fun c hc=>h.cs c hc) (fun c hc=>h.mt c hc) (fun c hc=>h.ml c hc)).mono (Nat.le_succ _)
 ·have h5:f.kind=5:=by omega
  have hto:=q7p (hm.2.2.2.2 h5)
  refine(h.mono (Nat.le_succ _)).upd hm.1 (fun c=>{ c with miss:=c.miss++[f.to] }) (fun c hc=>h.cs c hc) (fun c hc t ht=>?_) (fun c hc=>?_)
  ·rcases List.mem_append.1 ht with ht|ht
   ·exact h.mt c hc t ht
   ·have:t=f.to:=by simpa using ht
    rw[this];exact hto.2
  ·have:=h.ml c hc
   simp;omega
end Go.Proofs.YtinfbclgkghgaaaGreat.AL
namespace Go.Proofs.YtinfbclgkghgaaaGreat.AL
open Go Go.Proofs
def Dev.holds (D:Dev)(a:Int)(b:UInt8):Bool:=match (D.read a).1.2==0 with|true=>(D.read a).1.1==Q1t b|false=>false
theorem Dev.Ok.big {D:Dev}{b:Nat}(h:D.Ok b)(hb:b≤1000000):D.waitsIn∧D.waits.length≤1000000∧(∀ x∈D.waits,x.s.length≤1000000)∧(∀ c∈D.cells,c.s.length≤1000000):=
 ⟨h.at_,Nat.le_trans h.wl hb,fun x hx=>by rw[h.ws x hx];omega,fun c hc=>by rw[h.cs c hc];omega⟩
end Go.Proofs.YtinfbclgkghgaaaGreat.AL
namespace Go.Proofs.YtinfbclgkghgaaaGreat.AL
namespace Crc
abbrev W:=BitVec 32
def poly:W:=0x82F63B78#32
def st (n:W):W:=(n >>> 1) ^^^ (match n.getLsbD 0 with|true=>poly|false=>0#32)
def stN:Nat→W→W
 |0,n=>n
 |k+1,n=>stN k (st n)
theorem u0v (a b:W):st (a ^^^ b)=st a ^^^ st b:=by
 unfold st
 rw[BitVec.ushiftRight_xor_distrib,BitVec.getLsbD_xor]
 cases a.getLsbD 0 <;> cases b.getLsbD 0
 ·simp
 ·simp[BitVec.xor_assoc]
 ·simp only[Bool.xor_false,BitVec.xor_zero]
  rw[BitVec.xor_assoc,BitVec.xor_assoc,BitVec.xor_comm (b >>> 1)]
 ·show (a >>> 1 ^^^ b >>> 1) ^^^ 0#32=(a >>> 1 ^^^ poly) ^^^ (b >>> 1 ^^^ poly)
  rw[BitVec.xor_zero,BitVec.xor_assoc (a >>> 1),← BitVec.xor_assoc poly,BitVec.xor_comm poly (b >>> 1),BitVec.xor_assoc (b >>> 1),BitVec.xor_self,BitVec.xor_zero]
theorem z6j:∀ (k:Nat) (a b:W),stN k (a ^^^ b)=stN k a ^^^ stN k b
 |0,_,_=>rfl
 |k+1,a,b=>by rw[stN,stN,stN,u0v,z6j k]
theorem z2r:∀ (j k:Nat) (n:W),stN (j+k) n=stN k (stN j n)
 |0,k,n=>by rw[Nat.zero_add];rfl
 |j+1,k,n=>by rw[Nat.add_right_comm];exact z2r j k (st n)
theorem v7q {n:W}(h:n.getLsbD 0=false):st n=n >>> 1:=by unfold st;rw[h];simp
theorem x3w:∀ (k:Nat) {n:W},(∀ i,i<k→n.getLsbD i=false)→stN k n=n >>> k
 |0,n,_=>by simp[stN]
 |k+1,n,h=>by
  rw[stN,v7q (h 0 (by omega)),x3w k (fun i hi=>by rw[BitVec.getLsbD_ushiftRight];exact h (1+i) (by omega)),← BitVec.shiftRight_add,Nat.add_comm k 1]
theorem y5b (i:Nat):(255#32).getLsbD i=decide (i<8):=by
 by_cases h:i<32
 ·have:∀ j:Fin 32,(255#32).getLsbD j.val=decide (j.val<8):=by decide
  exact this ⟨i,h⟩
 ·rw[BitVec.getLsbD_of_ge _ _ (by omega),decide_eq_false (by omega)]
theorem v7r (n:W):stN 8 (n ^^^ (n &&& 255#32))=n >>> 8:=by
 rw[x3w 8 (fun i hi=>by rw[BitVec.getLsbD_xor,BitVec.getLsbD_and,y5b,decide_eq_true hi,Bool.and_true,Bool.xor_self])]
 apply BitVec.eq_of_getLsbD_eq
 intro i hi
 rw[BitVec.getLsbD_ushiftRight,BitVec.getLsbD_ushiftRight,BitVec.getLsbD_xor,BitVec.getLsbD_and,y5b,decide_eq_false (by omega),Bool.and_false,Bool.xor_false]
def wd (c:UInt8):W:=BitVec.ofNat 32 c.toNat
def z3e (n:W)(c:UInt8):W:=stN 8 (n ^^^ wd c)
def run (n:W)(l:List UInt8):W:=l.foldl z3e n
def all1:W:=0xFFFFFFFF#32
def sum (l:List UInt8):W:=run all1 l ^^^ all1
theorem q9i (n:W)(l r:List UInt8):run n (l++r)=run (run n l) r:=List.foldl_append
theorem x9d (n:W)(l:List UInt8)(c:UInt8):run n (l++[c])=z3e (run n l) c:=by rw[q9i];rfl
theorem v4i (a b:W)(c:UInt8):z3e (a ^^^ b) c=z3e a c ^^^ stN 8 b:=by
 unfold z3e
 rw[BitVec.xor_assoc,BitVec.xor_comm b,← BitVec.xor_assoc,z6j]
theorem w6a:∀ (l:List UInt8) (a b:W),run (a ^^^ b) l=run a l ^^^ stN (8*l.length) b
 |[],a,b=>rfl
 |c :: r,a,b=>by
  show run (z3e (a ^^^ b) c) r=run (z3e a c) r ^^^ _
  rw[v4i,w6a r,← z2r,List.length_cons]
  congr 2
  omega
theorem v7s {n:W}(h:st n=0#32):n=0#32:=by
 unfold st at h
 have h31:=congrArg (fun x=>BitVec.getLsbD x 31) h
 simp only[BitVec.getLsbD_xor,BitVec.getLsbD_ushiftRight]at h31
 rw[BitVec.getLsbD_of_ge n (1+31) (by omega)]at h31
 cases hb:n.getLsbD 0 with
 |true=>
  rw[hb]at h31
  exact absurd h31 (by decide)
 |false=>
  rw[hb]at h
  have h:n >>> 1 ^^^ 0#32=0#32:=h
  rw[BitVec.xor_zero]at h
  apply BitVec.eq_of_getLsbD_eq
  intro i hi
  rw[BitVec.getLsbD_zero]
  cases i with
  |zero=>exact hb
  |succ i=>
   have:=congrArg (fun x=>BitVec.getLsbD x i) h
   simp only[BitVec.getLsbD_ushiftRight,BitVec.getLsbD_zero]at this
   rw[Nat.add_comm];exact this
theorem y5c:∀ (k:Nat) {n:W},stN k n=0#32→n=0#32
 |0,_,h=>h
 |k+1,_,h=>v7s (y5c k h)
theorem w6b:∀ k,stN k 0#32=0#32
 |0=>rfl
 |k+1=>by rw[stN,show st 0#32=0#32 by decide];exact w6b k
def y9r (a b c d:UInt8):W:=wd a ^^^ (wd b <<< 8) ^^^ (wd c <<< 16) ^^^ (wd d <<< 24)
theorem q7r (c:UInt8){i:Nat}(h:8≤i):(wd c).getLsbD i=false:=by
 unfold wd
 rw[BitVec.getLsbD_ofNat]
 have:c.toNat<2 ^ i:=Nat.lt_of_lt_of_le c.toNat_lt (Nat.pow_le_pow_right (by omega) h)
 rw[Nat.testBit_lt_two_pow this,Bool.and_false]
theorem v7t (k:Nat){n:W}(hk:k≤32)(h:∀ i,32 - k≤i→n.getLsbD i=false):stN k (n <<< k)=n:=by
 rw[x3w k (fun i hi=>by rw[BitVec.getLsbD_shiftLeft,decide_eq_true hi];simp)]
 apply BitVec.eq_of_getLsbD_eq
 intro i hi
 rw[BitVec.getLsbD_ushiftRight,BitVec.getLsbD_shiftLeft,decide_eq_false (show ¬ k+i<k by omega)]
 by_cases hl:k+i<32
 ·rw[decide_eq_true hl,Nat.add_sub_cancel_left];rfl
 ·rw[decide_eq_false hl,h i (by omega)];rfl
theorem z9b (x:W)(k:Nat)(hk:k≤24)(c:UInt8):stN k x ^^^ wd c=stN k (x ^^^ (wd c <<< k)):=by
 rw[z6j,v7t k (by omega) (fun i hi=>q7r c (by omega))]
theorem u7m (x:W)(a b c d:UInt8):run x [a,b,c,d]=stN 32 (x ^^^ y9r a b c d):=by
 show stN 8 (stN 8 (stN 8 (stN 8 (x ^^^ wd a) ^^^ wd b) ^^^ wd c) ^^^ wd d)=_
 rw[z9b (x ^^^ wd a) 8 (by omega) b,← z2r 8 8,z9b _ 16 (by omega) c,← z2r 16 8,z9b _ 24 (by omega) d,← z2r 24 8]
 unfold y9r
 congr 1
 rw[BitVec.xor_assoc,BitVec.xor_assoc,BitVec.xor_assoc,BitVec.xor_assoc,BitVec.xor_assoc]
theorem y1w {c:UInt8}(h:∀ i,i<8→(wd c).getLsbD i=false):c=0:=by
 have h0:wd c=0#32:=by
  apply BitVec.eq_of_getLsbD_eq
  intro i hi
  rw[BitVec.getLsbD_zero]
  by_cases h8:i<8
  ·exact h i h8
  ·exact q7r c (by omega)
 have h1:=congrArg BitVec.toNat h0
 unfold wd at h1
 rw[BitVec.toNat_ofNat,Nat.mod_eq_of_lt (Nat.lt_trans c.toNat_lt (by decide))]at h1
 exact UInt8.toNat_inj.1 h1
def v7u (a b c d:UInt8):Nat→UInt8|0=>a|1=>b|2=>c|_=>d
theorem y9s (a b c d:UInt8){j i:Nat}(hj:j<4)(hi:i<8):(y9r a b c d).getLsbD (8*j+i)=(wd (v7u a b c d j)).getLsbD i:=by
 unfold y9r v7u
 have hlt:8*j+i<32:=by omega
 simp only[BitVec.getLsbD_xor,BitVec.getLsbD_shiftLeft,decide_eq_true hlt,Bool.true_and]
 match j,hj with
 |0,_=>rw[decide_eq_true (show 8*0+i<8 by omega),decide_eq_true (show 8*0+i<16 by omega),decide_eq_true (show 8*0+i<24 by omega)];simp
 |1,_=>rw[decide_eq_false (show ¬ 8*1+i<8 by omega),decide_eq_true (show 8*1+i<16 by omega),decide_eq_true (show 8*1+i<24 by omega),q7r a (show 8≤8*1+i by omega),show 8*1+i - 8=i by omega];simp
 |2,_=>rw[decide_eq_false (show ¬ 8*2+i<8 by omega),decide_eq_false (show ¬ 8*2+i<16 by omega),decide_eq_true (show 8*2+i<24 by omega),q7r a (show 8≤8*2+i by omega),q7r b (show 8≤8*2+i - 8 by omega),show 8*2+i - 16=i by omega];simp
 |3,_=>rw[decide_eq_false (show ¬ 8*3+i<8 by omega),decide_eq_false (show ¬ 8*3+i<16 by omega),decide_eq_false (show ¬ 8*3+i<24 by omega),q7r a (show 8≤8*3+i by omega),q7r b (show 8≤8*3+i - 8 by omega),q7r c (show 8≤8*3+i - 16 by omega),show 8*3+i - 24=i by omega];simp
theorem w3t {a b c d:UInt8}(h:y9r a b c d=0#32):a=0∧b=0∧c=0∧d=0:=by
 have hb:∀ j i,j<4→i<8→(wd (v7u a b c d j)).getLsbD i=false:=fun j i hj hi=>by
  rw[← y9s a b c d hj hi,h,BitVec.getLsbD_zero]
 exact⟨y1w fun i hi=>hb 0 i (by omega) hi,y1w fun i hi=>hb 1 i (by omega) hi,y1w fun i hi=>hb 2 i (by omega) hi,y1w fun i hi=>hb 3 i (by omega) hi⟩
def y8b (l r:List UInt8):List UInt8:=List.zipWith (· ^^^ ·) l r
theorem v4j (a b:UInt8):wd (a ^^^ b)=wd a ^^^ wd b:=by
 unfold wd
 rw[UInt8.toNat_xor]
 apply BitVec.eq_of_getLsbD_eq
 intro i hi
 simp[hi]
theorem x9e:∀ (l r:List UInt8) (a b:W),l.length=r.length→run a l ^^^ run b r=run (a ^^^ b) (y8b l r)
 |[],[],a,b,_=>rfl
 |x :: l,y :: r,a,b,h=>by
  show run (z3e a x) l ^^^ run (z3e b y) r=run (z3e (a ^^^ b) (x ^^^ y)) (y8b l r)
  rw[x9e l r _ _ (by simpa using h)]
  congr 1
  unfold z3e
  rw[← z6j,v4j]
  congr 1
  rw[BitVec.xor_assoc,BitVec.xor_assoc,← BitVec.xor_assoc (wd x),BitVec.xor_comm (wd x),BitVec.xor_assoc]
 |[],_ :: _,_,_,h=>by simp at h
 |_ :: _,[],_,_,h=>by simp at h
theorem y9t (n:W)(k:Nat):run n (List.replicate k 0)=stN (8*k) n:=by
 have:=w6a (List.replicate k 0) 0#32 n
 rw[BitVec.zero_xor,List.length_replicate]at this
 rw[this]
 have h0:run 0#32 (List.replicate k 0)=0#32:=by
  clear this
  induction k with
  |zero=>rfl
  |succ k ih=>rw[List.replicate_succ];show run (z3e 0#32 0) _=_;rw[show z3e 0#32 0=0#32 by decide];exact ih
 rw[h0,BitVec.zero_xor]
theorem w8r {x y:Nat}{a b c d:UInt8}(h:run 0#32 (List.replicate x 0++[a,b,c,d]++List.replicate y 0)=0#32):a=0∧b=0∧c=0∧d=0:=by
 rw[q9i,q9i,y9t,y9t,w6b,u7m,BitVec.zero_xor]at h
 exact w3t (y5c 32 (y5c _ h))
end Crc
end Go.Proofs.YtinfbclgkghgaaaGreat.AL
namespace Go.Proofs.YtinfbclgkghgaaaGreat.AL
open Go Go.Proofs Go.Proofs.YtinfbclgkghgaaaGreat.AL.Crc
abbrev u32 (x:W):PV:=.raw (.int .u32 (x.toNat:Int))
theorem y1x (x:W):BitVec.ofInt 32 (x.toNat:Int)=x:=by
 apply BitVec.eq_of_toNat_eq
 rw[BitVec.toNat_ofInt]
 have:=x.isLt
 omega
theorem w3u (x:W):IntKind.u32.wrap (x.toNat:Int)=(x.toNat:Int):=by
 have:=x.isLt
 have e:∀ n:Int,IntKind.u32.wrap n=n % 4294967296:=fun n=>by simp[IntKind.wrap,IntKind.bits,IntKind.signed]
 rw[e];omega
theorem u7n (n:Nat):IntKind.u32.wrap (n:Int)=((BitVec.ofNat 32 n).toNat:Int):=by
 have e:∀ n:Int,IntKind.u32.wrap n=n % 4294967296:=fun n=>by simp[IntKind.wrap,IntKind.bits,IntKind.signed]
 rw[e,BitVec.toNat_ofNat];omega
theorem v9d (x y:W):IntKind.u32.wrap ((BitVec.ofInt 32 (x.toNat:Int) ^^^ BitVec.ofInt 32 (y.toNat:Int)).toNat:Int)=((x ^^^ y).toNat:Int):=by rw[y1x,y1x,w3u]
theorem v4k (x:W)(k:Nat)(hk:k≤32):((x.toNat:Int).fdiv (2 ^ (min ((k:Nat):Int).toNat 32)))=((x >>> k).toNat:Int):=by
 rw[Int.toNat_natCast,Nat.min_eq_left hk,BitVec.toNat_ushiftRight,Nat.shiftRight_eq_div_pow]
 rw[Int.fdiv_eq_ediv_of_nonneg _ (Int.pow_nonneg (by omega))]
 rw[Int.natCast_ediv,Int.natCast_pow];rfl
theorem v9e (x:W):(IntKind.u32.wrap ((BitVec.ofInt 32 (x.toNat:Int) &&& BitVec.ofInt 32 1).toNat:Int)==1)=x.getLsbD 0:=by
 rw[y1x,show BitVec.ofInt 32 1=1#32 by decide,w3u]
 have e:(x &&& 1#32).toNat=x.toNat % 2:=by
  rw[BitVec.toNat_and];exact Nat.and_one_is_mod x.toNat
 rw[e,← BitVec.testBit_toNat,Nat.testBit_zero]
 rcases Nat.mod_two_eq_zero_or_one x.toNat with h|h <;> rw[h] <;> decide
theorem w6c (x:W):st x=match x.getLsbD 0 with|true=>(x >>> 1) ^^^ poly|false=>x >>> 1:=by
 unfold st
 cases x.getLsbD 0 with
 |true=>rfl
 |false=>exact BitVec.xor_zero
theorem x9f (k:Nat)(n:W):stN (k+1) n=st (stN k n):=z2r k 1 n
def y1n (j:Nat):W:=stN 8 (BitVec.ofNat 32 j)
def w3v (N i:Nat):List PV:=(List.range i).map (fun j=>u32 (y1n j))++List.replicate (N - i) (u32 0)
def q8f (N i:Nat):List (List PV):=(w3v N i).map fun p=>[p]
theorem v4m {N i:Nat}(h:i<N):(w3v N i).set i (u32 (y1n i))=w3v N (i+1):=by
 unfold w3v
 rw[List.set_append_right _ _ (by simp),List.length_map,List.length_range,Nat.sub_self,show N - i=(N - (i+1))+1 by omega,List.replicate_succ,List.set_cons_zero,List.range_succ,List.map_append]
 simp
theorem v4n {N i:Nat}(h:i<N):(q8f N i).set i [u32 (y1n i)]=q8f N (i+1):=by
 unfold q8f;rw[← v4m h,List.map_set]
theorem v4p {N j:Nat}(h:j<N):(q8f N N)[j]?=some [u32 (y1n j)]:=by
 unfold q8f w3v
 rw[Nat.sub_self,List.replicate_zero,List.append_nil,List.getElem?_map,List.getElem?_map,List.getElem?_range h];rfl
theorem w8s {N i:Nat}(h:i<N):∃ x,(q8f N i)[i]?=some [x]:=by
 unfold q8f
 rw[List.getElem?_map,List.getElem?_eq_getElem (by simp[w3v];omega)]
 exact⟨_,rfl⟩
set_option maxRecDepth 20000 in
theorem v4q:AF Tryz.prog w3i [] [] (v9 (.elr 0 1 0 0) [.row q1c 1 (q8f 256 256)]):=by
 refine v8 hT w3j rfl rfl w3k rfl ?_
 refine q8 (q7 hT ?_)
 refine q8 (q7 hT ?_)
 refine Q1 (Wk.trans (u0r 1 0 1 rfl) (u0q 0 (List.replicate 256 (u32 0)) rfl rfl rfl)) ?_
 obtain⟨N,hN⟩:∃ N:Nat,N=256:=⟨_,rfl⟩
 rw[← hN]
 refine q8 (q8 (q7 hT ?_))
 refine z3 ?_
 refine y8 (fun n s=>∃ (i:Nat) (j:Int),n+i=N∧j=i∧s=⟨⟨25,[(1,.elr 0 1 0 0),(5,i64 j)]⟩,[.row q1c 1 (q8f N i)]⟩) N ⟨⟨25,_⟩,[_]⟩ (q9 [0] [1,5] rfl) ⟨0,0,rfl,rfl,by unfold q8f w3v;rfl⟩ ?_
 rintro n s ⟨i,j,hni,rfl,rfl⟩
 refine q8 (q7 hT ?_)
 refine q8 (z2 (y4 (fun h=>?_) (fun h=>?_)))
 ·have hi:i<N:=by
   have:=of_decide_eq_true (show decide ((i:Int)<256)=true from h)
   omega
  refine z5 ?_
  refine z8 ⟨⟨25,[(1,.elr 0 1 0 0),(5,i64 i)]⟩,[.row q1c 1 (q8f N (i+1))]⟩ True (z3 ?_) (fun _=>?_)
  ·refine q8 (q7 hT ?_)
   refine q8 (q7 hT ?_)
   refine z8 ⟨⟨25,[(1,.elr 0 1 0 0),(2,i64 i),(3,.p (u32 (y1n i))),(5,i64 i)]⟩,[.row q1c 1 (q8f N i)]⟩ True (q8 (q7 hT ?_)) (fun _=>?_)
   ·refine z3 ?_
    refine y8 (fun n s=>∃ (k:Nat) (j v:Int),n+k=8∧j=k∧v=((stN k (BitVec.ofNat 32 i)).toNat:Int)∧s=⟨⟨25,[(1,.elr 0 1 0 0),(2,i64 i),(3,.p (.raw (.int .u32 v))),(5,i64 i),(10,i64 j)]⟩,[.row q1c 1 (q8f N i)]⟩) 8 ⟨⟨25,_⟩,[_]⟩ (q9 [0] [1,2,3,5,10] rfl) ⟨0,0,_,rfl,rfl,u7n i,rfl⟩ ?_
    rintro m s ⟨k,j,v,hmk,rfl,hv,rfl⟩
    refine q8 (q7 hT ?_)
    refine q8 (z2 (y4 (fun h=>?_) (fun h=>?_)))
    ·have hk:k<8:=by
      have:=of_decide_eq_true (show decide ((k:Int)<8)=true from h)
      omega
     refine z5 ?_
     refine z8 ⟨⟨25,[(1,.elr 0 1 0 0),(2,i64 i),(3,.p (u32 (stN (k+1) (BitVec.ofNat 32 i)))),(5,i64 i),(10,i64 k)]⟩,[.row q1c 1 (q8f N i)]⟩ True (z3 ?_) (fun _=>?_)
     ·rw[x9f,w6c]
      subst hv
      generalize stN k (BitVec.ofNat 32 i)=x
      refine q8 (q7 hT ?_)
      refine q8 (q7 hT ?_)
      refine q8 (q7 hT ?_)
      refine z2 (y4 (fun h=>?_) (fun h=>?_))
      ·have h:(IntKind.u32.wrap ((BitVec.ofInt 32 (x.toNat:Int) &&& BitVec.ofInt 32 1).toNat:Int)==1)=true:=h
       rw[v9e]at h
       refine q7 hT ?_
       rw[h]
       have e:(((x >>> 1) ^^^ poly).toNat:Int)=IntKind.u32.wrap ((BitVec.ofInt 32 ((x.toNat:Int).fdiv (2 ^ (min ((1:Nat):Int).toNat 32))) ^^^ BitVec.ofInt 32 2197175160).toNat:Int):=by
        rw[v4k x 1 (by omega),y1x,show BitVec.ofInt 32 2197175160=poly by decide,w3u]
       show Wk _ _ ⟨⟨25,[(1,_),(2,_),(3,.p (.raw (.int .u32 (((x >>> 1) ^^^ poly).toNat:Int)))),(5,_),(10,_)]⟩,_⟩∧True
       rw[e]
       exact⟨q9 [0] [1,2,3,5,10] rfl,trivial⟩
      ·have h:(IntKind.u32.wrap ((BitVec.ofInt 32 (x.toNat:Int) &&& BitVec.ofInt 32 1).toNat:Int)==1)=false:=h
       rw[v9e]at h
       refine z5 ?_
       rw[h]
       show Wk _ _ ⟨⟨25,[(1,_),(2,_),(3,.p (.raw (.int .u32 ((x >>> 1).toNat:Int)))),(5,_),(10,_)]⟩,_⟩∧True
       rw[← v4k x 1 (by omega)]
       exact⟨q9 [0] [1,2,3,5,10] rfl,trivial⟩
     ·refine q7 hT ?_
      refine⟨m - 1,by omega,_,q9 [0] [1,2,3,5,10] rfl,k+1,IntKind.i64.wrap ((k:Int)+1),_,by omega,?_,rfl,rfl⟩
      rw[y7 _ (by omega) (by omega)];rfl
    ·have hk:¬ (k:Int)<8:=of_decide_eq_false h
     have hk8:k=8:=by omega
     subst hk8 hv
     refine x9 ?_
     exact⟨q9 [0] [1,2,3,5] rfl,trivial⟩
   ·obtain⟨x0,hx0⟩:=w8s hi
    refine q7 hT ?_
    refine⟨⟨Int.natCast_nonneg _,by omega⟩,?_⟩
    have hx1:(q8f N i)[0+((i:Nat):Int).toNat]?=some [x0]:=by rw[Nat.zero_add,Int.toNat_natCast];exact hx0
    refine y2h rfl (v7 hx1 ?_)
    rw[show q8f N (i+1)=(q8f N i).set (0+((i:Nat):Int).toNat) [u32 (y1n i)] by rw[Nat.zero_add,Int.toNat_natCast,v4n hi]]
    exact⟨q9 [0] [1,5] rfl,trivial⟩
  ·refine q7 hT ?_
   refine⟨n - 1,by omega,_,q9 [0] [1,5] rfl,i+1,IntKind.i64.wrap ((i:Int)+1),by omega,?_,rfl⟩
   rw[y7 _ (by omega) (by omega)];rfl
 ·have hi:i=N:=by
   have:=of_decide_eq_false (show decide ((i:Int)<256)=false from h)
   omega
  subst hi
  refine x9 ?_
  refine q8 (q7 hT ?_)
  refine y5 ?_
  rw[hN]
  exact z9 [0] ⟨rfl,rfl⟩ rfl
end Go.Proofs.YtinfbclgkghgaaaGreat.AL
namespace Go.Proofs.YtinfbclgkghgaaaGreat.AL
open Go Go.Proofs Go.Proofs.YtinfbclgkghgaaaGreat.AL.Crc
theorem q0p (n:Nat):IntKind.u8.wrap (n:Int)=((UInt8.ofNat n).toNat:Int):=by
 rw[IntKind.wrap_u8,UInt8.toNat_ofNat'];omega
theorem v7v (x:W)(c:UInt8):IntKind.u8.wrap ((BitVec.ofInt 8 (IntKind.u8.wrap (x.toNat:Int)) ^^^ BitVec.ofInt 8 (c.toNat:Int)).toNat:Int)=((UInt8.ofNat x.toNat ^^^ c).toNat:Int):=by
 rw[q0p x.toNat,w3r]
theorem u0w (x:W):wd (UInt8.ofNat x.toNat)=x &&& 255#32:=by
 apply BitVec.eq_of_getLsbD_eq
 intro i hi
 unfold wd
 rw[BitVec.getLsbD_and,y5b,BitVec.getLsbD_ofNat,decide_eq_true hi,Bool.true_and,UInt8.toNat_ofNat',show 2 ^ 8=2 ^ 8 from rfl,Nat.testBit_mod_two_pow,BitVec.testBit_toNat,Bool.and_comm]
theorem v4r (x:W)(c:UInt8):z3e x c=y1n (UInt8.ofNat x.toNat ^^^ c).toNat ^^^ (x >>> 8):=by
 unfold z3e y1n
 rw[show BitVec.ofNat 32 (UInt8.ofNat x.toNat ^^^ c).toNat=wd (UInt8.ofNat x.toNat ^^^ c) from rfl,v4j,u0w,← v7r,← z6j]
 congr 1
 rw[BitVec.xor_assoc,BitVec.xor_comm (wd c),← BitVec.xor_assoc,BitVec.xor_comm x (x &&& 255#32),← BitVec.xor_assoc (x &&& 255#32),BitVec.xor_self,BitVec.zero_xor]
theorem x3x {l:z7}{i:Nat}{c:UInt8}(h:l[i]?=some c):(bx l)[i]?=some [u8 c]:=by rw[bx,List.getElem?_map,h];rfl
set_option maxRecDepth 20000 in
theorem v4s (l:z7)(hl:l.length≤1000000):AF Tryz.prog w3d [i64 0,bA l] [] (v9 (i64 ((sum l).toNat:Int)) []):=by
 obtain⟨N,hN⟩:∃ N:Nat,N=256:=⟨_,rfl⟩
 have hm:=v4q
 rw[← hN]at hm
 refine v8 hT w3e rfl rfl w3f rfl ?_
 refine q8 (q7 hT ?_)
 refine q8 (q7 hT ?_)
 refine y9 hm ?_
 refine q8 (q7 hT ?_)
 refine z8 ⟨⟨34,[(6,.p (u32 (run all1 l)))]⟩,[]⟩ True (q8 (q7 hT ?_)) (fun _=>?_)
 ·refine z3 ?_
  refine y8 (fun n s=>∃ (i:Nat) (j v:Int),n+i=l.length∧j=i∧v=((run all1 (l.take i)).toNat:Int)∧s=⟨⟨34,[(5,.elr 0 1 0 0),(6,.p (.raw (.int .u32 v))),(13,bA l),(14,i64 l.length),(15,i64 j)]⟩,[.row q1c 1 (q8f N N)]⟩) l.length ⟨⟨34,_⟩,[_]⟩ (q9 [0] [5,6,13,14,15] rfl) ⟨0,0,_,rfl,rfl,(by decide:IntKind.u32.wrap ((BitVec.ofInt 32 (IntKind.u32.wrap 0) ^^^ BitVec.ofInt 32 4294967295).toNat:Int)=(all1.toNat:Int)),by rw[← w9 l];rfl⟩ ?_
  rintro n s ⟨i,j,v,hni,rfl,hv,rfl⟩
  refine q8 (q7 hT ?_)
  refine q8 (z2 (y4 (fun h=>?_) (fun h=>?_)))
  ·have hi:i<l.length:=by
    have:=of_decide_eq_true (show decide ((i:Int)<(l.length:Int))=true from h)
    omega
   have hx:=List.getElem?_eq_getElem hi
   have htk:l.take (i+1)=l.take i++[l[i]]:=by rw[List.take_add_one,hx];rfl
   generalize l[i]=c at hx htk
   have hxp:(bx l)[((i:Nat):Int).toNat]?=some [u8 c]:=by rw[Int.toNat_natCast];exact x3x hx
   have hrun:run all1 (l.take (i+1))=z3e (run all1 (l.take i)) c:=by rw[htk,x9d]
   subst hv
   generalize run all1 (l.take i)=x at hrun
   refine z5 ?_
   refine z8 ⟨⟨34,[(5,.elr 0 1 0 0),(6,.p (u32 (run all1 (l.take (i+1))))),(13,bA l),(14,i64 l.length),(15,i64 i)]⟩,[.row q1c 1 (q8f N N)]⟩ True (z3 (q8 (q7 hT ?_))) (fun _=>?_)
   ·refine⟨Int.natCast_nonneg _,v7 hxp ?_⟩
    refine q7 hT ?_
    have hy:=v7v x c
    have hyl:(UInt8.ofNat x.toNat ^^^ c).toNat<256:=UInt8.toNat_lt _
    rw[hrun,v4r]
    generalize UInt8.ofNat x.toNat ^^^ c=y at hy hyl
    refine⟨?_,?_⟩
    ·show 0≤IntKind.u8.wrap ((BitVec.ofInt 8 (IntKind.u8.wrap (x.toNat:Int)) ^^^ BitVec.ofInt 8 (c.toNat:Int)).toNat:Int)∧IntKind.u8.wrap ((BitVec.ofInt 8 (IntKind.u8.wrap (x.toNat:Int)) ^^^ BitVec.ofInt 8 (c.toNat:Int)).toNat:Int)<((256:Nat):Int)
     rw[hy];omega
    have hg:(q8f N N)[0+(IntKind.u8.wrap ((BitVec.ofInt 8 (IntKind.u8.wrap (x.toNat:Int)) ^^^ BitVec.ofInt 8 (c.toNat:Int)).toNat:Int)).toNat]?=some [u32 (y1n y.toNat)]:=by
     rw[hy,Nat.zero_add,Int.toNat_natCast];exact v4p (by omega)
    refine y2h rfl (v7 hg ?_)
    have e:(((y1n y.toNat) ^^^ (x >>> 8)).toNat:Int)=IntKind.u32.wrap ((BitVec.ofInt 32 ((y1n y.toNat).toNat:Int) ^^^ BitVec.ofInt 32 ((x.toNat:Int).fdiv (2 ^ (min ((8:Nat):Int).toNat 32)))).toNat:Int):=by
     rw[v4k x 8 (by omega),v9d]
    show Wk _ _ ⟨⟨34,[(5,_),(6,.p (.raw (.int .u32 (((y1n y.toNat) ^^^ (x >>> 8)).toNat:Int)))),(13,_),(14,_),(15,_)]⟩,_⟩∧True
    rw[e]
    exact⟨q9 [0] [5,6,13,14,15] rfl,trivial⟩
   ·refine q7 hT ?_
    refine⟨n - 1,by omega,_,q9 [0] [5,6,13,14,15] rfl,i+1,IntKind.i64.wrap ((i:Int)+1),_,by omega,?_,rfl,rfl⟩
    rw[y7 _ (by omega) (by omega)];rfl
  ·have hi:¬ (i:Int)<(l.length:Int):=of_decide_eq_false h
   have hil:i=l.length:=by omega
   subst hil hv
   rw[List.take_length]
   refine x9 ?_
   exact⟨q9 [] [6] rfl,trivial⟩
 ·refine q8 (q7 hT ?_)
  refine y5 ?_
  refine z9 [] ⟨?_,rfl⟩ rfl
  show AV.p (.raw (.int .i64 (IntKind.i64.wrap (IntKind.u32.wrap ((BitVec.ofInt 32 ((run all1 l).toNat:Int) ^^^ BitVec.ofInt 32 4294967295).toNat:Int)))))=_
  rw[show (4294967295:Int)=(all1.toNat:Int) by decide,v9d]
  have:=(run all1 l ^^^ all1).isLt
  rw[y7 _ (by omega) (by omega)]
  rfl
theorem w6d (l:z7)(hl:l.length≤1000000):AF Tryz.prog y9e [bA l] [] (v9 (i64 ((sum l).toNat:Int)) []):=by
 refine v8 hT w8g rfl rfl w8h rfl ?_
 refine q8 (q7 hT ?_)
 refine q8 (q7 hT ?_)
 refine y9 (v4s l hl) ?_
 refine y5 ?_
 exact z9 [] ⟨rfl,rfl⟩ rfl
end Go.Proofs.YtinfbclgkghgaaaGreat.AL
namespace Go.Proofs.YtinfbclgkghgaaaGreat.AL
def q5d (a b:Nat):Nat→Nat
 |0=>0
 |k+1=>match a / 2 ^ k % 2 != b / 2 ^ k % 2 with
  |true=>q5d a b k+2 ^ k
  |false=>q5d a b k
theorem v7w (a b k:Nat):(a ^^^ b) / 2 ^ k % 2=if (a / 2 ^ k % 2 != b / 2 ^ k % 2)=true then 1 else 0:=by
 have h:=Nat.testBit_xor (x:=a) (y:=b) (i:=k)
 rw[Nat.testBit_eq_decide_div_mod_eq,Nat.testBit_eq_decide_div_mod_eq,Nat.testBit_eq_decide_div_mod_eq]at h
 have h1:(a ^^^ b) / 2 ^ k % 2<2:=Nat.mod_lt _ (by omega)
 have h2:a / 2 ^ k % 2<2:=Nat.mod_lt _ (by omega)
 have h3:b / 2 ^ k % 2<2:=Nat.mod_lt _ (by omega)
 generalize (a ^^^ b) / 2 ^ k % 2=x at *
 generalize a / 2 ^ k % 2=y at *
 generalize b / 2 ^ k % 2=z at *
 have hx:x=0∨x=1:=by omega
 have hy:y=0∨y=1:=by omega
 have hz:z=0∨z=1:=by omega
 rcases hx with rfl|rfl <;> rcases hy with rfl|rfl <;> rcases hz with rfl|rfl <;> simp at h ⊢
theorem y5d (a b:Nat):∀ k,q5d a b k=(a ^^^ b) % 2 ^ k
 |0=>by rw[Nat.pow_zero,Nat.mod_one];rfl
 |k+1=>by
  have ih:=y5d a b k
  rw[Nat.mod_pow_succ,v7w]
  unfold q5d
  cases h:(a / 2 ^ k % 2 != b / 2 ^ k % 2) with
  |true=>simp only[ih,if_true,Nat.mul_one]
  |false=>simp only[ih,Bool.false_eq_true,if_false,Nat.mul_zero,Nat.add_zero]
theorem v4t (a b k:Nat):q5d a b k<2 ^ k:=by rw[y5d];exact Nat.mod_lt _ (Nat.two_pow_pos k)
end Go.Proofs.YtinfbclgkghgaaaGreat.AL
