/- A part of the proof. -/
import Derived.Deep.AppendSrc
import Derived.Deep.Upon
import Derived.Test.YtinfbclgkghgaaaGreatSnapA
/- The abstract layer (second make),part g: each operation,proved against the machine (numbers,builds,addresses). -/
namespace Go.Proofs.YtinfbclgkghgaaaGreat.AL
open Go Go.RowKit
section
variable {P:Program} {T:V7} {w:World} {I:Nat→Prop} {ι:Nat→Option Nat} {H:List ABlk} {K:AV→List ABlk→Prop} {o:Oper} {a:Act} {next:Act→World→Prop} {Q:Exit→Act→World→Prop} {ev:Operand→AV}
theorem x6h {op:BinOp}{k yk:IntKind}{x y:Int}{K:Value→Prop}(h:z8h op k x y K):∃ v,K v∧v.oneCell'=true∧Op.shift op k x yk y=pure v:=by
 cases op <;> simp only[z8h]at h <;> first|exact h.elim|skip
 all_goals
  obtain⟨h1,h2⟩:=V8 h
  have h1:=of_decide_eq_true h1
  refine⟨_,h2,rfl,?_⟩
  simp only[Op.shift]
  rw[if_neg (by omega)]
theorem v9x {op:BinOp}{k:IntKind}{x y:Int}{K:Value→Prop}(h:v1r op k x y K)(w:World)(t:TypeId)(xo yo:Operand) :
 ∃ v,K v∧v.oneCell'=true∧(q5f op t xo yo (.int k x) (.int k y)).run P w=.ok v w:=by
 have hg:eqGuard op t xo yo (.int k x) (.int k y)=pure ():=by cases op <;> rfl
 cases op <;> simp only[v1r]at h <;> first|exact h.elim|skip
 case quo=>
  obtain⟨h1,h2⟩:=V8 h
  have h1:=of_decide_eq_true h1
  exact⟨_,h2,rfl,by simp[q5f,hg,binOp,Op.intDiv,h1]⟩
 case rem=>
  obtain⟨h1,h2⟩:=V8 h
  have h1:=of_decide_eq_true h1
  exact⟨_,h2,rfl,by simp[q5f,hg,binOp,Op.intDiv,h1]⟩
 all_goals exact⟨_,h,rfl,by simp[q5f,hg,binOp,Op.intArith,Op.intCmp,Op.intBits]⟩
theorem x3b {x:AV}{v:Value}(hp:y0u x=true)(h:ARep w I ι x v):∃ ad,v=.pointer (some ad):=by
 cases h with
 |p h=>cases h with
  |box cs b o=>exact⟨_,rfl⟩
  |raw v=>simp[y0u]at hp
  |sl=>simp[y0u]at hp
 |ref=>exact⟨_,rfl⟩
 |elr=>exact⟨_,rfl⟩
 |_=>simp[y0u]at hp
theorem x6i {d:TypeDesc}{e:TypeId}(h:TD.ptr e=q2t d):d=.pointer e:=by cases d <;> simp[q2t]at h;subst h;rfl
theorem x0b {d:TypeDesc}(h:TD.bool=q2t d):d=.bool:=by cases d <;> simp[q2t]at h;rfl
theorem J8 {d:TypeDesc}{e:TypeId}(h:TD.slice e=q2t d):d=.slice e:=by cases d <;> simp[q2t]at h;subst h;rfl
theorem q7m {d:TypeDesc}(h:TD.string=q2t d):d=.string:=by cases d <;> simp[q2t]at h;rfl
theorem x6j {d:TypeDesc}{k e:TypeId}(h:TD.map k e=q2t d):d=.map k e:=by cases d <;> simp[q2t]at h;obtain⟨rfl,rfl⟩:=h;rfl
theorem z5n {d:TypeDesc}{k:IntKind}(h:TD.int k=q2t d):d=.int k:=by cases d <;> simp[q2t]at h;subst h;rfl
theorem q9r {d:TypeDesc}{n:Nat}{e:TypeId}(h:TD.array n e=q2t d):d=.array n e:=by cases d <;> simp[q2t]at h;obtain⟨rfl,rfl⟩:=h;rfl
theorem z1e {d:TypeDesc}{fs:List (Nat × TypeId)}(h:TD.struct fs=q2t d):∃ f:Array Field,d=.struct f∧fs=f.toList.map fun x=>(x.offset,x.type):=by cases d <;> simp[q2t]at h;exact⟨_,rfl,h⟩
theorem z0u (d:Nat)(t e:TypeId)(x:Option Addr)(h:P.underlying t=some (.pointer e))(w:World):(Op.equalIn (d+1) t (.pointer x) (.pointer none)).run P w=.ok x.isNone w:=by
 cases x <;> simp[Op.equalIn,run_underlying h]
theorem y0v (t e:TypeId)(xo yo:Operand)(x:Option Addr)(h:P.underlying t=some (.pointer e))(w:World):(q5f .eql t xo yo (.pointer x) (.pointer none)).run P w=.ok (.bool x.isNone) w:=by
 have e1:q5f .eql t xo yo (.pointer x) (.pointer none)=(do let b ← Op.equalIn (9999+1) t (.pointer x) (.pointer none);pure (.bool b)):=rfl
 rw[e1];simp[z0u 9999 t e x h w]
theorem y0w (t e:TypeId)(xo yo:Operand)(x:Option Addr)(h:P.underlying t=some (.pointer e))(w:World):(q5f .neq t xo yo (.pointer x) (.pointer none)).run P w=.ok (.bool (!x.isNone)) w:=by
 have e1:q5f .neq t xo yo (.pointer x) (.pointer none)=(do let b ← Op.equalIn (9999+1) t (.pointer x) (.pointer none);pure (.bool (!b))):=rfl
 rw[e1];simp[z0u 9999 t e x h w]
theorem v9y (hT:TOk P T){op:BinOp}{t:TypeId}{xo yo:Operand}{x y:AV}{vx vy:Value}{K:Value→Prop}(h:v1s P T op t xo yo x y K)(hx:ARep w I ι x vx)(hy:ARep w I ι y vy) :
 ∃ v,K v∧v.oneCell'=true∧(q5f op t xo yo vx vy).run P w=.ok v w:=by
 unfold v1s at h
 split at h
 ·rename_i k x' k' y'
  obtain rfl:=Z0 hx;obtain rfl:=Z0 hy
  split at h
  ·obtain⟨v,h1,h1',h2⟩:=x6h (yk:=k') h
   exact⟨v,h1,h1',by simp[q5f,eqGuard_at_int,binOp,h2]⟩
  ·obtain⟨v,h1,h1',h2⟩:=x6h (yk:=k') h
   exact⟨v,h1,h1',by simp[q5f,eqGuard_at_int,binOp,h2]⟩
  ·obtain⟨h1,h2⟩:=V8 h
   have h1:k=k':=of_decide_eq_true h1
   subst h1
   exact v9x h2 w t xo yo
 ·rename_i x' y'
  obtain rfl:=Z0 hx;obtain rfl:=Z0 hy
  split at h
  ·obtain⟨c,rfl,h⟩:=h
   exact⟨_,h,rfl,by simp[q5f,eqGuard_at_string,binOp_string_eql]⟩
  ·obtain⟨c,rfl,h⟩:=h
   exact⟨_,h,rfl,by simp[q5f,eqGuard_at_string,binOp_string_neq]⟩
  ·obtain⟨r,h1,h1',h2⟩:=h
   exact⟨r,h2,h1',h1 w⟩
 ·rename_i x' y'
  obtain rfl:=Z0 hx;obtain rfl:=Z0 hy
  split at h
  ·rename_i hti
   obtain⟨i,d,z,_,h2,_,h4,_⟩:=tok hT hti
   obtain rfl:=x0b h4
   exact⟨_,h,rfl,by simp[q5f,eqGuard_at_bool,run_eql_bool w t x' y' h2]⟩
  ·rename_i hti
   obtain⟨i,d,z,_,h2,_,h4,_⟩:=tok hT hti
   obtain rfl:=x0b h4
   exact⟨_,h,rfl,by simp[q5f,eqGuard_at_bool,run_neq_bool w t x' y' h2]⟩
  ·exact h.elim
 ·rename_i l l'
  obtain⟨vs,h1,h⟩:=X3 h
  obtain⟨vs',h2,r,h3,h3',h4⟩:=X3 h
  have r1:=x3a h1;have r2:=x3a h2
  subst r1 r2
  refine⟨r,h4,h3',?_⟩
  have inv:∀ {vs:List Value} {v:Value},ARep w I ι (.agg (vs.map fun v=>.p (.raw v))) v→v=.agg vs.toArray:=by
   intro vs v h
   cases h with
   |agg l cs hn hr=>
    congr 1
    apply Array.ext'
    apply List.ext_getElem?
    intro i
    rcases Nat.lt_or_ge i cs.size with hi|hi
    ·have hi':i<vs.length:=by rw[hn]at hi;simpa using hi
     have:=Z0 (hr i (.p (.raw vs[i])) (by simp[hi']))
     rw[V2,List.getD_eq_getElem?_getD]at this
     simp[hi,hi']at this ⊢
     exact this
    ·have hi':vs.length≤i:=by rw[hn]at hi;simpa using hi
     simp[hi,hi']
  rw[inv hx,inv hy]
  exact h3 w
 ·obtain rfl:=Z0 hy
  split at h
  ·rename_i hti
   obtain⟨i,d,z,_,h2,_,h4,_⟩:=tok hT hti
   obtain rfl:=x6i h4
   split at h
   ·obtain rfl:=Z0 hx
    exact⟨_,h,rfl,y0v t _ xo yo none h2 w⟩
   ·obtain⟨c1,c2⟩:=V8 h
    obtain⟨ad,rfl⟩:=x3b c1 hx
    exact⟨_,c2,rfl,y0v t _ xo yo (some ad) h2 w⟩
  ·rename_i hti
   obtain⟨i,d,z,_,h2,_,h4,_⟩:=tok hT hti
   obtain rfl:=x6i h4
   split at h
   ·obtain rfl:=Z0 hx
    exact⟨_,h,rfl,y0w t _ xo yo none h2 w⟩
   ·obtain⟨c1,c2⟩:=V8 h
    obtain⟨ad,rfl⟩:=x3b c1 hx
    exact⟨_,c2,rfl,y0w t _ xo yo (some ad) h2 w⟩
  ·exact h.elim
 ·exact h.elim
theorem z5p (d:Nat)(t e:TypeId)(A:Option Addr)(n c:Nat)(h:P.underlying t=some (.slice e))(w:World):(Op.equalIn (d+1) t (.slice A n c) (.slice none 0 0)).run P w=.ok A.isNone w:=by
 cases A <;> simp[Op.equalIn,run_underlying h]
theorem q2f {t e:TypeId}{A:Option Addr}{n c:Nat}{op:BinOp}{xo yo:Operand}(h:P.underlying t=some (.slice e))(hop:op=.eql∨op=.neq)(w:World) :
 (q5f op t xo yo (.slice A n c) (.slice none 0 0)).run P w=.ok (.bool (match op with|.eql=>A.isNone|_=>!A.isNone)) w:=by
 have:=z5p (P:=P) 9999 t e A n c h w
 rcases hop with rfl|rfl
 ·simp only[q5f,eqGuard,binOp,Op.equal,Op.maxDepth]
  simp[this]
 ·simp only[q5f,eqGuard,binOp,Op.equal,Op.maxDepth]
  simp[this]
theorem v9z {op:BinOp}{t:TypeId}{xo yo:Operand}{x:AV}{vx:Value}{K:Value→Prop}(hT:TOk P T)(h:z8j T op t x K)(hx:ARep w I ι x vx) :
 ∃ v,K v∧v.oneCell'=true∧(q5f op t xo yo vx (.slice none 0 0)).run P w=.ok v w:=by
 unfold z8j at h
 obtain⟨ti,hti,h⟩:=X3 h
 obtain⟨i,d,z,h1,h2,h3,h4,h5,h6,h7,h8⟩:=tok hT hti
 split at h
 ·rename_i e he
  rw[he]at h4
  obtain rfl:=J8 h4
  have psl:∀ {sz:Nat} {xs:List (List PV)},ARep w I ι (.p (.sl sz xs)) vx→∃ A n c,vx=.slice A n c∧(A.isNone=true→xs=[]):=fun hx=>by
   cases z1d hx with
   |sl sz xs A c f hc hl hA hr=>
    refine⟨A,_,c,rfl,fun hn=>?_⟩
    rcases hA with h|⟨b,o,rfl,_⟩
    ·exact h
    ·simp at hn
  have pms:∀ {b sz off len:Nat},ARep w I ι (.msl b sz off len) vx→∃ A n c,vx=.slice A n c∧(A.isNone=true→len=0):=fun hx=>by
   cases hx with
   |msl=>exact⟨_,_,_,rfl,fun h=>by simp at h⟩
   |msl0=>exact⟨_,_,_,rfl,fun _=>rfl⟩
  split at h
  ·obtain⟨A,n,c,rfl,hA⟩:=psl hx
   exact⟨_,h A.isNone hA,rfl,q2f h2 (.inl rfl) w⟩
  ·obtain⟨A,n,c,rfl,hA⟩:=psl hx
   exact⟨_,h (!A.isNone) (fun e=>hA (by simpa using e)),rfl,q2f h2 (.inr rfl) w⟩
  ·obtain⟨A,n,c,rfl,hA⟩:=pms hx
   exact⟨_,h A.isNone hA,rfl,q2f h2 (.inl rfl) w⟩
  ·obtain⟨A,n,c,rfl,hA⟩:=pms hx
   exact⟨_,h (!A.isNone) (fun e=>hA (by simpa using e)),rfl,q2f h2 (.inr rfl) w⟩
  ·rw[Z0 hx]
   exact⟨_,h,rfl,q2f h2 (.inl rfl) w⟩
  ·rw[Z0 hx]
   exact⟨_,h,rfl,q2f h2 (.inr rfl) w⟩
  ·exact h.elim
 ·exact h.elim
theorem u0a {op:BinOp}{t yt:TypeId}{x y:Operand}(hT:TOk P T)(ho:o.op=.binOp op t x y yt)(hs:SimH w I ι H)(hx:ARep w I ι (ev x) (a.eval x))(hy:ARep w I ι (ev y) (a.eval y))
 (h:v1v P T op t x y (ev x) (ev y) fun v=>K (.p (.raw v)) H) (hn:Nx w I ι H K fun v w'=>next (a.put o.dst v) w'):o.wp P a w next Q:=by
 have key:∃ v,K (.p (.raw v)) H∧v.oneCell'=true∧(q5f op t x y (a.eval x) (a.eval y)).run P w=.ok v w:=by
  unfold v1v at h
  split at h
  ·exact v9z hT h hx
  ·exact v9y hT h hx hy
 obtain⟨v,h1,h1',h2⟩:=key
 refine Y3 (v:=v) (w':=w) ?_ (hn.here hs h1 (.p (.raw v h1')))
 unfold q5f at h2
 simp only[execOp,ho,Sem.run_bind]at h2 ⊢
 rw[h2];rfl
theorem u1k {op:UnOp}{t:TypeId}{x:Operand}(ho:o.op=.unOp op t x)(hs:SimH w I ι H)(hx:ARep w I ι (ev x) (a.eval x))
 (h:unK op (ev x) fun v=>K (.p (.raw v)) H) (hn:Nx w I ι H K fun v w'=>next (a.put o.dst v) w'):o.wp P a w next Q:=by
 unfold unK at h
 split at h
 ·rename_i b e
  rw[e]at hx
  have h1:=Z0 hx
  exact Y3 (v:=.bool !b) (w':=w) (by simp[execOp,ho,h1,unary_not]) (hn.here hs h (.p (.raw _ rfl)))
 ·rename_i k n e
  rw[e]at hx
  have h1:=Z0 hx
  exact Y3 (v:=.int k (k.wrap (0 - n))) (w':=w) (by simp[execOp,ho,h1,unary_neg,Op.intArith]) (hn.here hs h (.p (.raw _ rfl)))
 ·exact h.elim
theorem w1q {src dst:TypeId}{x:Operand}(hT:TOk P T)(ho:o.op=.convert src dst x)(hs:SimH w I ι H)(hx:ARep w I ι (ev x) (a.eval x))
 (hstr:∀ e,(Y8 (T e) fun ei=>match ei.d with
  |.int .u8=>chk (ei.size==1) (Y8 (z5i H 1 (ev x)) fun ys=>∃ bs:List UInt8,ys=bs.map (fun b=>[PV.raw (.int .u8 b.toNat)])∧K (.p (.raw (.string ⟨bs.toArray⟩))) H)
  |_=>False)→P.underlying src=some (.slice e)→P.underlying dst=some .string→o.wp P a w next Q)
 {C:CallA} (h:aop P T C ev H K (.convert src dst x)) (hn:Nx w I ι H K fun v w'=>next (a.put o.dst v) w'):o.wp P a w next Q:=by
 simp only[aop,opV,U1,List.map_cons,List.map_nil,on1]at h
 obtain⟨s,h1,h⟩:=X3 h
 obtain⟨t,h2,h⟩:=X3 h
 obtain⟨_,d,_,_,hd,_,e4,_⟩:=tok hT h1
 obtain⟨_,d',_,_,hd',_,e4',_⟩:=tok hT h2
 unfold x6f at h
 split at h
 ·rename_i k kd _ n q1 q2 h3
  rw[q1]at e4
  rw[q2]at e4'
  obtain rfl:=z5n e4
  obtain rfl:=z5n e4'
  rw[h3]at hx
  have hv:=Z0 hx
  refine Y3 (v:=_) (w':=w) ?_ (hn.here hs h (.p (.raw _ rfl)))
  simp[execOp,ho,hv,convert,run_underlying hd,run_underlying hd',Conv.intToInt]
 ·rename_i q1 q2
  rw[q1]at e4
  rw[q2]at e4'
  obtain rfl:=J8 e4
  obtain rfl:=q7m e4'
  exact hstr _ h hd hd'
 ·exact h.elim
theorem x6k {fn:Fn}{first caps:Array Operand}(ho:o.op=.makeFunc fn first caps)(hs:SimH w I ι H)(hx:∀ x∈caps.toList,ARep w I ι (ev x) (a.eval x))
 (h:chk first.isEmpty (K (.clo fn (caps.toList.map ev)) H)) (hn:Nx w I ι H K fun v w'=>next (a.put o.dst v) w'):o.wp P a w next Q:=by
 obtain⟨h1,h2⟩:=V8 h
 have h1:first = #[]:=by simpa using h1
 subst h1
 refine Y3 (v:=.func fn #[] (caps.map a.eval)) (w':=w) (by simp[execOp,ho,Instr.makeFunc]) (hn.here hs h2 ?_)
 refine .clo fn _ _ (by simp) (fun i u hu=>?_)
 simp only[List.getElem?_map,Option.map_eq_some_iff]at hu
 obtain⟨x,hx',rfl⟩:=hu
 rw[V2,Array.toList_map,List.getD_eq_getElem?_getD,List.getElem?_map,hx']
 exact hx x (List.mem_of_getElem? hx')
theorem w1r {fn:Fn}{first caps:Array Operand}(ho:o.op=.makeFunc fn first caps)(hs:SimH w I ι H)(hx:∀ x∈first.toList,ARep w I ι (ev x) (a.eval x))(hc:caps = #[])
 (h:K (.mth fn (first.toList.map ev)) H) (hn:Nx w I ι H K fun v w'=>next (a.put o.dst v) w'):o.wp P a w next Q:=by
 subst hc
 refine Y3 (v:=.func fn (first.map a.eval) #[]) (w':=w) (by simp[execOp,ho,Instr.makeFunc]) (hn.here hs h ?_)
 refine .mth fn _ _ (by simp) (fun i u hu=>?_)
 simp only[List.getElem?_map,Option.map_eq_some_iff]at hu
 obtain⟨x,hx',rfl⟩:=hu
 rw[V2,Array.toList_map,List.getD_eq_getElem?_getD,List.getElem?_map,hx']
 exact hx x (List.mem_of_getElem? hx')
theorem w1s {x:Operand}{i:Nat}(ho:o.op=.extract x i)(hs:SimH w I ι H)(hx:ARep w I ι (ev x) (a.eval x))
 {C:CallA} (h:aop P T C ev H K (.extract x i)) (hn:Nx w I ι H K fun v w'=>next (a.put o.dst v) w'):o.wp P a w next Q:=by
 simp only[aop,opV,U1,List.map_cons,List.map_nil,on1]at h
 split at h
 ·rename_i l hl
  obtain⟨u,h1,h2⟩:=X3 h
  rw[hl]at hx
  generalize hv:a.eval x=v at hx
  cases hx with
  |tup l vs hn' hr=>
   have hlt:i<vs.size:=by rw[hn'];exact(List.getElem?_eq_some_iff.1 h1).1
   have:=hr i u h1
   rw[Array.getD_eq_getD_getElem?,Array.getElem?_eq_getElem hlt]at this
   exact Y3 (v:=vs[i]) (w':=w) (by simp[execOp,ho,hv,Instr.extract,hlt]) (hn.here hs h2 this)
 ·exact h.elim
theorem x6m {x:Operand}(ho:o.op=.nilCheck x)(hs:SimH w I ι H)(hx:ARep w I ι (ev x) (a.eval x))
 (h:chk (y0u (ev x)) (K (ev x) H)) (hn:Nx w I ι H K fun v w'=>next (a.put o.dst v) w'):o.wp P a w next Q:=by
 obtain⟨h1,h2⟩:=V8 h
 obtain⟨ad,hv⟩:=x3b h1 hx
 exact Y3 (v:=a.eval x) (w':=w) (by simp[execOp,ho,hv]) (hn.here hs h2 hx)
theorem y4c {f:Field}{i:TypeInfo}(hi:P.info? f.type=some i)(h0:0<i.size)(ad:Addr)(w:World):(fieldPlace ad f).run P w=.ok (ad.add f.offset) w:=by
 have:i.size≠0:=by omega
 simp[fieldPlace,U7 hi,this]
theorem x0c {x:AV}{v:Value}{n:Nat}{K:AV→Prop}(h:y3y x n K)(hx:ARep w I ι x v):∃ u ad,K u∧v=.pointer (some ad)∧ARep w I ι u (.pointer (some (ad.add n))):=by
 unfold y3y at h
 split at h
 ·rename_i b off
  cases hx with
  |ref _ _ B hB=>exact⟨_,_,h,rfl,by rw[Addr.add_mid];exact .ref _ _ _ hB⟩
 ·rename_i b sz i off
  cases hx with
  |elr _ _ _ _ B hB=>exact⟨_,_,h,rfl,by rw[Addr.add_mid,Nat.add_assoc];exact .elr _ _ _ _ _ hB⟩
 ·rename_i cs
  cases z1d hx with
  |box cs b o f hI hc hr=>
   refine⟨_,_,h,rfl,?_⟩
   rw[Addr.add_mid]
   refine .p (.box _ b (o+n) (fun i=>f (n+i)) hI (fun i hi=>?_) (fun i u hu=>?_))
   ·rw[Nat.add_assoc];exact hc (n+i) (by simp at hi;omega)
   ·rw[List.getElem?_drop]at hu;exact hr (n+i) u hu
 ·exact h.elim
theorem x3c {s:TypeId}{x:Operand}{f:Nat}(hT:TOk P T)(ho:o.op=.fieldAddr s x f)(hs:SimH w I ι H)(hx:ARep w I ι (ev x) (a.eval x))
 {C:CallA} (h:aop P T C ev H K (.fieldAddr s x f)) (hn:Nx w I ι H K fun v w'=>next (a.put o.dst v) w'):o.wp P a w next Q:=by
 simp only[aop,opV,U1,List.map_cons,List.map_nil,on1]at h
 obtain⟨ti,hti,h⟩:=X3 h
 obtain⟨i,d,z,h1,h2,h3,h4,h5,h6,h7,h8⟩:=tok hT hti
 split at h
 ·rename_i fs hfs
  obtain⟨p,hp,h⟩:=X3 h
  obtain⟨fi,hfi,h⟩:=X3 h
  obtain⟨c1,c2⟩:=V8 h
  have c1:=of_decide_eq_true c1
  rw[hfs]at h4
  obtain⟨F,rfl,hF⟩:=z1e h4
  subst hF
  simp only[List.getElem?_map,Option.map_eq_some_iff]at hp
  obtain⟨fl,hfl,rfl⟩:=hp
  obtain⟨i',d',z',g1,_,_,_,g5,_⟩:=tok hT hfi
  obtain⟨u,ad,k1,k2,k3⟩:=x0c c2 hx
  refine Y3 (v:=.pointer (some (ad.add fl.offset))) (w':=w) ?_ (hn.here hs k1 k3)
  have hfl':F[f]?=some fl:=by rw[← Array.getElem?_toList];exact hfl
  simp[execOp,ho,k2,Instr.fieldAt,run_underlying h2,hfl',Instr.sureAddr,y4c g1 (by omega)]
 ·exact h.elim
theorem x6n {d:TypeDesc}{t:TypeId}{i:TypeInfo}(hi:P.info? t=some i)(hd:P.underlying t=some d){l:List AV}{cs:Array Value}(hn:cs.size=l.length)(hr:∀ i u,l[i]?=some u→ARep w I ι u (cs.getD i undef)){off:Nat}
 (hle:off+i.size≤l.length) (hrow:q0c (q2t d)=true∨i.size=1):∃ v,(part t cs off).run P w=.ok v w∧ARep w I ι (q6p (q2t d) ((l.drop off).take i.size)) v:=by
 cases hR:q0c (q2t d) with
 |true=>
  have hd':d.isRow=true:=by rw[← q4q];exact hR
  have hagg:(isAgg t).run P w=.ok true w:=by
   unfold isAgg;rw[Sem.run_bind,run_underlying hd w];cases d <;> simp_all
  refine⟨.agg (cs.extract off (off+i.size)),by simp[part,hagg,U7 hi],?_⟩
  have:∀ us,q6p (q2t d) us=.agg us:=by intro us;cases hdd:q2t d <;> simp[hdd,q0c]at hR <;> rfl
  rw[this]
  refine .agg _ _ (by simp;omega) (fun j u hu=>?_)
  have hlt:j<i.size:=by
   have:=(List.getElem?_eq_some_iff.1 hu).1
   simp at this;omega
  rw[List.getElem?_take_of_lt hlt,List.getElem?_drop]at hu
  have:=hr (off+j) u hu
  rw[Array.getD_eq_getD_getElem?]at this ⊢
  have e:(cs.extract off (off+i.size))[j]?=cs[off+j]?:=by
   rw[Array.getElem?_extract];rw[if_pos (by omega)]
  rw[e];exact this
 |false=>
  have hs1:i.size=1:=by rcases hrow with h|h;rw[hR]at h;exact absurd h (by simp);exact h
  have hd':d.isRow=false:=by rw[← q4q];exact hR
  have hagg:(isAgg t).run P w=.ok false w:=by
   unfold isAgg;rw[Sem.run_bind,run_underlying hd w];cases d <;> simp_all
  have hlt:off<cs.size:=by omega
  refine⟨cs[off],by simp[part,hagg,hlt],?_⟩
  have:∀ us,q6p (q2t d) us=us.headD .top:=by intro us;cases hdd:q2t d <;> simp[hdd,q0c]at hR <;> rfl
  rw[this,hs1]
  have hlt':off<l.length:=by omega
  have e:((l.drop off).take 1).headD .top=l[off]:=by rw[List.drop_eq_getElem_cons hlt'];rfl
  rw[e]
  have:=hr off l[off] (List.getElem?_eq_getElem hlt')
  rw[Array.getD_eq_getD_getElem?,Array.getElem?_eq_getElem hlt]at this
  exact this
theorem v2a {s:TypeId}{x:Operand}{f:Nat}(hT:TOk P T)(ho:o.op=.field s x f)(hs:SimH w I ι H)(hx:ARep w I ι (ev x) (a.eval x))
 {C:CallA} (h:aop P T C ev H K (.field s x f)) (hn:Nx w I ι H K fun v w'=>next (a.put o.dst v) w'):o.wp P a w next Q:=by
 simp only[aop,opV,U1,List.map_cons,List.map_nil,on1]at h
 obtain⟨ti,hti,h⟩:=X3 h
 obtain⟨i,d,z,h1,h2,h3,h4,h5,h6,h7,h8⟩:=tok hT hti
 split at h
 ·rename_i fs hfs
  obtain⟨p,hp,h⟩:=X3 h
  obtain⟨fi,hfi,h⟩:=X3 h
  rw[hfs]at h4
  obtain⟨F,rfl,hF⟩:=z1e h4
  subst hF
  simp only[List.getElem?_map,Option.map_eq_some_iff]at hp
  obtain⟨fl,hfl,rfl⟩:=hp
  obtain⟨i',d',z',g1,g2,_,g4,g5,_⟩:=tok hT hfi
  split at h
  ·rename_i l hl
   obtain⟨c1,c2⟩:=V8 h
   rw[Bool.and_eq_true]at c1
   obtain⟨c1,c3⟩:=c1
   have c1:=of_decide_eq_true c1
   rw[hl]at hx
   generalize hv:a.eval x=v at hx
   cases hx with
   |agg l vs hn' hr=>
    rw[g4,g5]at c2
    rw[g5]at c1 c3
    obtain⟨v,k1,k2⟩:=x6n (w:=w) g1 g2 hn' hr (off:=fl.offset) (by simpa using c1) (by rw[g4]at c3;simpa using c3)
    refine Y3 (v:=v) (w':=w) ?_ (hn.here hs c2 k2)
    have hfl':F[f]?=some fl:=by rw[← Array.getElem?_toList];exact hfl
    simp[execOp,ho,hv,Instr.field,run_underlying h2,hfl',asAgg,k1]
  ·exact h.elim
 ·exact h.elim
end
end Go.Proofs.YtinfbclgkghgaaaGreat.AL
/- The abstract layer (second make),part h: literals,slices,lengths,appends,calls. -/
namespace Go.Proofs.YtinfbclgkghgaaaGreat.AL
open Go Go.RowKit
theorem w5g {α β γ:Type}(l:List (α × β))(g:β→γ):(l.map (·.1)).zip ((l.map (·.2)).map g)=l.map fun p=>(p.1,g p.2):=by
 induction l with
 |nil=>rfl
 |cons p r ih=>simp only[List.map_cons,List.zip_cons_cons,ih]
theorem w7f {α:Type}(l:List α)(o:Nat)(v:α)(r:List α)(h:o+(r.length+1)≤l.length):W4 (l.set o v) (o+1) r=W4 l o (v :: r):=by
 apply List.ext_getElem?
 intro i
 rw[q3t (by simp;omega),q3t (by simp;omega)]
 simp only[List.length_cons]
 by_cases c1:i=o
 ·subst c1
  rw[if_neg (by omega),if_pos (by omega),List.getElem?_set_self (by omega)]
  simp
 ·by_cases c2:o+1≤i∧i<o+1+r.length
  ·rw[if_pos c2,if_pos (by omega)]
   obtain⟨j,rfl⟩:∃ j,i=o+1+j:=⟨i - (o+1),by omega⟩
   rw[show o+1+j - o=j+1 by omega,show o+1+j - (o+1)=j by omega,List.getElem?_cons_succ]
  ·rw[if_neg c2,if_neg (by omega),List.getElem?_set_ne (by omega)]
theorem y4d (off:Nat):∀ (vs:List Value) (k:Nat) (cs:Array Value),off+k+vs.length≤cs.size →
 ((vs.zipIdx k).foldl (fun(cs:Array Value) (c:Value × Nat)=>cs.setIfInBounds (off+c.2) c.1) cs).toList=W4 cs.toList (off+k) vs
 |[],k,cs,_=>by simp[W4]
 |v :: r,k,cs,h=>by
  simp only[List.length_cons]at h
  rw[List.zipIdx_cons,List.foldl_cons,y4d off r (k+1) (cs.setIfInBounds (off+k) v) (by simp;omega)]
  rw[Array.toList_setIfInBounds,← Nat.add_assoc,w7f _ _ _ _ (by simp;omega)]
section
variable {P:Program} {T:V7} {w:World} {I:Nat→Prop} {ι:Nat→Option Nat} {H:List ABlk} {K:AV→List ABlk→Prop} {o:Oper} {a:Act} {next:Act→World→Prop} {Q:Exit→Act→World→Prop} {ev:Operand→AV}
def Says (w:World)(I:Nat→Prop)(ι:Nat→Option Nat)(l:List AV)(cs:Array Value):Prop:=cs.size=l.length∧∀ i u,l[i]?=some u→ARep w I ι u (cs.getD i undef)
theorem Says.set {l l':List AV}{cs cs':Array Value}{off:Nat}(h:Says w I ι l cs)(h':Says w I ι l' cs')(hle:off+l'.length≤l.length):Says w I ι (W4 l off l') (W4 cs.toList off cs'.toList).toArray:=by
 have hle':off+cs'.toList.length≤cs.toList.length:=by simp;rw[h.1,h'.1];exact hle
 refine⟨by simp[W3 hle',W3 hle,h.1],fun i u hu=>?_⟩
 rw[q3g _ _ _ _ hle']
 rw[q3t hle]at hu
 have e:cs'.toList.length=l'.length:=by simp[h'.1]
 split at hu
 ·rw[if_pos (by omega),← V2];exact h'.2 _ u hu
 ·rw[if_neg (by omega),← V2];exact h.2 i u hu
theorem y3b {place:Nat→Option (Nat × Nat)}:∀ {parts:List (Nat × Operand)} {l:List AV} {cs:Array Value} {l':List AV},Says w I ι l cs→(∀ p∈parts,ARep w I ι (ev p.2) (a.eval p.2)) →
 z4b T place l (parts.map fun p=>(p.1,ev p.2))=some l'→∃ cs',Instr.fill place cs (parts.map fun p=>(p.1,a.eval p.2))=some cs'∧Says w I ι l' cs'
 |[],l,cs,l',h,_,hf=>by simp[z4b]at hf;subst hf;exact⟨cs,by simp[Instr.fill],h⟩
 |(i,x) :: r,l,cs,l',h,hp,hf=>by
  simp only[List.map_cons,z4b,x2u]at hf
  split at hf
  ·rename_i off size l1 h1 h2
   split at hf
   ·rename_i hc
    rw[Bool.and_eq_true]at hc
    obtain⟨c1,c2⟩:=hc
    have c1:l1.length=size:=by simpa using c1
    have c2:=Nat.le_of_ble_eq_true c2
    obtain⟨e1,e2,e3⟩:=y4a (show ARep w I ι (ev x) (a.eval x) from hp (i,x) (by simp)) h2
    have hle:off+(a.eval x).cells.size≤cs.size:=by rw[h.1,e1];exact c2
    have hs:Says w I ι l1 (a.eval x).cells:=⟨e1,e2⟩
    have hset:=h.set hs c2
    obtain⟨cs',f1,f2⟩:=y3b (place:=place) (parts:=r) hset (fun p hp'=>hp p (by simp[hp'])) hf
    refine⟨cs',?_,f2⟩
    simp only[List.map_cons,Instr.fill,h1]
    rw[if_neg (by simp;omega)]
    have e:(a.eval x).cells.zipIdx.foldl (fun(cs:Array Value) (c:Value × Nat)=>cs.setIfInBounds (off+c.2) c.1) cs=(W4 cs.toList off (a.eval x).cells.toList).toArray:=by
     apply Array.ext'
     rw[← Array.foldl_toList,Array.toList_zipIdx,y4d off _ 0 cs (by simpa using hle)]
     rfl
    have e':(a.eval x).cells.zipIdx.foldl (fun(cs:Array Value) x=>match x with|(c,j)=>cs.setIfInBounds (off+j) c) cs=(W4 cs.toList off (a.eval x).cells.toList).toArray:=e
    rw[e'];exact f1
   ·exact absurd hf (by simp)
  ·exact absurd hf (by simp)
theorem z1f (hT:TOk P T):∀ {fs:List Field} {pl:List (Nat × Nat)},q5g T (fs.map fun f=>(f.offset,f.type))=some pl→fs.mapM (fun f=>(P.info? f.type).map fun i=>(f.offset,i.size))=some pl
 |[],pl,h=>by simp[q5g]at h;subst h;rfl
 |f :: fs,pl,h=>by
  simp only[List.map_cons,q5g]at h
  split at h
  ·rename_i ti l h1 h2
   obtain rfl:=Option.some.inj h
   obtain⟨i,d,z,g1,_,_,_,g5,_⟩:=tok hT h1
   have:=z1f hT h2
   simp[List.mapM_cons,g1,this,g5]
  ·exact absurd h (by simp)
theorem z8m (ti:TI)(z:Value)(h:ti.zero=z.cells.toList)(h8:∀ v∈z.cells.toList,v.oneCell'=true):Says w I ι (q6q ti) z.cells:=by
 refine⟨by simp[q6q,h],fun i u hu=>?_⟩
 simp only[q6q,h,List.getElem?_map,Option.map_eq_some_iff]at hu
 obtain⟨y,hy,rfl⟩:=hu
 rw[V2,List.getD_eq_getElem?_getD,hy]
 exact .p (.raw y (h8 y (List.mem_of_getElem? hy)))
theorem v2b {t:TypeId}{parts:Array (Nat × Operand)}(hT:TOk P T)(ho:o.op=.build t parts)(hs:SimH w I ι H)(hx:∀ p∈parts.toList,ARep w I ι (ev p.2) (a.eval p.2))
 {C:CallA} (h:aop P T C ev H K (.build t parts)) (hn:Nx w I ι H K fun v w'=>next (a.put o.dst v) w'):o.wp P a w next Q:=by
 simp only[aop,opV,U1,w5g]at h
 obtain⟨ti,hti,h⟩:=X3 h
 obtain⟨i,d,z,h1,h2,h3,h4,h5,h6,h7,h8⟩:=tok hT hti
 split at h
 ·rename_i fs hfs
  rw[hfs]at h4
  obtain⟨F,rfl,rfl⟩:=z1e h4
  obtain⟨pl,hpl,h⟩:=X3 h
  obtain⟨l,hl,h⟩:=X3 h
  have hm:=z1f hT hpl
  obtain⟨cs',f1,f2⟩:=y3b (w:=w) (I:=I) (ι:=ι) (z8m ti z h7 h8) hx hl
  refine Y3 (v:=.agg cs') (w':=w) ?_ (hn.here hs h (.agg l cs' f2.1 f2.2))
  have hb:P.built t (parts.map fun(i,x)=>(i,a.eval x)).toList=some cs':=by
   simp only[Program.built,h1,h2,h3,hm,Array.toList_map]
   have:(fun i:Nat=>pl.toArray[i]?)=fun i:Nat=>pl[i]?:=by funext i;simp
   rw[this];exact f1
  simp[execOp,ho,run_build w t _ cs' hb]
 ·rename_i n e he
  rw[he]at h4
  obtain rfl:=q9r h4
  obtain⟨ei,hei,h⟩:=X3 h
  obtain⟨ie,de,ze,g1,g2,g3,g4,g5,g6,g7,g8⟩:=tok hT hei
  obtain⟨l,hl,h⟩:=X3 h
  obtain⟨cs',f1,f2⟩:=y3b (w:=w) (I:=I) (ι:=ι) (z8m ti z h7 h8) hx hl
  refine Y3 (v:=.agg cs') (w':=w) ?_ (hn.here hs h (.agg l cs' f2.1 f2.2))
  have hb:P.built t (parts.map fun(i,x)=>(i,a.eval x)).toList=some cs':=by
   simp only[Program.built,h1,h2,h3,g1,Array.toList_map]
   rw[g5]at f1
   exact f1
  simp[execOp,ho,run_build w t _ cs' hb]
 ·exact h.elim
theorem x0d {α:Type}(sz:Nat):∀ (n:Nat) (l:List α) (j:Nat),j<n→(y3w sz n l)[j]?=some ((l.drop (j*sz)).take sz)
 |0,_,j,h=>by omega
 |n+1,l,0,_=>by simp[y3w]
 |n+1,l,j+1,h=>by
  simp only[y3w,List.getElem?_cons_succ]
  rw[x0d sz n (l.drop sz) j (by omega),List.drop_drop,Nat.succ_mul,Nat.add_comm]
theorem q6i {α:Type}(sz:Nat):∀ (n:Nat) (l:List α),(y3w sz n l).length=n
 |0,_=>rfl
 |n+1,l=>by simp[y3w,q6i sz n]
theorem q2u {α:Type}(l:List α)(o n i:Nat)(u:α)(h:((l.drop o).take n)[i]?=some u):i<n∧l[o+i]?=some u:=by
 have hlt:i<n:=by
  have:=(List.getElem?_eq_some_iff.1 h).1
  simp at this;omega
 rw[List.getElem?_take_of_lt hlt,List.getElem?_drop]at h
 exact⟨hlt,h⟩
theorem u0b {e:TypeId}{sz n:Nat}{l:List AV}{cs:Array Value}(hs:SimH w I ι H)(h:Says w I ι l cs)(hsz:0<sz)(hl:l.length=n*sz)(hn:n≤140737488355328){w':World}(g:Grew w w' (.cells cs e)) :
 SimH w' I (upd ι H.length w.heap.size) (H++[x2v e sz n l])∧Ex H.length w I ι H w' I (upd ι H.length w.heap.size) (H++[x2v e sz n l]):=by
 unfold x2v
 cases hp:pvs l with
 |none=>exact z8k hs (Nat.le_of_eq h.1.symm) h.2 g
 |some ps=>
  have:=x2z hp
  subst this
  refine g.sim hs _ (.inr ⟨w.heap.size,cs,by simp[upd],g.new,fun hI=>by have:=hs.Ilt _ hI;omega,?_,by rw[q6i];exact hn,fun j el hj=>?_⟩)
  ·have:=h.1;simp only[List.length_map]at this hl
   rw[q6i];omega
  ·have hjn:j<n:=by have:=(List.getElem?_eq_some_iff.1 hj).1;rw[q6i]at this;exact this
   rw[x0d sz n ps j hjn]at hj
   obtain rfl:=Option.some.inj hj
   simp only[List.length_map]at hl
   have hmul:j*sz+sz≤n*sz:=by rw[← Nat.succ_mul];exact Nat.mul_le_mul_right _ hjn
   refine⟨by simp;omega,fun k u hu=>?_⟩
   obtain⟨_,hu⟩:=q2u _ _ _ _ _ hu
   exact(z1d (h.2 (j*sz+k) (.p u) (by rw[List.getElem?_map,hu];rfl))).move (fun B hB=>g.old B (hs.Ilt B hB)) (fun _ h=>h)
theorem v2c (zero:List AV)(n i:Nat)(u:AV)(h:(List.replicate n zero).flatten[i]?=some u):zero[i % zero.length]?=some u:=by
 induction n generalizing i with
 |zero=>simp at h
 |succ n ih=>
  rw[List.replicate_succ,List.flatten_cons]at h
  rcases Nat.lt_or_ge i zero.length with hi|hi
  ·rw[List.getElem?_append_left hi]at h
   rw[Nat.mod_eq_of_lt hi];exact h
  ·rw[List.getElem?_append_right hi]at h
   have:=ih (i - zero.length) h
   rw[Nat.mod_eq_sub_mod hi];exact this
theorem w1t (ei:TI)(z:Value)(h:ei.zero=z.cells.toList)(h8:∀ v∈z.cells.toList,v.oneCell'=true)(n:Nat)(h0:0<ei.size)(hz:ei.zero.length=ei.size) :
 Says w I ι (List.replicate n (q6q ei)).flatten ((Array.range (n*ei.size)).map (z.cells[· % z.cells.size]!)):=by
 have hzl:(q6q ei).length=ei.size:=by simp[q6q,hz]
 have hzs:z.cells.size=ei.size:=by rw[← hz,h];simp
 refine⟨by simp[hzl],fun i u hu=>?_⟩
 have hi:i<n*ei.size:=by
  have:=(List.getElem?_eq_some_iff.1 hu).1
  simp[hzl]at this;exact this
 have hg:=v2c _ _ _ _ hu
 rw[hzl]at hg
 have hm:i % ei.size<z.cells.size:=by rw[hzs];exact Nat.mod_lt _ h0
 have hs:=(z8m (w:=w) (I:=I) (ι:=ι) ei z h h8).2 _ u hg
 rw[Array.getD_eq_getD_getElem?,Array.getElem?_eq_getElem hm]at hs
 rw[Array.getD_eq_getD_getElem?,Array.getElem?_map,Array.getElem?_range,if_pos hi]
 simp only[Option.map_some,Option.getD_some,hzs]
 rw[getElem!_pos z.cells (i % ei.size) hm]
 exact hs
theorem y8i {t:TypeId}{n:Nat}{parts:Array (Nat × Operand)}(hT:TOk P T)(ho:o.op=.buildSlice t n parts)(hs:SimH w I ι H)(hx:∀ p∈parts.toList,ARep w I ι (ev p.2) (a.eval p.2))
 {C:CallA} (h:aop P T C ev H K (.buildSlice t n parts)) (hn:Nx w I ι H K fun v w'=>next (a.put o.dst v) w'):o.wp P a w next Q:=by
 simp only[aop,opV,U1,w5g]at h
 obtain⟨ti,hti,h⟩:=X3 h
 obtain⟨i,d,z,h1,h2,h3,h4,h5,h6,h7,h8⟩:=tok hT hti
 split at h
 ·rename_i e he
  obtain⟨ei,hei,h⟩:=X3 h
  obtain⟨ie,de,ze,g1,g2,g3,g4,g5,g6,g7,g8⟩:=tok hT hei
  obtain⟨c,h⟩:=V8 h
  simp only[Bool.and_eq_true,decide_eq_true_eq,beq_iff_eq]at c
  obtain⟨⟨c1,c2⟩,c3⟩:=c
  obtain⟨l,hl,h⟩:=X3 h
  rw[he]at h4
  obtain rfl:=J8 h4
  obtain⟨cs',f1,f2⟩:=y3b (w:=w) (I:=I) (ι:=ι) (w1t ei ze g7 g8 n c2 c3) hx hl
  have hll:l.length=n*ei.size:=by
   have:∀ {parts:List (Nat × AV)} {l l':List AV} {pl:Nat→Option (Nat × Nat)},z4b T pl l parts=some l'→l'.length=l.length:=by
    intro parts
    induction parts with
    |nil=>intro l l' pl h;simp[z4b]at h;subst h;rfl
    |cons p r ih=>
     intro l l' pl h
     simp only[z4b,x2u]at h
     split at h
     ·split at h
      ·rename_i hc
       rw[Bool.and_eq_true]at hc
       rw[ih h,W3 (Nat.le_of_ble_eq_true hc.2)]
      ·exact absurd h (by simp)
     ·exact absurd h (by simp)
   rw[this hl];simp[q6q,c3]
  have g:=q3a w (.cells cs' e)
  have hbound:n≤140737488355328:=by
   have:n≤n*ei.size:=Nat.le_mul_of_pos_right _ c2
   omega
  have k:=u0b (e:=e) (n:=n) hs f2 c2 hll hbound g
  refine Y3 (v:=.slice (some ⟨w.heap.size,0,none⟩) n n) (w':=w.alloc (.cells cs' e)) ?_ (hn _ _ _ _ _ _ h ?_ k.1 k.2)
  ·have hlim:¬ (2 ^ 24<n*ie.size):=by rw[← g5];omega
   have hne:ei.size≠0:=by omega
   have key:(Instr.buildSlice t n (parts.map fun(i,x)=>(i,a.eval x))).run P w=.ok (.slice (some ⟨w.heap.size,0,none⟩) n n) (w.alloc (.cells cs' e)):=by
    unfold Instr.buildSlice
    simp only[Sem.run_bind,run_underlying h2,Result.andThen_ok,U7 g1]
    rw[← g5]
    have hl24:¬ (n*ei.size > 2 ^ 24):=by rw[g5];exact hlim
    simp only[hl24,if_false]
    have f1':Instr.fill (fun i=>some (i*ei.size,ei.size)) ((Array.range (n*ei.size)).map (fun x=>ze.cells[x % ze.cells.size]!)) (parts.toList.map fun p=>(p.1,a.eval p.2))=some cs':=f1
    by_cases h0:n*ei.size=0
    ·have e0:∀ f g:Nat→Value,(Array.range (n*ei.size)).map f=(Array.range (n*ei.size)).map g:=fun f g=>by rw[h0];simp
     simp only[if_pos h0,Sem.run_bind,Sem.run_pure,Result.andThen_ok,Array.toList_map]
     rw[e0 _ (fun x=>ze.cells[x % ze.cells.size]!),f1']
     rfl
    ·simp only[if_neg h0,Sem.run_bind,Sem.run_pure,Result.andThen_ok,q5c g1 g3,Array.toList_map,f1']
     rfl
   simp[execOp,ho,key]
  ·have:(⟨w.heap.size,0,none⟩:Addr)=⟨w.heap.size,0*ei.size,none⟩:=by simp
   rw[this]
   refine .msl _ _ _ _ _ _ (by simp[upd]) (Nat.le_refl _) ⟨cs',e,(0,0),g.new,?_⟩
   rw[f2.1,hll];simp
 ·exact h.elim
end
end Go.Proofs.YtinfbclgkghgaaaGreat.AL
namespace Go.Proofs.YtinfbclgkghgaaaGreat.AL
open Go Go.RowKit
section
variable {P:Program} {T:V7} {w:World} {I:Nat→Prop} {ι:Nat→Option Nat} {H:List ABlk} {K:AV→List ABlk→Prop} {o:Oper} {a:Act} {next:Act→World→Prop} {Q:Exit→Act→World→Prop} {ev:Operand→AV}
theorem x3d {t:TypeId}{l c:Operand}(hT:TOk P T)(ho:o.op=.makeSlice t l c)(hs:SimH w I ι H)(hl:ARep w I ι (ev l) (a.eval l))(hc:ARep w I ι (ev c) (a.eval c))
 {C:CallA} (h:aop P T C ev H K (.makeSlice t l c)) (hn:Nx w I ι H K fun v w'=>next (a.put o.dst v) w'):o.wp P a w next Q:=by
 simp only[aop,opV,U1,List.map_cons,List.map_nil,on2]at h
 replace h:=X3 h
 obtain⟨ti,hti,h⟩:=h
 obtain⟨i,d,z,h1,h2,h3,h4,h5,h6,h7,h8⟩:=tok hT hti
 split at h
 ·rename_i e he
  replace h:=X3 h
  obtain⟨ei,hei,h⟩:=h
  obtain⟨ie,de,ze,g1,g2,g3,g4,g5,g6,g7,g8⟩:=tok hT hei
  replace h:=V8 h
  obtain⟨q,h⟩:=h
  simp only[Bool.and_eq_true,decide_eq_true_eq,beq_iff_eq]at q
  obtain⟨q1,q2⟩:=q
  rw[he]at h4
  obtain rfl:=J8 h4
  split at h
  ·rename_i n n' e1 e2
   rw[e1]at hl;rw[e2]at hc
   have v1:=Z0 hl;have v2:=Z0 hc
   obtain⟨⟨hnn,k1,k2,k3⟩,h⟩:=h
   rw[hnn]at v2
   have hzl:(q4j ei).length=ei.size:=by simp[q4j,q2]
   have hzs:ze.cells.size=ei.size:=by rw[← q2,g7];simp
   let cs:=madeCells ze.cells (n.toNat*ie.size)
   have hcs:cs.size=n.toNat*ei.size:=by simp[cs,size_madeCells,g5]
   have g:=q3a w (.cells cs e)
   have key:=g.sim hs (.row e ei.size (List.replicate n.toNat (q4j ei))) (.inr ⟨w.heap.size,cs,by simp[upd],g.new,fun hI=>by have:=hs.Ilt _ hI;omega,by simp[hcs],by simp;omega,fun j el hj=>?_⟩)
   ·refine Y3 (v:=.slice (some ⟨w.heap.size,0,none⟩) n.toNat n.toNat) (w':=w.alloc (.cells cs e)) ?_ (hn _ _ _ _ _ _ h ?_ key.1 key.2)
    ·have hb:(ie.bytes:Int)*n≤281474976710656:=by rw[← g6,Int.mul_comm];omega
     have:=run_make (P:=P) w t e ie ze h2 g1 g3 .i64 .i64 n n k1 (Int.le_refl _) hb (by omega)
     simp[execOp,ho,v1,v2,this,cs]
    ·have:(⟨w.heap.size,0,none⟩:Addr)=⟨w.heap.size,0*ei.size,none⟩:=by simp
     rw[this]
     exact .msl _ _ _ _ _ _ (by simp[upd]) (Nat.le_refl _) ⟨cs,e,(0,0),g.new,by rw[hcs];simp⟩
   ·have hjn:j<n.toNat:=by have:=(List.getElem?_eq_some_iff.1 hj).1;simpa using this
    rw[List.getElem?_replicate,if_pos hjn]at hj
    obtain rfl:=Option.some.inj hj
    refine⟨hzl,fun k u hu=>?_⟩
    have hk:k<ei.size:=by have:=(List.getElem?_eq_some_iff.1 hu).1;omega
    simp only[q4j,g7,List.getElem?_map,Option.map_eq_some_iff]at hu
    obtain⟨y,hy,rfl⟩:=hu
    have hmul:j*ei.size+ei.size≤n.toNat*ei.size:=by rw[← Nat.succ_mul];exact Nat.mul_le_mul_right _ hjn
    have:cs.getD (j*ei.size+k) undef=y:=by
     simp only[cs,madeCells]
     rw[Array.getD_eq_getD_getElem?,Array.getElem?_map,Array.getElem?_range,if_pos (by rw[← g5];omega)]
     simp only[Option.map_some,Option.getD_some]
     rw[hzs,Nat.add_comm,Nat.add_mul_mod_self_right,Nat.mod_eq_of_lt hk,getElem!_pos ze.cells k (by omega)]
     have:=(Array.getElem?_toList (xs:=ze.cells) (i:=k)).symm.trans hy
     rw[Array.getElem?_eq_getElem (by omega)]at this
     exact Option.some.inj this
    rw[this]
    exact .raw y (g8 y (List.mem_of_getElem? hy))
  ·exact h.elim
 ·exact h.elim
theorem z2t {len c:Nat}{A:Option Addr}{t e:TypeId}{ie:TypeInfo}(h2:P.underlying t=some (.slice e))(g1:P.info? e=some ie){lo hi:Option Value}{l h:Int}
 (hlo:match lo with|none=>l=0|some (.int _ n)=>l=n|_=>False) (hhi:match hi with|none=>h=len|some (.int _ n)=>h=n|_=>False) (b:0≤l∧l≤h∧h≤len) (hc:len≤c) (w:World) :
 (Instr.sliceAt t (.slice A len c) lo hi none).run P w=.ok (.slice (if c=l.toNat then A else A.map (·.add (l.toNat*ie.size))) (h.toNat - l.toNat) (c - l.toNat)) w:=by
 obtain⟨b1,b2,b3⟩:=b
 have sb:∀ (k:IntKind) (i:Int) (y:Nat) (code:BoundsCode),0≤i→i≤y→(Instr.sliceBound (.int k i) y code).run P w=.ok i.toNat w:=fun k i y code p q=>run_sliceBound w k i y code p q
 have key:(Instr.sliceBounds true len c lo hi none).run P w=.ok (l.toNat,h.toNat,c) w:=by
  cases lo with
  |none=>
   subst hlo
   cases hi with
   |none=>subst hhi;simp[Instr.sliceBounds]
   |some v=>cases v <;> first|exact hhi.elim|(subst hhi;simp[Instr.sliceBounds,sb,b2,show h≤(c:Int) by omega])
  |some u=>
   cases u <;> first|exact hlo.elim|skip
   subst hlo
   cases hi with
   |none=>subst hhi;simp[Instr.sliceBounds,sb,b1,b2]
   |some v=>cases v <;> first|exact hhi.elim|(subst hhi;simp[Instr.sliceBounds,sb,b1,show (0:Int)≤h by omega,show h≤(c:Int) by omega,show (h.toNat:Int)=h by omega,b2])
 simp[Instr.sliceAt,run_underlying h2,Instr.slice,key,U7 g1]
theorem w7g {s:ByteArray}{t:TypeId}(h2:P.underlying t=some .string){lo hi:Option Value}{l h:Int}
 (hlo:match lo with|none=>l=0|some (.int _ n)=>l=n|_=>False) (hhi:match hi with|none=>h=s.size|some (.int _ n)=>h=n|_=>False) (b:0≤l∧l≤h∧h≤s.size) (w:World) :
 (Instr.sliceAt t (.string s) lo hi none).run P w=.ok (.string (s.extract l.toNat h.toNat)) w:=by
 obtain⟨b1,b2,b3⟩:=b
 have sb:∀ (k:IntKind) (i:Int) (y:Nat) (code:BoundsCode),0≤i→i≤y→(Instr.sliceBound (.int k i) y code).run P w=.ok i.toNat w:=fun k i y code p q=>run_sliceBound w k i y code p q
 have key:(Instr.sliceBounds false s.size s.size lo hi none).run P w=.ok (l.toNat,h.toNat,s.size) w:=by
  cases lo with
  |none=>
   subst hlo
   cases hi with
   |none=>subst hhi;simp[Instr.sliceBounds]
   |some v=>cases v <;> first|exact hhi.elim|(subst hhi;simp[Instr.sliceBounds,sb,b2,b3])
  |some u=>
   cases u <;> first|exact hlo.elim|skip
   subst hlo
   cases hi with
   |none=>subst hhi;simp[Instr.sliceBounds,sb,b1,b2]
   |some v=>cases v <;> first|exact hhi.elim|(subst hhi;simp[Instr.sliceBounds,sb,b1,b3,show (0:Int)≤h by omega,show (h.toNat:Int)=h by omega,b2])
 simp[Instr.sliceAt,run_underlying h2,Instr.slice,key]
theorem q2v {x:Option Operand}{d:Nat}{l:Int}(hx:∀ y,x=some y→ARep w I ι (ev y) (a.eval y))(h:q2e d (x.map ev)=some l):match x.map a.eval with|none=>l=d|some (.int _ n)=>l=n|_=>False:=by
 cases x with
 |none=>simp[q2e]at h;exact h.symm
 |some y=>
  have hy:=hx y rfl
  simp only[Option.map_some]at h ⊢
  unfold q2e at h
  split at h
  ·rename_i he;simp at he
  ·rename_i k n he
   injection he with he
   rw[he]at hy
   rw[Z0 hy]
   exact(Option.some.inj h).symm
  ·exact absurd h (by simp)
theorem q6r {t:TypeId}{x:Operand}{lo hi:Option Operand}{v r:Value}(ho:o.op=.slice t x lo hi none)(hv:a.eval x=v)
 (hrun:(Instr.sliceAt t v (lo.map a.eval) (hi.map a.eval) none).run P w=.ok r w):(execOp a.eval o).run P w=.ok (.value r) w:=by
 simp only[execOp,ho,hv,Option.map_none,Sem.run_bind,hrun]
 rfl
theorem v2d {t:TypeId}{x:Operand}{lo hi mx:Option Operand}(hT:TOk P T)(ho:o.op=.slice t x lo hi mx)(hs:SimH w I ι H)(hx:ARep w I ι (ev x) (a.eval x))
 (hlo:∀ y,lo=some y→ARep w I ι (ev y) (a.eval y)) (hhi:∀ y,hi=some y→ARep w I ι (ev y) (a.eval y))
 (h:chk mx.isNone (Y8 (T t) fun ti=>match ti.d with
 |.slice e=>Y8 (T e) fun ei=>y3x ei.size (ev x) (lo.map ev) (hi.map ev) fun u=>K u H
 |.string=>match ev x with
  |.p (.raw (.string s))=>Y8 (q2e 0 (lo.map ev)) fun l=>Y8 (q2e s.size (hi.map ev)) fun h=>
   (0≤l∧l≤h∧h≤s.size)∧K (.p (.raw (.string (s.extract l.toNat h.toNat)))) H
  |_=>False
 |_=>False)) (hn:Nx w I ι H K fun v w'=>next (a.put o.dst v) w'):o.wp P a w next Q:=by
 replace h:=V8 h
 obtain⟨q,h⟩:=h
 have q:mx=none:=by simpa using q
 subst q
 replace h:=X3 h
 obtain⟨ti,hti,h⟩:=h
 obtain⟨i,d,z,h1,h2,h3,h4,h5,h6,h7,h8⟩:=tok hT hti
 split at h
 ·rename_i e he
  replace h:=X3 h
  obtain⟨ei,hei,h⟩:=h
  obtain⟨ie,de,ze,g1,g2,g3,g4,g5,g6,g7,g8⟩:=tok hT hei
  rw[he]at h4
  obtain rfl:=J8 h4
  unfold y3x at h
  split at h
  ·rename_i sz' xs hxe
   replace h:=V8 h
   obtain⟨c1,h⟩:=h
   have c1:sz'=ei.size:=of_decide_eq_true c1
   subst c1
   replace h:=X3 h
   obtain⟨l,hl,h⟩:=h
   replace h:=X3 h
   obtain⟨hh,hhh,h⟩:=h
   obtain⟨b,h⟩:=h
   rw[hxe]at hx
   generalize hv:a.eval x=v at hx
   cases z1d hx with
   |sl sz xs A c f hc hlen hA hr=>
    have hrun:=z2t (A:=A) (c:=c) h2 g1 (q2v hlo hl) (q2v hhi hhh) b hc w
    refine Y3 (w':=w) (q6r ho hv hrun) (hn.here hs h ?_)
    have hlenr:((xs.take hh.toNat).drop l.toNat).length=hh.toNat - l.toNat:=by simp;omega
    have hget:∀ (j:Nat) (e:List PV),((xs.take hh.toNat).drop l.toNat)[j]?=some e→xs[l.toNat+j]?=some e:=fun j e hj=>by
     rw[List.getElem?_drop]at hj
     rw[List.getElem?_take_of_lt (by have:=(List.getElem?_eq_some_iff.1 hj).1;simp at this;omega)]at hj
     exact hj
    rw[← hlenr]
    refine .p (.sl ei.size _ _ _ (fun j k=>f (l.toNat+j) k) (by rw[hlenr];omega) (by rw[hlenr];omega) ?_ (fun j e i u h1 h2=>hr (l.toNat+j) e i u (hget j e h1) h2))
    by_cases hem:(xs.take hh.toNat).drop l.toNat=[]
    ·exact .inl hem
    ·have hne:l.toNat<hh.toNat:=by
      rcases Nat.lt_or_ge l.toNat hh.toNat with h|h
      ·exact h
      ·exact absurd (List.length_eq_zero_iff.1 (by rw[hlenr];omega)) hem
     rcases hA with hA|⟨bb,oo,hA1,hA2,hA3⟩
     ·subst hA;simp at hem
     ·refine .inr ⟨bb,oo+l.toNat*ei.size,?_,hA2,fun j e hj=>?_⟩
      ·subst hA1
       rw[if_neg (by omega),← g5]
       simp only[Option.map_some]
       rw[Addr.add_mid]
      ·obtain⟨r1,r2⟩:=hA3 (l.toNat+j) e (hget j e hj)
       refine⟨r1,fun i hi=>?_⟩
       have:=r2 i hi
       rw[Nat.add_mul,← Nat.add_assoc]at this
       exact this
  ·rename_i b sz' off len hxe
   replace h:=V8 h
   obtain⟨c1,h⟩:=h
   have c1:sz'=ei.size:=of_decide_eq_true c1
   subst c1
   replace h:=X3 h
   obtain⟨l,hl,h⟩:=h
   replace h:=X3 h
   obtain⟨hh,hhh,h⟩:=h
   obtain⟨bd,h⟩:=h
   rw[hxe]at hx
   generalize hv:a.eval x=v at hx
   cases hx with
   |msl _ _ _ _ B c hB hc hsz=>
    have hrun:=z2t (A:=some ⟨B,off*ei.size,none⟩) (c:=c) h2 g1 (q2v hlo hl) (q2v hhi hhh) bd hc w
    refine Y3 (w':=w) (q6r ho hv hrun) (hn.here hs h ?_)
    by_cases hcl:c=l.toNat
    ·rw[if_pos hcl]
     have e1:hh.toNat - l.toNat=0:=by omega
     have e2:c - l.toNat=0:=by omega
     rw[e1,e2]
     exact .msl0 _ _ _ _
    ·rw[if_neg hcl]
     simp only[Option.map_some]
     rw[Addr.add_mid,← g5,← Nat.add_mul]
     obtain⟨cs,tt,fr,k1,k2⟩:=hsz
     refine .msl _ _ _ _ _ _ hB (by omega) ⟨cs,tt,fr,k1,?_⟩
     have:off+l.toNat+(c - l.toNat)=off+c:=by omega
     rw[this];exact k2
   |msl0 _ _ _ A=>
    have hrun:=z2t (A:=A) (c:=0) h2 g1 (q2v hlo hl) (q2v hhi hhh) bd (Nat.le_refl _) w
    refine Y3 (w':=w) (q6r ho hv hrun) (hn.here hs h ?_)
    have e1:hh.toNat - l.toNat=0:=by omega
    rw[e1,Nat.zero_sub]
    exact .msl0 _ _ _ _
  ·rename_i hxe
   replace h:=X3 h
   obtain⟨l,hl,h⟩:=h
   replace h:=X3 h
   obtain⟨hh,hhh,h⟩:=h
   obtain⟨⟨hl0,hh0⟩,h⟩:=h
   subst hl0
   subst hh0
   rw[hxe]at hx
   have hv:=Z0 hx
   have hrun:=z2t (A:=none) (len:=0) (c:=0) h2 g1 (q2v hlo hl) (q2v hhi hhh) ⟨Int.le_refl _,Int.le_refl _,by simp⟩ (Nat.le_refl _) w
   refine Y3 (w':=w) (q6r ho hv hrun) (hn.here hs h ?_)
   simp only[Int.toNat_zero,if_true,Nat.sub_zero]
   exact .p (.raw _ rfl)
  ·exact h.elim
 ·rename_i he
  rw[he]at h4
  obtain rfl:=q7m h4
  split at h
  ·rename_i s hxe
   replace h:=X3 h
   obtain⟨l,hl,h⟩:=h
   replace h:=X3 h
   obtain⟨hh,hhh,h⟩:=h
   obtain⟨bd,h⟩:=h
   rw[hxe]at hx
   have hv:=Z0 hx
   exact Y3 (w':=w) (q6r ho hv (w7g h2 (q2v hlo hl) (q2v hhi hhh) bd w)) (hn.here hs h (.p (.raw _ rfl)))
  ·exact h.elim
 ·exact h.elim
theorem x3e {t:TypeId}{x y:Operand}(hT:TOk P T)(ho:o.op=.indexAddr t x y)(hs:SimH w I ι H)(hx:ARep w I ι (ev x) (a.eval x))(hy:ARep w I ι (ev y) (a.eval y))
 {C:CallA} (h:aop P T C ev H K (.indexAddr t x y)) (hn:Nx w I ι H K fun v w'=>next (a.put o.dst v) w'):o.wp P a w next Q:=by
 simp only[aop,opV,U1,List.map_cons,List.map_nil,on2]at h
 replace h:=X3 h
 obtain⟨ti,hti,h⟩:=h
 obtain⟨i,d,z,h1,h2,h3,h4,h5,h6,h7,h8⟩:=tok hT hti
 split at h
 ·rename_i e he
  replace h:=X3 h
  obtain⟨ei,hei,h⟩:=h
  obtain⟨ie,de,ze,g1,g2,g3,g4,g5,g6,g7,g8⟩:=tok hT hei
  rw[he]at h4
  obtain rfl:=J8 h4
  unfold z8i at h
  split at h
  ·rename_i k n hye
   rw[hye]at hy
   have hvy:=Z0 hy
   split at h
   ·rename_i sz' xs hd hxe
    replace h:=V8 h
    obtain⟨c1,h⟩:=h
    have c1:sz'=ei.size:=of_decide_eq_true c1
    subst c1
    obtain⟨c2,h⟩:=h
    replace h:=X3 h
    obtain⟨el,hel,h⟩:=h
    rw[hxe]at hx
    generalize hv:a.eval x=v at hx
    have hlt:n.toNat<xs.length:=(List.getElem?_eq_some_iff.1 hel).1
    cases z1d hx with
    |sl sz xs A c f hc hlen hA hr=>
     rcases hA with hA|⟨bb,oo,hA1,hA2,hA3⟩
     ·subst hA;simp at hel
     ·subst hA1
      obtain⟨r1,r2⟩:=hA3 n.toNat el hel
      refine Y3 (v:=.pointer (some ⟨bb,oo+n.toNat*ei.size,none⟩)) (w':=w) ?_ (hn.here hs h ?_)
      ·have hb:(0:Int)≤n∧n<(xs.length:Int):=⟨c2,by omega⟩
       simp[execOp,ho,hv,hvy,Instr.indexAt,asIntOf,run_underlying h2,hb,U7 g1,← g5,Addr.add_mid]
      ·exact .p (.box el bb _ (fun i=>f n.toNat i) hA2 (fun i hi=>r2 i (by omega)) (fun i u hu=>hr n.toNat el i u hel hu))
   ·rename_i b sz' off len hd hxe
    replace h:=V8 h
    obtain⟨c1,h⟩:=h
    have c1:sz'=ei.size:=of_decide_eq_true c1
    subst c1
    obtain⟨⟨c2,c3⟩,h⟩:=h
    rw[hxe]at hx
    generalize hv:a.eval x=v at hx
    cases hx with
    |msl _ _ _ _ B c hB hc hsz=>
     refine Y3 (v:=.pointer (some ⟨B,(off+n.toNat)*ei.size+0,none⟩)) (w':=w) ?_ (hn.here hs h (.elr _ _ _ _ _ hB))
     have hb:(0:Int)≤n∧n<(len:Int):=⟨c2,c3⟩
     simp[execOp,ho,hv,hvy,Instr.indexAt,asIntOf,run_underlying h2,hb,U7 g1,← g5,Addr.add_mid,Nat.add_mul]
    |msl0 _ _ _ A=>omega
   ·rename_i hd _;simp at hd
   ·rename_i hd _;simp at hd
   ·rename_i hd _;simp at hd
   ·exact h.elim
  ·exact h.elim
 ·rename_i N e he
  replace h:=X3 h
  obtain⟨ei,hei,h⟩:=h
  obtain⟨ie,de,ze,g1,g2,g3,g4,g5,g6,g7,g8⟩:=tok hT hei
  rw[he]at h4
  obtain rfl:=q9r h4
  unfold z8i at h
  split at h
  ·rename_i k n hye
   rw[hye]at hy
   have hvy:=Z0 hy
   split at h
   ·rename_i hd _;simp at hd
   ·rename_i hd _;simp at hd
   ·rename_i N' e' b off hd hxe
    injection hd with hd1 hd2
    subst hd1
    obtain⟨⟨c2,c3⟩,h⟩:=h
    rw[hxe]at hx
    generalize hv:a.eval x=v at hx
    cases hx with
    |ref _ _ B hB=>
     refine Y3 (v:=.pointer (some ⟨B,off+n.toNat*ei.size,none⟩)) (w':=w) ?_ (hn.here hs h (.ref _ _ _ hB))
     have hb:(0:Int)≤n∧n<(N:Int):=⟨c2,c3⟩
     simp[execOp,ho,hv,hvy,Instr.indexAt,asIntOf,run_underlying h2,Instr.sureAddr,hb,U7 g1,← g5,Addr.add_mid]
   ·rename_i N' e' cs hd hxe
    injection hd with hd1 hd2
    subst hd1
    obtain⟨⟨c2,c3⟩,h⟩:=h
    rw[hxe]at hx
    obtain⟨u,ad,k1,k2,k3⟩:=x0c (x:=.p (.box cs)) (n:=n.toNat*ei.size) (K:=fun u=>K u H) h hx
    refine Y3 (v:=.pointer (some (ad.add (n.toNat*ei.size)))) (w':=w) ?_ (hn.here hs k1 k3)
    have hb:(0:Int)≤n∧n<(N:Int):=⟨c2,c3⟩
    simp[execOp,ho,k2,hvy,Instr.indexAt,asIntOf,run_underlying h2,Instr.sureAddr,hb,U7 g1,← g5]
   ·rename_i N' e' b sz' r off hd hxe
    injection hd with hd1 hd2
    subst hd1
    replace h:=V8 h
    obtain⟨c1,h⟩:=h
    rw[Bool.and_eq_true]at c1
    have c0:sz'=ei.size:=of_decide_eq_true c1.1
    have c5:off=0:=of_decide_eq_true c1.2
    clear c1
    subst c0
    subst c5
    obtain⟨⟨c2,c3⟩,h⟩:=h
    rw[hxe]at hx
    generalize hv:a.eval x=v at hx
    cases hx with
    |elr _ _ _ _ B hB=>
     refine Y3 (v:=.pointer (some ⟨B,(r+n.toNat)*ei.size+0,none⟩)) (w':=w) ?_ (hn.here hs h (.elr _ _ _ _ _ hB))
     have hb:(0:Int)≤n∧n<(N:Int):=⟨c2,c3⟩
     simp[execOp,ho,hv,hvy,Instr.indexAt,asIntOf,run_underlying h2,Instr.sureAddr,hb,U7 g1,← g5,Addr.add_mid,Nat.add_mul]
   ·exact h.elim
  ·exact h.elim
 ·exact h.elim
end
end Go.Proofs.YtinfbclgkghgaaaGreat.AL
namespace Go.Proofs.YtinfbclgkghgaaaGreat.AL
open Go Go.RowKit
section
variable {P:Program} {T:V7} {w:World} {I:Nat→Prop} {ι:Nat→Option Nat} {H:List ABlk}
def RowVals (w:World)(I:Nat→Prop)(sz:Nat)(ys:List (List PV))(vs:List Value):Prop:=
 vs.length=ys.length*sz∧∀ j e,ys[j]?=some e→e.length=sz∧∀ i u,e[i]?=some u→PRep w I u (vs.getD (j*sz+i) undef)
theorem RowVals.one {sz:Nat}{ys:List (List PV)}{vs:List Value}(h:RowVals w I sz ys vs)(h0:0<sz):∀ u∈vs,u.oneCell'=true:=by
 intro u hu
 obtain⟨k,hk,rfl⟩:=List.getElem_of_mem hu
 have hk':k<ys.length*sz:=by rw[← h.1];exact hk
 have hj:k / sz<ys.length:=by rw[Nat.div_lt_iff_lt_mul h0];exact hk'
 obtain⟨r1,r2⟩:=h.2 (k / sz) _ (List.getElem?_eq_getElem hj)
 have hm:k % sz<sz:=Nat.mod_lt _ h0
 have:=(r2 (k % sz) _ (List.getElem?_eq_getElem (by rw[r1];exact hm))).one
 rw[Nat.div_add_mod' k sz]at this
 rw[List.getD_eq_getElem?_getD,List.getElem?_eq_getElem hk]at this
 exact this
theorem RowVals.append {sz:Nat}{xs ys:List (List PV)}{us vs:List Value}(h:RowVals w I sz xs us)(k:RowVals w I sz ys vs):RowVals w I sz (xs++ys) (us++vs):=by
 refine⟨by simp[h.1,k.1,Nat.add_mul],fun j e hj=>?_⟩
 rcases Nat.lt_or_ge j xs.length with hlt|hge
 ·rw[List.getElem?_append_left hlt]at hj
  obtain⟨r1,r2⟩:=h.2 j e hj
  refine⟨r1,fun i u hu=>?_⟩
  have hi:i<sz:=by rw[← r1];exact(List.getElem?_eq_some_iff.1 hu).1
  have hmul:j*sz+sz≤xs.length*sz:=by rw[← Nat.succ_mul];exact Nat.mul_le_mul_right _ hlt
  have:=r2 i u hu
  rw[List.getD_eq_getElem?_getD]at this ⊢
  rw[List.getElem?_append_left (by rw[h.1];omega)]
  exact this
 ·rw[List.getElem?_append_right hge]at hj
  obtain⟨r1,r2⟩:=k.2 _ e hj
  refine⟨r1,fun i u hu=>?_⟩
  have:=r2 i u hu
  obtain⟨d,rfl⟩:∃ d,j=xs.length+d:=⟨j - xs.length,by omega⟩
  rw[List.getD_eq_getElem?_getD]at this ⊢
  rw[Nat.add_mul,Nat.add_assoc,List.getElem?_append_right (by rw[h.1];omega),h.1]
  rw[show xs.length*sz+(d*sz+i) - xs.length*sz=(xs.length+d - xs.length)*sz+i by
   rw[Nat.add_sub_cancel_left,Nat.add_sub_cancel_left]]
  exact this
theorem RowVals.move {w':World}{I':Nat→Prop}{sz:Nat}{ys:List (List PV)}{vs:List Value}(hw:∀ B,I B→w'.heap[B]?=w.heap[B]?)(hI:∀ B,I B→I' B)(h:RowVals w I sz ys vs):RowVals w' I' sz ys vs:=
 ⟨h.1,fun j e hj=>⟨(h.2 j e hj).1,fun i u hu=>((h.2 j e hj).2 i u hu).move hw hI⟩⟩
theorem z8n {size:Nat}{tx e':TypeId}(hk:P.underlying tx=some (.slice e'))(A:Option Addr)(c:Nat)(w:World):Src P size tx (.slice A 0 c) 0 [] w:=by
 refine⟨.inl ⟨e',hk⟩,fun _=>rfl,?_,?_,by simp,fun _ h=>by cases h⟩ <;> cases A <;> simp[Builtin.firstCells,loadCells,loadCellsFrom]
theorem x6p {sz:Nat}{xs:List (List PV)}{cs:Array Value}(h4:xs.length*sz≤cs.size)
 (h6:∀ j e,xs[j]?=some e→e.length=sz∧∀ i u,e[i]?=some u→PRep w I u (cs.getD (j*sz+i) undef)) {off len:Nat} (hle:off+len≤xs.length) :
 RowVals w I sz ((xs.drop off).take len) ((cs.toList.drop (off*sz)).take (len*sz)):=by
 have hmul:(off+len)*sz≤xs.length*sz:=Nat.mul_le_mul_right _ hle
 rw[Nat.add_mul]at hmul
 refine⟨?_,fun j e hj=>?_⟩
 ·simp only[List.length_take,List.length_drop,Array.length_toList]
  rw[Nat.min_eq_left (by omega),Nat.min_eq_left (by omega)]
 ·obtain⟨hjl,hj⟩:=q2u _ _ _ _ _ hj
  obtain⟨r1,r2⟩:=h6 _ e hj
  refine⟨r1,fun i u hu=>?_⟩
  have hi:i<sz:=by rw[← r1];exact(List.getElem?_eq_some_iff.1 hu).1
  have:=r2 i u hu
  have hm:j*sz+sz≤len*sz:=by rw[← Nat.succ_mul];exact Nat.mul_le_mul_right _ hjl
  rw[List.getD_eq_getElem?_getD,List.getElem?_take_of_lt (by omega),List.getElem?_drop]
  rw[Array.getD_eq_getD_getElem?,Nat.add_mul,Nat.add_assoc,← Array.getElem?_toList]at this
  exact this
theorem y4e {tx e':TypeId}(hk:P.underlying tx=some (.slice e')){sz:Nat}(h0:0<sz){x:AV}{v:Value}{ys:List (List PV)}(hs:SimH w I ι H)(h:z5i H sz x=some ys)(hx:ARep w I ι x v) :
 ∃ news,Src P sz tx v ys.length news w∧RowVals w I sz ys news:=by
 have made:∀ (ad:Addr) (c:Nat) (news:List Value),RowVals w I sz ys news→(∀ j u,news[j]?=some u→w.cell? (ad.add j)=some u)→∃ news,Src P sz tx (.slice (some ad) ys.length c) ys.length news w∧RowVals w I sz ys news:=
  fun ad c news hr hc=>⟨news,Src.ofSlice w hk ad ys.length c news hr.1 hc (hr.one h0),hr⟩
 unfold z5i at h
 split at h
 ·rename_i sz' xs
  split at h
  ·rename_i hsz
   have hsz:sz'=sz:=of_decide_eq_true hsz
   subst hsz
   obtain rfl:=Option.some.inj h
   cases z1d hx with
   |sl sz xs A c f hc hlen hA hr=>
    rcases hA with hA|⟨b,o,rfl,hI,hcell⟩
    ·subst hA
     exact⟨[],z8n hk A c w,by simp,fun j e hj=>by simp at hj⟩
    ·refine made ⟨b,o,none⟩ c ((List.range (xs.length*sz')).map fun k=>f (k / sz') (k % sz')) ⟨by simp,fun j e hj=>?_⟩ (fun k u hu=>?_)
     ·obtain⟨r1,r2⟩:=hcell j e hj
      refine⟨r1,fun i u hu=>?_⟩
      have hi:i<sz':=by rw[← r1];exact(List.getElem?_eq_some_iff.1 hu).1
      have hjl:j<xs.length:=(List.getElem?_eq_some_iff.1 hj).1
      have hmul:j*sz'+sz'≤xs.length*sz':=by rw[← Nat.succ_mul];exact Nat.mul_le_mul_right _ hjl
      rw[List.getD_eq_getElem?_getD,List.getElem?_map,List.getElem?_range (by omega)]
      simp only[Option.map_some,Option.getD_some]
      have e1:(j*sz'+i) / sz'=j:=by rw[Nat.mul_comm,Nat.mul_add_div h0,Nat.div_eq_of_lt hi];simp
      have e2:(j*sz'+i) % sz'=i:=by rw[Nat.add_comm,Nat.add_mul_mod_self_right,Nat.mod_eq_of_lt hi]
      rw[e1,e2]
      exact hr j e i u hj hu
     ·simp only[List.getElem?_map,Option.map_eq_some_iff]at hu
      obtain⟨k',hk',rfl⟩:=hu
      obtain⟨hlt,he⟩:=List.getElem?_eq_some_iff.1 hk'
      simp at hlt he;subst he
      have hjl:k / sz'<xs.length:=by rw[Nat.div_lt_iff_lt_mul h0];exact hlt
      have:=(hcell (k / sz') _ (List.getElem?_eq_getElem hjl)).2 (k % sz') (Nat.mod_lt _ h0)
      rw[Nat.add_assoc,Nat.div_add_mod' k sz']at this
      rw[Addr.add_mid];exact this
  ·exact absurd h (by simp)
 ·rename_i b sz' off len
  split at h
  ·rename_i t sz'' xs hb
   split at h
   ·rename_i hc
    simp only[Bool.and_eq_true,beq_iff_eq]at hc
    obtain⟨⟨c1,c2⟩,c3⟩:=hc
    subst c1
    subst c2
    have c3:=Nat.le_of_ble_eq_true c3
    obtain rfl:=Option.some.inj h
    have hylen:((xs.drop off).take len).length=len:=by simp;omega
    cases hx with
    |msl _ _ _ _ B c hB hcc hsz=>
     rcases hs.blk b _ (Z8 hb rfl) with ⟨_,g1⟩|⟨B',cs,g1,g2,g3,g4,gl,g6⟩
     ·rw[g1]at hB;exact absurd hB (by simp)
     ·rw[g1]at hB;obtain rfl:=Option.some.inj hB
      have hr:=x6p (w:=w) (I:=I) g4 g6 c3
      have:=made ⟨B',off*sz'',none⟩ c _ hr (fun k u hu=>by
       obtain⟨_,hu⟩:=q2u _ _ _ _ _ hu
       rw[Addr.add_mid,cell_of_row w B' _ cs t (0,0) g2,← Array.getElem?_toList]
       exact hu)
      rw[hylen]at this ⊢
      exact this
    |msl0 _ _ _ A=>
     refine⟨[],?_,by simp,fun j e hj=>by simp at hj⟩
     rw[hylen];exact z8n hk A 0 w
   ·exact absurd h (by simp)
  ·exact absurd h (by simp)
 ·obtain rfl:=Option.some.inj h
  have:=Z0 hx
  subst this
  exact⟨[],z8n hk none 0 w,by simp,fun j e hj=>by simp at hj⟩
 ·exact absurd h (by simp)
theorem SimH.kill (hs:SimH w I ι H)(b:Nat):SimH w I ι (H.set b .dead)∧Ex H.length w I ι H w I ι (H.set b .dead):=by
 have hlive:∀ c,live (H.set b .dead) c→live H c:=fun c hc=>by
  obtain⟨k,hk,hl⟩:=hc
  by_cases e:c=b
  ·subst e
   rw[List.getElem?_set]at hk
   simp at hk
   obtain⟨_,rfl⟩:=hk
   simp[ABlk.live]at hl
  ·rw[List.getElem?_set_ne (by omega)]at hk
   exact⟨k,hk,hl⟩
 refine⟨⟨fun c k hk=>?_,fun c c' B hc hc'=>hs.inj c c' B (hlive c hc) (hlive c' hc'),hs.Ilt,fun c hc=>hs.dom c (by simpa using hc),hs.rng⟩,⟨⟨rfl,rfl,rfl,Nat.le_refl _,Shape.refl w,fun _ h=>h,fun _ _ _=>rfl,fun _ h=>.inl h,fun c B hc h=>.inr ⟨c,hlive c hc,h⟩⟩,fun _ _=>rfl,by simp⟩⟩
 by_cases e:c=b
 ·subst e
  rw[List.getElem?_set]at hk
  simp at hk
  obtain⟨_,rfl⟩:=hk
  trivial
 ·rw[List.getElem?_set_ne (by omega)]at hk
  exact hs.blk c k hk
theorem SimH.phantom (hs:SimH w I ι H)(e:TypeId)(sz:Nat):SimH w I ι (H++[.row e sz []])∧Ex H.length w I ι H w I ι (H++[.row e sz []]):=by
 have hn:ι H.length=none:=hs.dom _ (Nat.le_refl _)
 refine⟨⟨fun b k hb=>?_,fun b b' B hb hb' h1 h2=>?_,hs.Ilt,fun b hb=>hs.dom b (by simp at hb;omega),hs.rng⟩,⟨⟨rfl,rfl,rfl,Nat.le_refl _,Shape.refl w,fun _ h=>h,fun _ _ _=>rfl,fun _ h=>.inl h,fun b B hb h=>?_⟩,fun _ _=>rfl,by simp⟩⟩
 ·rcases Nat.lt_or_ge b H.length with hlt|hge
  ·rw[List.getElem?_append_left hlt]at hb;exact hs.blk b k hb
  ·have hbl:b=H.length:=by
    have:=(List.getElem?_eq_some_iff.1 hb).1
    simp only[List.length_append,List.length_cons,List.length_nil]at this
    omega
   subst hbl
   rw[U3]at hb
   obtain rfl:=Option.some.inj hb
   exact .inl ⟨rfl,hn⟩
 ·rcases q1c hb with hb|rfl
  ·rcases q1c hb' with hb'|rfl
   ·exact hs.inj b b' B hb hb' h1 h2
   ·rw[hn]at h2;exact absurd h2 (by simp)
  ·rw[hn]at h1;exact absurd h1 (by simp)
 ·rcases q1c hb with hb|rfl
  ·exact .inr ⟨b,hb,h⟩
  ·rw[hn]at h;exact absurd h (by simp)
theorem Wrote.moved {w':World}{b B:Nat}{t:TypeId}{cs cs':Array Value}(g:Wrote w w' B)(hs:SimH w I ι H)(hb:live H b)(hι:ι b=some B)
 (h0:w.heap[B]?=some (.cells cs t (0,0))) (h1:w'.heap[B]?=some (.cells cs' t (0,0))) (hsz:cs'.size=cs.size) (k:ABlk) (hk:z5h w' I (upd ι H.length B) H.length k) :
 SimH w' I (upd ι H.length B) (H.set b .dead++[k])∧Ex H.length w I ι H w' I (upd ι H.length B) (H.set b .dead++[k]):=by
 obtain⟨s1,x1⟩:=g.sim hs hb hι h0 h1 hsz .dead trivial
 have hlen:(H.set b .dead).length=H.length:=by simp
 have hBl:B<w'.heap.size:=s1.rng b B hι
 have hold:∀ c,c<H.length→upd ι H.length B c=ι c:=fun c hc=>by unfold upd;rw[if_neg (by omega)]
 have hmono:∀ c C,ι c=some C→upd ι H.length B c=some C:=fun c C hc=>by
  rw[hold c];exact hc
  rcases Nat.lt_or_ge c H.length with h|h
  ·exact h
  ·rw[hs.dom c h]at hc;exact absurd hc (by simp)
 have hnl:∀ c,live (H.set b .dead) c→c≠b:=fun c hc e=>by
  subst e
  obtain⟨k',hk',hl⟩:=hc
  rw[List.getElem?_set_self (V9 hb)]at hk'
  obtain rfl:=Option.some.inj hk'
  simp[ABlk.live]at hl
 have hne:∀ c,live (H.set b .dead) c→ι c≠some B:=fun c hc e=>hnl c hc (hs.inj c b B (q1p hc hb) hb e hι)
 have hnew:upd ι H.length B H.length=some B:=by simp[upd]
 have hsh:Shape w' w':=Shape.refl _
 constructor
 ·refine⟨fun c kc hc=>?_,fun c c' C hc hc' h2 h3=>?_,s1.Ilt,fun c hc=>?_,fun c C hc=>?_⟩
  ·rcases Nat.lt_or_ge c H.length with hlt|hge
   ·rw[List.getElem?_append_left (by omega)]at hc
    have h2:=s1.blk c kc hc
    cases kc with
    |dead=>trivial
    |cells t l=>
     obtain⟨C,ds,g1,g2,g3,g4,g5⟩:=h2
     exact⟨C,ds,hmono c C g1,g2,g3,g4,fun i u hu=>(g5 i u hu).move (fun _ _=>rfl) (fun _ h=>h) hmono hsh⟩
    |lp q st pe l=>
     obtain⟨C,ds,g1,g2,g3,g4,g5⟩:=h2
     exact⟨C,ds,hmono c C g1,g2,g3,g4,fun i u hu=>(g5 i u hu).move (fun _ _=>rfl) (fun _ h=>h) hmono hsh⟩
    |row t sz xs=>
     rcases h2 with ⟨g1,g2⟩|⟨C,ds,g1,g2⟩
     ·exact .inl ⟨g1,by rw[hold c hlt];exact g2⟩
     ·exact .inr ⟨C,ds,hmono c C g1,g2⟩
    |obj o=>
     obtain⟨g0,C,g1,g2,g3⟩:=h2
     exact⟨g0,C,hmono c C g1,g2,g3⟩
   ·have hcl:c=H.length:=by
     have:=(List.getElem?_eq_some_iff.1 hc).1
     simp only[List.length_append,List.length_cons,List.length_nil,hlen]at this
     omega
    subst hcl
    have:(H.set b .dead++[k])[H.length]?=some k:=by
     have:=U3 (H.set b .dead) k
     rw[hlen]at this;exact this
    rw[this]at hc
    obtain rfl:=Option.some.inj hc
    exact hk
  ·have e1:∀ c,live (H.set b .dead++[k]) c→live (H.set b .dead) c∨c=H.length:=fun c hc=>by
    have:=q1c hc;rw[hlen]at this;exact this
   rcases e1 c hc with hc|rfl <;> rcases e1 c' hc' with hc'|rfl
   ·rw[hold c (by have:=V9 hc;omega)]at h2;rw[hold c' (by have:=V9 hc';omega)]at h3
    exact s1.inj c c' C hc hc' h2 h3
   ·rw[hold c (by have:=V9 hc;omega)]at h2;rw[hnew]at h3
    obtain rfl:=Option.some.inj h3
    exact absurd h2 (hne c hc)
   ·rw[hold c' (by have:=V9 hc';omega)]at h3;rw[hnew]at h2
    obtain rfl:=Option.some.inj h2
    exact absurd h3 (hne c' hc')
   ·rfl
  ·simp only[List.length_append,List.length_cons,List.length_nil,hlen]at hc
   unfold upd;rw[if_neg (by omega)];exact hs.dom c (by omega)
  ·unfold upd at hc
   split at hc
   ·obtain rfl:=Option.some.inj hc;exact hBl
   ·exact s1.rng c C hc
 ·have x:=x1.ext
  refine⟨⟨x.os,x.tape,x.output,x.size,x.shape,x.Isub,x.frame,x.Inew,fun c C hc h2=>?_⟩,fun c hc=>hold c hc,by simp⟩
  have e1:=q1c hc
  rw[hlen]at e1
  rcases e1 with hc|rfl
  ·rw[hold c (by have:=V9 hc;omega)]at h2;exact x.own c C hc h2
  ·rw[hnew]at h2;obtain rfl:=Option.some.inj h2;exact .inr ⟨b,hb,hι⟩
theorem z8p {b B:Nat}{e:TypeId}{sz:Nat}{xs:List (List PV)}{vs:List Value}{cs:Array Value}(hι:ι b=some B)(hh:w.heap[B]?=some (.cells cs e (0,0)))(hnI:¬ I B)(hr:RowVals w I sz xs vs)
 (hl:xs.length≤140737488355328) (hle:xs.length*sz≤cs.size) (hcs:∀ k,k<xs.length*sz→cs.getD k undef=vs.getD k undef):z5h w I ι b (.row e sz xs):=by
 refine .inr ⟨B,cs,hι,hh,hnI,hle,hl,fun j el hj=>?_⟩
 obtain⟨r1,r2⟩:=hr.2 j el hj
 refine⟨r1,fun i u hu=>?_⟩
 have hi:i<sz:=by rw[← r1];exact(List.getElem?_eq_some_iff.1 hu).1
 have hmul:j*sz+sz≤xs.length*sz:=by rw[← Nat.succ_mul];exact Nat.mul_le_mul_right _ (List.getElem?_eq_some_iff.1 hj).1
 rw[hcs _ (by omega)]
 exact r2 i u hu
end
end Go.Proofs.YtinfbclgkghgaaaGreat.AL
namespace Go.Proofs.YtinfbclgkghgaaaGreat.AL
open Go Go.RowKit
section
variable {P:Program} {T:V7} {w:World} {I:Nat→Prop} {ι:Nat→Option Nat} {H:List ABlk} {K:AV→List ABlk→Prop} {o:Oper} {a:Act} {next:Act→World→Prop} {Q:Exit→Act→World→Prop} {ev:Operand→AV}
theorem y4f (us zs:List Value)(k:Nat)(h:k<us.length):(us.toArray++zs.toArray).getD k undef=us.getD k undef:=by
 rw[V2,List.getD_eq_getElem?_getD,List.getD_eq_getElem?_getD]
 simp only[Array.toList_append]
 rw[List.getElem?_append_left (by simpa using h)]
theorem w5h {t e:TypeId}{ie:TypeInfo}{ze:Value}(ht:P.underlying t=some (.slice e))(g1:P.info? e=some ie)(g3:ie.zero=some ze)(hs:SimH w I ι H){xs ys:List (List PV)}{us vs:List Value}{A:Option Addr}{c:Nat}{x:Value}{ty:TypeId}
 (hx:RowVals w I ie.size xs us) (hy:RowVals w I ie.size ys vs) (hzs:ze.cells.size=ie.size) (hold:(Builtin.firstCells ie.size xs.length (.slice A xs.length c)).run P w.drew=.ok us.toArray w.drew) (hsrc:Src P ie.size t x ys.length vs w)
 (hg:c<xs.length+ys.length) (hb:(xs.length+ys.length)*ie.bytes≤140737488355328) (hl:xs.length+ys.length≤140737488355328) {H0:List ABlk} (hx0:Ex H.length w I ι H0 w I ι H) (hlen0:H0.length=H.length) :
 ∃ v' w' ι',(Builtin.append_ #[t,t] ty #[.slice A xs.length c,x]).run P w=.ok v' w'∧ARep w' I ι' (.msl H.length ie.size 0 (xs++ys).length) v'∧SimH w' I ι' (H++[.row e ie.size (xs++ys)])∧Ex H0.length w I ι H0 w' I ι' (H++[.row e ie.size (xs++ys)]):=by
 have hrun:=run_append_grow_src (P:=P) w t t ty e ie ze ht g1 g3 A xs.length c us hold x ys.length vs hsrc hg (by omega) (growslice_fits hg hb)
 let cs:Array Value:=(us++vs).toArray++Builtin.zeroCells ze.cells (grownCap w (xs.length+ys.length) c e - (xs.length+ys.length))
 have g:=q5v w (.cells cs e)
 have hv:=hx.append hy
 have hcs:(xs++ys).length*ie.size≤cs.size:=by
  have:=hv.1
  simp only[cs,Array.size_append,List.size_toArray]
  omega
 have key:=g.sim hs (.row e ie.size (xs++ys)) (z8p (vs:=us++vs) (cs:=cs) (by simp[upd]) g.new (fun hI=>by have:=hs.Ilt _ hI;omega) (hv.move (fun B hB=>g.old B (hs.Ilt B hB)) (fun _ h=>h)) (by simpa using hl) hcs (fun k hk=>by
  have hk':k<(us++vs).length:=by rw[hv.1];exact hk
  have:=y4f (us++vs) (Builtin.zeroCells ze.cells (grownCap w (xs.length+ys.length) c e - (xs.length+ys.length))).toList k hk'
  simpa [cs] using this))
 have hcap:=grownCap_ge w (xs.length+ys.length) c e
 refine⟨_,_,_,hrun,?_,key.1,?_⟩
 ·have e0:(⟨w.heap.size,0,none⟩:Addr)=⟨w.heap.size,0*ie.size,none⟩:=by simp
  rw[e0,List.length_append]
  refine .msl _ _ _ _ _ _ (by simp[upd]) hcap ⟨cs,e,(0,0),g.new,?_⟩
  have:=hv.1
  simp only[cs,Array.size_append,List.size_toArray,size_zeroCells,hzs,this,List.length_append,← Nat.add_mul]
  exact Nat.mul_le_mul_right _ (by omega)
 ·rw[hlen0];exact hx0.trans key.2
theorem q1x {sz n:Nat}{A:Option Addr}{c:Nat}{us:List Value}(hl:us.length=n*sz)(h:n=0∨∃ ad,A=some ad∧∀ j u,us[j]?=some u→w.cell? (ad.add j)=some u) :
 (Builtin.firstCells sz n (.slice A n c)).run P w.drew=.ok us.toArray w.drew:=by
 rcases h with h|⟨ad,rfl,h⟩
 ·subst h
  have:us=[]:=List.length_eq_zero_iff.1 (by rw[hl];simp)
  subst this
  cases A <;> simp[Builtin.firstCells,loadCells,loadCellsFrom]
 ·exact run_firstCells_some w.drew sz n ad n c us hl (by simpa using h)
theorem x0e {t e:TypeId}{ei:TI}{ie:TypeInfo}{de:TypeDesc}{ze:Value}{s x:AV}{vs vx:Value}{ty:TypeId}(ht:P.underlying t=some (.slice e))(g1:P.info? e=some ie)(_g2:P.underlying e=some de)(g3:ie.zero=some ze)
 (g5:ei.size=ie.size) (g6:ei.bytes=ie.bytes) (hzs:ze.cells.size=ie.size) (h0:0<ei.size) (_hb0:0<ei.bytes) (hs:SimH w I ι H) (hvs:ARep w I ι s vs) (hvx:ARep w I ι x vx) (h:z2p H e ei s x K) :
 ∃ v' w' I' ι' r H',(Builtin.append_ #[t,t] ty #[vs,vx]).run P w=.ok v' w'∧K r H'∧ARep w' I' ι' r v'∧SimH w' I' ι' H'∧Ex H.length w I ι H w' I' ι' H':=by
 unfold z2p at h
 obtain⟨ys,hys,h⟩:=X3 h
 rw[g5]at h hys h0
 rw[g6]at h
 obtain⟨news,hsrc,hrv⟩:=y4e ht h0 hs hys hvx
 have fromNil:∀ (H1:List ABlk) (A:Option Addr),SimH w I ι H1→Ex H.length w I ι H w I ι H1→H1.length=H.length→ys.length*ie.bytes≤140737488355328→ys.length≤140737488355328 →
  K (.msl H.length ie.size 0 ys.length) (H1++[.row e ie.size ys])→∃ v' w' I' ι' r H',(Builtin.append_ #[t,t] ty #[.slice A 0 0,vx]).run P w=.ok v' w'∧K r H'∧ARep w' I' ι' r v'∧SimH w' I' ι' H'∧Ex H.length w I ι H w' I' ι' H':=by
  intro H1 A hs1 hx1 hl1 hb hl hK
  rcases Nat.eq_zero_or_pos ys.length with hn|hn
  ·have hyn:ys=[]:=List.length_eq_zero_iff.1 hn
   subst hyn
   have hn0:news=[]:=List.length_eq_zero_iff.1 (by rw[hrv.1];simp)
   subst hn0
   have hrun:=run_append_nothing (P:=P) w t t ty e ie ht g1 A 0 0 (Nat.le_refl _) vx hsrc
   have k:=hs1.phantom e ie.size
   have hx2:=hx1.trans (k.2.less (by omega))
   refine⟨_,_,I,ι,_,_,hrun,hK,.msl0 _ _ _ A,k.1,hx2⟩
  ·have hxs:RowVals w I ie.size [] []:=⟨by simp,fun j e hj=>by simp at hj⟩
   have:=w5h (ty:=ty) (xs:=[]) (ys:=ys) (us:=[]) (c:=0) (A:=A) ht g1 g3 hs1 hxs hrv hzs (q1x (n:=0) (by simp) (.inl rfl)) hsrc (by simp;omega) (by simpa using hb) (by simpa using hl) (H0:=H) (by rw[hl1];exact hx1) hl1.symm
   obtain⟨v',w',ι',r1,r2,r3,r4⟩:=this
   rw[hl1]at r2
   exact⟨v',w',I,ι',_,_,r1,hK,r2,r3,r4⟩
 split at h
 ·obtain⟨⟨b1,b2⟩,hK⟩:=h
  have:=Z0 hvs
  subst this
  exact fromNil H none hs (Ex.refl (Nat.le_refl _)) rfl b1 b2 hK
 ·rename_i b sz off len _
  split at h
  ·rename_i e' sz' xs hb
   replace h:=V8 h
   obtain⟨c1,hlen,⟨b1,b2⟩,hK⟩:=h
   simp only[Bool.and_eq_true,beq_iff_eq]at c1
   obtain⟨⟨⟨c1,c2⟩,c3⟩,c4⟩:=c1
   subst c1 c2 c3 c4
   have hbk:=Z8 hb rfl
   have hlive:live H b:=⟨_,hbk,rfl⟩
   have kk:=hs.kill b
   cases hvs with
   |msl0 _ _ _ A=>
    have hxn:xs=[]:=List.length_eq_zero_iff.1 hlen
    subst hxn
    simp only[List.nil_append]at hK
    exact fromNil (H.set b .dead) A kk.1 kk.2 (by simp) (by simpa using b1) (by simpa using b2) hK
   |msl _ _ _ _ B c hB hc hsz=>
    rcases hs.blk b _ hbk with ⟨_,q1⟩|⟨B',cs,q1,q2,q3,q4,ql,q6⟩
    ·rw[q1]at hB;exact absurd hB (by simp)
    ·rw[q1]at hB;obtain rfl:=Option.some.inj hB
     obtain⟨cs',t',fr',s1,s2⟩:=hsz
     rw[q2]at s1
     injection s1 with s1;injection s1 with s1 s1' s1''
     subst s1 s1' s1''
     have hxv:=x6p (w:=w) (I:=I) q4 q6 (off:=0) (len:=xs.length) (by omega)
     have e1:(xs.drop 0).take xs.length=xs:=by simp
     rw[e1,Nat.zero_mul,List.drop_zero]at hxv
     have hA:(⟨B',0*ie.size,none⟩:Addr)=⟨B',0,none⟩:=by simp
     subst hlen
     rw[hA]
     rcases Nat.lt_or_ge c (xs.length+ys.length) with hg|hg
     ·have:=w5h (xs:=xs) (ys:=ys) (c:=c) (A:=some ⟨B',0,none⟩) (ty:=ty) ht g1 g3 kk.1 hxv hrv hzs (q1x hxv.1 (.inr ⟨_,rfl,fun j u hu=>by
       rw[Addr.add_mid,Nat.zero_add,cell_of_row w B' j cs e' (0,0) q2,← Array.getElem?_toList]
       rw[List.getElem?_take_of_lt (by have:=(List.getElem?_eq_some_iff.1 hu).1;simp at this;omega)]at hu
       exact hu⟩)) hsrc hg b1 b2 (H0:=H) (by simpa using kk.2) (by simp)
      obtain⟨v',w',ι',r1,r2,r3,r4⟩:=this
      rw[List.length_set]at r2
      exact⟨v',w',I,ι',_,_,r1,hK,r2,r3,r4⟩
     ·have hnl:=hrv.1
      have hmul:(xs.length+ys.length)*ie.size≤c*ie.size:=Nat.mul_le_mul_right _ hg
      rw[Nat.add_mul]at hmul
      rw[Nat.zero_add]at s2
      have hth:=q0y (w:=w) (o:=xs.length*ie.size) (n:=news.length) q2 (by omega)
      have hrun:=run_append_room_src (P:=P) w t t ty e' ie ht g1 B' 0 xs.length c vx ys.length news hsrc hg (fun j hj=>by simpa using (hth j hj).1) (fun j hj=>by simpa using (hth j hj).2)
      rw[Nat.zero_add]at hrun
      have hw:=q2s w B' e' news (xs.length*ie.size) cs q2 (by omega)
      have hle:xs.length*ie.size+news.length≤cs.toList.length:=by simp;omega
      have hsz':(W4 cs.toList (xs.length*ie.size) news).toArray.size=cs.size:=by simp[W3 hle]
      have hW:=U0 w B' news (xs.length*ie.size)
      have hv:=hxv.append hrv
      have hI:∀ C,I C→(w.setCells B' (xs.length*ie.size) news).heap[C]?=w.heap[C]?:=fun C hC=>hW.old C (fun e=>q3 (e ▸ hC))
      have key:=hW.moved hs hlive q1 q2 hw hsz' (.row e' ie.size (xs++ys)) (z8p (vs:=cs.toList.take (xs.length*ie.size)++news) (by simp[upd]) hw q3 (hv.move hI (fun _ h=>h)) (by simpa using b2)
       (by rw[hsz',List.length_append,Nat.add_mul];omega) (fun k hk=>by
        rw[List.length_append,Nat.add_mul]at hk
        rw[q3g _ _ _ _ hle]
        rcases Nat.lt_or_ge k (xs.length*ie.size) with h1|h1
        ·rw[if_neg (by omega),List.getD_eq_getElem?_getD,List.getD_eq_getElem?_getD,List.getElem?_append_left (by simp;omega),List.getElem?_take_of_lt h1]
        ·rw[if_pos (by omega),List.getD_eq_getElem?_getD,List.getD_eq_getElem?_getD,List.getElem?_append_right (by simp;omega)]
         simp only[List.length_take,Array.length_toList]
         rw[Nat.min_eq_left (by omega)]))
      refine⟨_,_,I,_,_,_,hrun,hK,?_,key.1,key.2⟩
      have hA':(⟨B',0,none⟩:Addr)=⟨B',0*ie.size,none⟩:=by simp
      rw[hA',List.length_append]
      exact .msl _ _ _ _ _ _ (by simp[upd]) hg ⟨_,e',(0,0),hw,by rw[hsz',Nat.zero_add];exact s2⟩
  ·exact h.elim
 ·exact h.elim
def CVals (w:World)(I:Nat→Prop)(ι:Nat→Option Nat)(us:List AV)(vs:List Value):Prop:=
 vs.length=us.length∧(∀ v∈vs,v.oneCell'=true)∧∀ k u,us[k]?=some u→ARep w I ι u (vs.getD k undef)
theorem CVals.append {xs ys:List AV}{us vs:List Value}(h:CVals w I ι xs us)(k:CVals w I ι ys vs):CVals w I ι (xs++ys) (us++vs):=by
 refine⟨by rw[List.length_append,List.length_append,h.1,k.1],fun v hv=>(List.mem_append.mp hv).elim (h.2.1 v) (k.2.1 v),fun j u hu=>?_⟩
 rcases Nat.lt_or_ge j xs.length with hlt|hge
 ·rw[List.getElem?_append_left hlt]at hu
  rw[List.getD_eq_getElem?_getD,List.getElem?_append_left (by rw[h.1];exact hlt),← List.getD_eq_getElem?_getD]
  exact h.2.2 j u hu
 ·rw[List.getElem?_append_right hge]at hu
  rw[List.getD_eq_getElem?_getD,List.getElem?_append_right (by rw[h.1];exact hge),h.1,← List.getD_eq_getElem?_getD]
  exact k.2.2 _ u hu
theorem CVals.move {w':World}{I':Nat→Prop}{ι':Nat→Option Nat}{us:List AV}{vs:List Value}(hw:∀ B,I B→w'.heap[B]?=w.heap[B]?)(hI:∀ B,I B→I' B)(hι:∀ b B,ι b=some B→ι' b=some B)(hs:Shape w w')(h:CVals w I ι us vs):CVals w' I' ι' us vs:=
 ⟨h.1,h.2.1,fun k u hu=>(h.2.2 k u hu).move hw hI hι hs⟩
theorem y4g {cs:Array Value}{us:List AV}(h1:us.length≤cs.size)(ho:us.all AV.one=true)(h:∀ i u,us[i]?=some u→ARep w I ι u (cs.getD i undef)):CVals w I ι us (cs.toList.take us.length):=by
 have hg:∀ k u,us[k]?=some u→ARep w I ι u ((cs.toList.take us.length).getD k undef):=fun k u hu=>by
  have hk:=(List.getElem?_eq_some_iff.1 hu).1
  rw[List.getD_eq_getElem?_getD,List.getElem?_take_of_lt hk,Array.getElem?_toList,← Array.getD_eq_getD_getElem?]
  exact h k u hu
 have hl:(cs.toList.take us.length).length=us.length:=by
  have:cs.toList.length=cs.size:=Array.length_toList
  rw[List.length_take];omega
 refine⟨hl,fun v hv=>?_,hg⟩
 obtain⟨k,hk,rfl⟩:=List.getElem_of_mem hv
 have hu:=List.getElem?_eq_getElem (l:=us) (i:=k) (by omega)
 have:=hg k _ hu
 rw[List.getD_eq_getElem?_getD,List.getElem?_eq_getElem hk]at this
 exact w1p this (List.all_eq_true.mp ho _ (List.getElem_mem _))
theorem x6q (hs:SimH w I ι H)(B:Nat):∀ b C,ι b=some C→upd ι H.length B b=some C:=fun b C hb=>by
 rcases Nat.lt_or_ge b H.length with h|h
 ·unfold upd;rw[if_neg (by omega)];exact hb
 ·rw[hs.dom b h]at hb;exact absurd hb (by simp)
theorem x6r {t e:TypeId}{ie:TypeInfo}{ze:Value}(ht:P.underlying t=some (.slice e))(g1:P.info? e=some ie)(g3:ie.zero=some ze)(h1:ie.size=1)(hs:SimH w I ι H){xs ys:List AV}{us vs:List Value}{A:Option Addr}{c:Nat}{x:Value}{ty:TypeId}
 (hx:CVals w I ι xs us) (hy:CVals w I ι ys vs) (hzs:ze.cells.size=ie.size) (hold:(Builtin.firstCells ie.size xs.length (.slice A xs.length c)).run P w.drew=.ok us.toArray w.drew) (hsrc:Src P ie.size t x ys.length vs w)
 (hg:c<xs.length+ys.length) (hb:(xs.length+ys.length)*ie.bytes≤140737488355328) (hl:xs.length+ys.length≤140737488355328) {H0:List ABlk} (hx0:Ex H.length w I ι H0 w I ι H) (hlen0:H0.length=H.length) :
 ∃ v' w' ι',(Builtin.append_ #[t,t] ty #[.slice A xs.length c,x]).run P w=.ok v' w'∧ARep w' I ι' (.msl H.length 1 0 (xs.length+ys.length)) v'∧SimH w' I ι' (H++[.cells e (xs++ys)])∧Ex H0.length w I ι H0 w' I ι' (H++[.cells e (xs++ys)]):=by
 have hrun:=run_append_grow_src (P:=P) w t t ty e ie ze ht g1 g3 A xs.length c us hold x ys.length vs hsrc hg (by omega) (growslice_fits hg hb)
 let cs:Array Value:=(us++vs).toArray++Builtin.zeroCells ze.cells (grownCap w (xs.length+ys.length) c e - (xs.length+ys.length))
 have g:=q5v w (.cells cs e)
 have hv:=hx.append hy
 have hcs:(xs++ys).length≤cs.size:=by
  have:=hv.1
  simp only[cs,Array.size_append,List.size_toArray]
  omega
 have hv':=hv.move (fun B hB=>g.old B (hs.Ilt B hB)) (fun _ h=>h) (x6q hs w.heap.size) g.shape
 have key:=g.sim hs (.cells e (xs++ys)) ⟨w.heap.size,cs,by simp[upd],g.new,fun hI=>by have:=hs.Ilt _ hI;omega,hcs,fun k u hu=>by
  have hk:=(List.getElem?_eq_some_iff.1 hu).1
  have hk':k<(us++vs).length:=by rw[hv.1];exact hk
  have:=y4f (us++vs) (Builtin.zeroCells ze.cells (grownCap w (xs.length+ys.length) c e - (xs.length+ys.length))).toList k hk'
  have h2:=hv'.2.2 k u hu
  rw[← this]at h2
  simpa [cs] using h2⟩
 have hcap:=grownCap_ge w (xs.length+ys.length) c e
 refine⟨_,_,_,hrun,?_,key.1,?_⟩
 ·have e0:(⟨w.heap.size,0,none⟩:Addr)=⟨w.heap.size,0*1,none⟩:=by simp
  rw[e0]
  refine .msl _ _ _ _ _ _ (by simp[upd]) hcap ⟨cs,e,(0,0),g.new,?_⟩
  have:=hv.1
  rw[List.length_append]at this
  simp only[cs,Array.size_append,List.size_toArray,size_zeroCells,hzs,h1]
  have h5:=List.length_append (as:=us) (bs:=vs)
  have h6:=hx.1
  have h7:=hy.1
  omega
 ·rw[hlen0];exact hx0.trans key.2
theorem w1u {t e:TypeId}{ei:TI}{ie:TypeInfo}{de:TypeDesc}{ze:Value}{s x:AV}{vs vx:Value}{ty:TypeId}(ht:P.underlying t=some (.slice e))(g1:P.info? e=some ie)(g2:P.underlying e=some de)(g3:ie.zero=some ze)
 (g5:ei.size=ie.size) (g6:ei.bytes=ie.bytes) (hzs:ze.cells.size=ie.size) (h0:0<ei.size) (hb0:0<ei.bytes) (hs:SimH w I ι H) (hvs:ARep w I ι s vs) (hvx:ARep w I ι x vx) (h:z5j H e ei s x K) :
 ∃ v' w' I' ι' r H',(Builtin.append_ #[t,t] ty #[vs,vx]).run P w=.ok v' w'∧K r H'∧ARep w' I' ι' r v'∧SimH w' I' ι' H'∧Ex H.length w I ι H w' I' ι' H':=by
 unfold z5j at h
 split at h
 ·rename_i b sz off len
  split at h
  ·rename_i tb us hbd
   replace h:=V8 h
   obtain⟨c1,hC⟩:=h
   simp only[Bool.and_eq_true,beq_iff_eq]at c1
   obtain⟨⟨⟨⟨⟨c1,c2⟩,c3⟩,c4⟩,c5⟩,c6⟩:=c1
   have c5:0<len:=Nat.le_of_ble_eq_true c5
   have h1:ie.size=1:=g5.symm.trans c1
   subst c2 c3
   have hbk:=Z8 hbd rfl
   obtain⟨B,cs,q1,q2,q3,q4,q5⟩:=hs.blk b _ hbk
   have hnews:=y4g q4 c6 q5
   obtain⟨c,hvx2⟩:∃ c,vx=.slice (some ⟨B,0,none⟩) us.length c:=by
    cases hvx with
    |msl _ _ _ _ B' c hB hc hsz=>
     rw[q1]at hB;obtain rfl:=Option.some.inj hB
     exact⟨c,by rw[Nat.zero_mul,c4]⟩
    |msl0=>omega
   subst hvx2
   have hsrc:Src P ie.size t (.slice (some ⟨B,0,none⟩) us.length c) us.length (cs.toList.take us.length) w:=by
    refine Src.ofSlice w ht ⟨B,0,none⟩ us.length c _ (by rw[hnews.1,h1,Nat.mul_one]) (fun j u hu=>?_) hnews.2.1
    rw[Addr.add_mid,Nat.zero_add,cell_of_row w B j cs tb (0,0) q2,← Array.getElem?_toList]
    rw[List.getElem?_take_of_lt (by have:=(List.getElem?_eq_some_iff.1 hu).1;rw[List.length_take]at this;omega)]at hu
    exact hu
   generalize cs.toList.take us.length=news at hnews hsrc
   generalize Value.slice (some ⟨B,0,none⟩) us.length c=vx at hsrc hvx
   unfold x2w at hC
   rw[g6]at hC
   split at hC
   ·obtain⟨⟨b1,b2⟩,hK⟩:=hC
    have:=Z0 hvs
    subst this
    have:=x6r (ty:=ty) (xs:=[]) (ys:=us) (us:=[]) (c:=0) (A:=none) ht g1 g3 h1 hs ⟨rfl,fun v hv=>(List.not_mem_nil hv).elim,fun k u hu=>by simp at hu⟩ hnews hzs (q1x (n:=0) (by simp) (.inl rfl)) hsrc (by simp;omega) (by simpa using b1) (by simpa using b2) (H0:=H) (Ex.refl (Nat.le_refl _)) rfl
    obtain⟨v',w',ι',r1,r2,r3,r4⟩:=this
    rw[List.length_nil,Nat.zero_add]at r2
    exact⟨v',w',I,ι',_,_,r1,hK,r2,r3,r4⟩
   ·rename_i b2 sz off len2
    split at hC
    ·rename_i e' xs hb
     replace hC:=V8 hC
     obtain⟨d1,⟨b1,b2'⟩,hK⟩:=hC
     simp only[Bool.and_eq_true,beq_iff_eq]at d1
     obtain⟨⟨⟨⟨d1,d2⟩,d3⟩,d4⟩,d5⟩:=d1
     subst d1 d2 d3
     have hbk2:=Z8 hb rfl
     have hlive:live H b2:=⟨_,hbk2,rfl⟩
     have kk:=hs.kill b2
     obtain⟨B2,cs2,p1,p2,p3,p4,p5⟩:=hs.blk b2 _ hbk2
     have hxv:=y4g p4 d5 p5
     have hcl:cs2.toList.length=cs2.size:=Array.length_toList
     have fin:∀ (A:Option Addr) (c2:Nat),vs=.slice A xs.length c2→(Builtin.firstCells ie.size xs.length (.slice A xs.length c2)).run P w.drew=.ok (cs2.toList.take xs.length).toArray w.drew→c2<xs.length+us.length →
      ∃ v' w' I' ι' r H',(Builtin.append_ #[t,t] ty #[vs,vx]).run P w=.ok v' w'∧K r H'∧ARep w' I' ι' r v'∧SimH w' I' ι' H'∧Ex H.length w I ι H w' I' ι' H':=fun A c2 hv hold hg=>by
      have:=x6r (ty:=ty) (xs:=xs) (ys:=us) (c:=c2) (A:=A) ht g1 g3 h1 kk.1 hxv hnews hzs hold hsrc hg b1 b2' (H0:=H) (by simpa using kk.2) (by simp)
      obtain⟨v',w',ι',r1,r2,r3,r4⟩:=this
      rw[List.length_set]at r2
      rw[hv]
      exact⟨v',w',I,ι',_,_,r1,hK,r2,r3,r4⟩
     cases hvs with
     |msl0 _ _ _ A=>
      have hx0:xs=[]:=List.length_eq_zero_iff.1 d4
      exact fin A 0 (by rw[d4]) (q1x (by rw[List.length_take,h1];omega) (.inl (by omega))) (by omega)
     |msl _ _ _ _ B' c2 hB hc hsz=>
      rw[p1]at hB;obtain rfl:=Option.some.inj hB
      rw[Nat.zero_mul,← d4]at *
      obtain⟨cs',t',fr',s1,s2⟩:=hsz
      rw[p2]at s1
      injection s1 with s1;injection s1 with s1 s1' s1''
      subst s1 s1' s1''
      have hl1:=hxv.1
      rcases Nat.lt_or_ge c2 (xs.length+us.length) with hg|hg
      ·refine fin _ c2 rfl (q1x (by rw[hl1,h1,Nat.mul_one]) (.inr ⟨_,rfl,fun j u hu=>?_⟩)) hg
       rw[Addr.add_mid,Nat.zero_add,cell_of_row w B2 j cs2 _ (0,0) p2,← Array.getElem?_toList]
       rw[List.getElem?_take_of_lt (by have:=(List.getElem?_eq_some_iff.1 hu).1;rw[List.length_take]at this;omega)]at hu
       exact hu
      ·have hnl:=hnews.1
       have hth:=q0y (w:=w) (o:=xs.length*ie.size) (n:=news.length) p2 (by rw[h1];omega)
       have hrun:=run_append_room_src (P:=P) w t t ty _ ie ht g1 B2 0 xs.length c2 vx us.length news hsrc hg (fun j hj=>by simpa using (hth j hj).1) (fun j hj=>by simpa using (hth j hj).2)
       rw[Nat.zero_add]at hrun
       have hw:=q2s w B2 _ news (xs.length*ie.size) cs2 p2 (by rw[h1];omega)
       have hle:xs.length*ie.size+news.length≤cs2.toList.length:=by rw[h1];omega
       have hsz':(W4 cs2.toList (xs.length*ie.size) news).toArray.size=cs2.size:=by simp[W3 hle]
       have hW:=U0 w B2 news (xs.length*ie.size)
       have hI:∀ C,I C→(w.setCells B2 (xs.length*ie.size) news).heap[C]?=w.heap[C]?:=fun C hC=>hW.old C (fun e=>p3 (e ▸ hC))
       have hsh:Shape w (w.setCells B2 (xs.length*ie.size) news):=fun C cs0 t0 fr h=>by
        by_cases e:C=B2
        ·subst e
         rw[p2]at h
         injection h with h;injection h with h1' h2' h3'
         subst h1' h2' h3'
         exact⟨_,hw,hsz'⟩
        ·exact⟨cs0,by rw[hW.old C e];exact h,rfl⟩
       have hv':=(hxv.append hnews).move hI (fun _ h=>h) (x6q hs B2) hsh
       have key:=hW.moved hs hlive p1 p2 hw hsz' (.cells _ (xs++us)) ⟨B2,_,by simp[upd],hw,p3,by rw[hsz',List.length_append];omega,fun k u hu=>by
        have h2:=hv'.2.2 k u hu
        have hk:=(List.getElem?_eq_some_iff.1 hu).1
        rw[List.length_append]at hk
        rw[q3g _ _ _ _ hle]
        rcases Nat.lt_or_ge k xs.length with h3|h3
        ·rw[if_neg (by rw[h1];omega)]
         rw[List.getD_eq_getElem?_getD,List.getElem?_append_left (by rw[hl1];exact h3),List.getElem?_take_of_lt h3,← List.getD_eq_getElem?_getD]at h2
         exact h2
        ·rw[if_pos (by rw[h1];omega)]
         rw[List.getD_eq_getElem?_getD,List.getElem?_append_right (by rw[hl1];exact h3),hl1,← List.getD_eq_getElem?_getD]at h2
         rw[show k - xs.length*ie.size=k - xs.length by rw[h1,Nat.mul_one]]
         exact h2⟩
       refine⟨_,_,I,_,_,_,hrun,hK,?_,key.1,key.2⟩
       have hA':(⟨B2,0,none⟩:Addr)=⟨B2,0*1,none⟩:=by simp
       rw[hA']
       exact .msl _ _ _ _ _ _ (by simp[upd]) hg ⟨_,_,(0,0),hw,by rw[hsz'];omega⟩
    ·exact hC.elim
   ·exact hC.elim
  ·exact x0e ht g1 g2 g3 g5 g6 hzs h0 hb0 hs hvs hvx h
 ·exact x0e ht g1 g2 g3 g5 g6 hzs h0 hb0 hs hvs hvx h
end
end Go.Proofs.YtinfbclgkghgaaaGreat.AL
