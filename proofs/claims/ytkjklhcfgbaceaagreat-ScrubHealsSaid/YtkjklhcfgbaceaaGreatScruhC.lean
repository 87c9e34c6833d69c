/- A part of the proof. -/
import Derived.Laws.BytesString
import Derived.Lib.AppendZeros
import Derived.Test.YtkjklhcfgbaceaaGreatScruhB
open Option.some renaming inj→k0x
open List renaming getElem?_eq_getElem→k0w,getD_eq_getElem?_getD→k0v,getElem?_eq_some_iff→k0t,getElem?_append_left→k0s,getElem?_append_right→k1q,getElem?_map→k1z,length_replicate→k2z,getElem?_set_self→k2y,mem_of_getElem?→k2x,getElem?_set_ne→k3z
open Int renaming toNat_natCast→k0u
open Nat renaming le_refl→k1v,mul_le_mul_right→k2v
open Array renaming getD_eq_getD_getElem?→k2q
namespace Go.Proofs.YtkjklhcfgbaceaaGreat.AL
open Go Go.RowKit
def w6h (P:Program)(f:FuncId)(args:List AV)(H:List ABlk)(K:AV→List ABlk→Prop):Prop:=∃ R,AF P f args H R∧∀ r H',R r H'→K r H'
theorem u1r {P:Program}{f:FuncId}{args:List AV}{H:List ABlk}{K R:AV→List ABlk→Prop}(h:AF P f args H R)(k:∀ r H',R r H'→K r H'):w6h P f args H K:=⟨R,h,k⟩
def u4b (P:Program)(b:Nat)(args:List AV)(H:List ABlk)(K:AV→List ABlk→Prop):Prop:=∃ R,AY P b args H R∧∀ r H',R r H'→K r H'
def y3j (P:Program):CallA:=⟨w6h P,u4b P⟩
section
variable {P:Program} {T:J0} {w:World} {I:Nat→Prop} {ι:Nat→Option Nat} {H:List ABlk} {K:AV→List ABlk→Prop} {o:Oper} {a:Act} {next:Act→World→Prop} {Q:Exit→Act→World→Prop} {ev:Operand→AV}
theorem Says.append {l l':List AV}{cs cs':Array Value}(h:Says w I ι l cs)(k:Says w I ι l' cs'):Says w I ι (l++l') (cs++cs'):=by
 refine⟨by simp[h.1,k.1],fun i u hu=>?_⟩
 rw[U6,k0v,Array.toList_append]
 rcases Nat.lt_or_ge i l.length with hlt|hge
 ·rw[k0s hlt]at hu
  rw[k0s (by rw[Array.length_toList,h.1];exact hlt)]
  have:=h.2 i u hu
  rwa [U6,k0v]at this
 ·rw[k1q hge]at hu
  rw[k1q (by rw[Array.length_toList,h.1];exact hge),Array.length_toList,h.1]
  have:=k.2 _ u hu
  rwa [U6,k0v]at this
theorem Says.map {xs:Array Operand}(hx:∀ x∈xs.toList,ARep w I ι (ev x) (a.eval x)):Says w I ι (xs.toList.map ev) (xs.map a.eval):=by
 refine⟨by simp,fun i u hu=>?_⟩
 simp only[List.getElem?_map,Option.map_eq_some_iff]at hu
 obtain⟨x,hx',rfl⟩:=hu
 rw[U6,Array.toList_map,k0v,k1z,hx']
 exact hx x (k2x hx')
theorem Says.nil:Says w I ι [] #[]:=⟨rfl,fun i u h=>by simp at h⟩
theorem x3z {c:Call}{f:Operand}(ho:o.op=.call c)(hcal:c.callee=.value f){k:FuncId}{F C:Array Value}(hv:a.eval f=.func (.func k) F C){L:List AV}(hL:Says w I ι L (F++c.args.map a.eval++C))(hs:SimH w I ι H)
 (h:w6h P k L H K) (hn:Nx w I ι H K fun v w'=>next (a.put o.dst v) w'):o.wp P a w next Q:=by
 obtain⟨R,⟨⟨fn,hfn,hbody,hname⟩,hC⟩,hR⟩:=h
 have hcall:=hC w I ι _ hL.1 hL.2 hs
 unfold Oper.wp
 have hrun:(execOp a.eval o).run P w=.ok (.enter k (F++c.args.map a.eval++C)) w:=by
  have hb':fn.body≠none:=by intro h0;simp[h0]at hbody
  have hn0:fn.name ≠ "runtime.NumGoroutine":=by simpa using hname
  simp[execOp,ho,resolve,hcal,hv,Deferred.ofValue,invoke,callFunc,hfn,hb',hn0]
 rw[hrun,Oper.upon_enter]
 refine hcall.mono fun e w' ⟨v,r,H',I',ι',he,h1,h2,h3,h4⟩=>?_
 subst he
 exact hn v w' r H' I' ι' (hR r H' h1) h2 h3 h4
/-- An operation goes in a round as anywhere. -/
theorem q8a {ro:Option Nat}(hd:∀ c,o.op≠.defer c)(h:o.wp P a w next Q):o.wpIn (fen ro) 0 P a w next Q:=by
 unfold Oper.wpIn
 refine⟨fun f _=>x3k ro f,?_⟩
 rw[Oper.semAt_eq _ _ _ hd]
 unfold Oper.wp at h
 have hdep:(fen ro).depth.isSome=true→1≤0:=fun e=>by rw[y1e]at e;exact absurd e (by simp)
 generalize (execOp a.eval o).run P w=r at h ⊢
 cases r with
 |halt x w'=>cases x <;> first|exact h|exact h.elim
 |ok x w'=>
  cases x <;> try first|exact h|exact h.elim
  ·refine⟨hdep,?_⟩
   have h:=(callsIn_wide (n:=0 - 1)).2 h
   cases ro with
   |none=>exact h
   |some l=>exact h
  ·refine⟨hdep,fun c cs hroom=>?_⟩
   obtain⟨v,w'',hR,hst⟩:=h c cs
   refine⟨v,w'',hR,?_⟩
   have:=stepsIn_wide.2 hst
   cases ro with
   |none=>exact this
   |some l=>exact this
theorem v3n {ro:Option Nat}{c:Call}{f:Operand}(ho:o.op=.call c)(hcal:c.callee=.value f){b:Nat}(hf:ev f=.yld b)(hs:SimH w I ι H)(hfr:ARep w I ι (ev f) (a.eval f))(hx:∀ x∈c.args.toList,ARep w I ι (ev x) (a.eval x))
 (h:u4b P b (c.args.toList.map ev) H K) (hn:Nx w I ι H K fun v w'=>next (a.put o.dst v) w'):o.wpIn (fen ro) 0 P a w next Q:=by
 obtain⟨R,hY,hR⟩:=h
 rw[hf]at hfr
 generalize hv:a.eval f=v at hfr
 cases hfr with
 |yld _ B hB=>
  have hL:=Says.map (ι:=ι) hx
  obtain⟨fn,tmps,assign,body,hrun,hround⟩:=hY w I ι _ B hL.1 hL.2 hs hB
  unfold Oper.wpIn
  refine⟨fun f _=>x3k ro f,?_⟩
  rw[Oper.semAt_eq _ _ _ (fun d h=>by rw[ho]at h;cases h)]
  have hrun':(execOp a.eval o).run P w=.ok (.round B fn tmps assign body) w:=by
   simp[execOp,ho,resolve,hcal,hv,Deferred.ofValue,invoke,hrun]
  rw[hrun',Oper.uponIn_round]
  refine⟨fun e=>by rw[y1e]at e;exact absurd e (by simp),?_⟩
  have hround:RoundIn (fen ro) (0 - 1) P B fn tmps assign body w (fun e w'=>∃ v r H' I' ι',e=.returned v∧R r H'∧ARep w' I' ι' r v∧SimH w' I' ι' H'∧Ex H.length w I ι H w' I' ι' H'):=by
   cases ro with
   |none=>exact hround
   |some l=>exact hround
  refine hround.mono fun e w' ⟨v,r,H',I',ι',he,h1,h2,h3,h4⟩=>?_
  subst he
  exact hn v w' r H' I' ι' (hR r H' h1) h2 h3 h4
theorem q1b {c:Call}{b:Builtin}(ho:o.op=.call c)(hcal:c.callee=.builtin b){v:Value}{w':World}
 (h:∀ consts,(builtin b c.argTypes o.type consts (c.args.map a.eval)).run P w=.ok (.value v) w'):(execOp a.eval o).run P w=.ok (.value v) w':=by
 simp only[execOp,ho,resolve,hcal,Sem.run_bind,Sem.run_pure,Result.andThen_ok,invoke]
 exact h _
theorem args1 {α β:Type}{xs:Array α}{g:α→β}{x:β}(h:xs.toList.map g=[x]):∃ y,xs = #[y]∧g y=x:=by
 cases xs with|mk l=>cases l with
  |nil=>simp at h
  |cons y l=>cases l with
   |nil=>simp at h;exact⟨y,rfl,h⟩
   |cons z l=>simp at h
theorem v3p {α β:Type}{xs:Array α}{g:α→β}{x x':β}(h:xs.toList.map g=[x,x']):∃ y y',xs = #[y,y']∧g y=x∧g y'=x':=by
 cases xs with|mk l=>cases l with
  |nil=>simp at h
  |cons y l=>cases l with
   |nil=>simp at h
   |cons z l=>cases l with
    |nil=>simp at h;exact⟨y,z,rfl,h⟩
    |cons u l=>simp at h
theorem x4a {α:Type}{xs:Array α}{x:α}(h:xs.toList=[x]):xs = #[x]:=by cases xs;simpa using h
theorem x4b {α:Type}{xs:Array α}{x y:α}(h:xs.toList=[x,y]):xs = #[x,y]:=by cases xs;simpa using h
theorem x1d {ei:TI}{ie:TypeInfo}{ze:Value}(g5:ei.size=ie.size)(g7:ei.zero=ze.cells.toList)(g8:∀ v∈ze.cells.toList,v.oneCell'=true)(q2:ei.zero.length=ei.size)(n:Nat) :
 RowVals w I ie.size (List.replicate n (q5z ei)) (Builtin.zeroCells ze.cells n).toList:=by
 have hzs:ze.cells.size=ie.size:=by rw[← g5,← q2,g7];simp
 refine⟨by simp[size_zeroCells,hzs],fun j e hj=>?_⟩
 have hjn:=(k0t.1 hj).1
 simp only[List.length_replicate]at hjn
 rw[List.getElem?_replicate,if_pos hjn]at hj
 obtain rfl:=k0x hj
 refine⟨by simp[q5z,q2,g5],fun i u hu=>?_⟩
 simp only[q5z,g7,List.getElem?_map,Option.map_eq_some_iff]at hu
 obtain⟨y,hy,rfl⟩:=hu
 have hi:i<ie.size:=by
  have:=(k0t.1 hy).1
  rw[Array.length_toList,hzs]at this;exact this
 have hmul:j*ie.size+ie.size≤n*ie.size:=by rw[← Nat.succ_mul];exact k2v _ hjn
 have:(Builtin.zeroCells ze.cells n).toList.getD (j*ie.size+i) undef=y:=by
  rw[← U6]
  simp only[Builtin.zeroCells]
  rw[k2q,Array.getElem?_map,Array.getElem?_range,if_pos (by rw[hzs];omega)]
  simp only[Option.map_some,Option.getD_some]
  rw[hzs,Nat.add_comm,Nat.add_mul_mod_self_right,Nat.mod_eq_of_lt hi,getElem!_pos ze.cells i (by omega)]
  have:=(Array.getElem?_toList (xs:=ze.cells) (i:=i)).symm.trans hy
  rw[Array.getElem?_eq_getElem (by omega)]at this
  exact k0x this
 rw[this]
 exact .raw y (g8 y (k2x hy))
theorem v3q {t e:TypeId}{ei:TI}{ie:TypeInfo}{ze:Value}{x:AV}{v:Value}{K:List ABlk→Prop}{ty:TypeId}(h2:P.underlying t=some (.slice e))(g1:P.info? e=some ie)(g3:ie.zero=some ze)(g5:ei.size=ie.size)(g7:ei.zero=ze.cells.toList)(g8:∀ v∈ze.cells.toList,v.oneCell'=true)
 (q1:0<ei.size) (q2:ei.zero.length=ei.size) (hs:SimH w I ι H) (hx:ARep w I ι x v) (h:y5q H ei x K) :
 ∃ H' w',(Builtin.clear_ #[t] ty #[v]).run P w=.ok (.tuple #[]) w'∧K H'∧SimH w' I ι H'∧Ex H.length w I ι H w' I ι H':=by
 unfold y5q at h
 split at h
 ·rename_i b sz off len
  split at h
  ·rename_i e' sz' xs hb
   replace h:=J3 h
   obtain⟨c,hle,h⟩:=h
   simp only[Bool.and_eq_true,beq_iff_eq]at c
   obtain⟨c1,c2⟩:=c
   subst c1 c2
   have hbk:=X4 hb rfl
   have hz:RowVals w I ei.size (List.replicate len (q5z ei)) (Builtin.zeroCells ze.cells len).toList:=by rw[g5];exact x1d g5 g7 g8 q2 len
   have nothing:∀ (A:Option Addr) (c:Nat),(Builtin.clear_ #[t] ty #[.slice A 0 c]).run P w=.ok (.tuple #[]) w:=fun A c=>by
    cases A <;> simp[Builtin.clear_,run_underlying h2]
   have none0:len=0→SimH w I ι (H.set b (.row e' ei.size (V8 xs off (List.replicate len (q5z ei)))))∧Ex H.length w I ι H w I ι (H.set b (.row e' ei.size (V8 xs off (List.replicate len (q5z ei))))):=by
    intro hl0
    subst hl0
    have hset:H.set b (.row e' ei.size (V8 xs off (List.replicate 0 (q5z ei))))=H:=by
     have:V8 xs off (List.replicate 0 (q5z ei))=xs:=by simp[V8]
     rw[this]
     apply List.ext_getElem?
     intro j
     by_cases hj:j=b
     ·subst hj;rw[k2y (k0t.1 hbk).1];exact hbk.symm
     ·rw[k3z (by omega)]
    rw[hset]
    exact⟨hs,Ex.refl (k1v _)⟩
   cases hx with
   |msl0 _ _ _ A=>
    obtain⟨k1,k2⟩:=none0 rfl
    exact⟨_,w,nothing A 0,h,k1,k2⟩
   |msl _ _ _ _ B c hB hc hsz=>
    rcases Nat.eq_zero_or_pos len with hl0|hlp
    ·obtain⟨k1,k2⟩:=none0 hl0
     subst hl0
     exact⟨_,w,nothing _ c,h,k1,k2⟩
    ·rcases hs.blk b _ hbk with ⟨hxn,q⟩|⟨B',cs,p1,p2,p3,p4,pl,p6⟩
     ·rw[q]at hB;exact absurd hB (by simp)
     ·rw[p1]at hB;obtain rfl:=k0x hB
      have key:=x1a hs hbk p1 p2 p4 pl p6 hz (by simpa using hle)
      refine⟨_,_,?_,h,key.1,key.2⟩
      have hmul:(off+len)*ei.size≤xs.length*ei.size:=k2v _ hle
      rw[Nat.add_mul]at hmul
      have hlen:=hz.1
      rw[k2z]at hlen
      have hth:=q2c (w:=w) (o:=off*ei.size) (n:=(Builtin.zeroCells ze.cells len).toList.length) p2 (by rw[hlen];omega)
      have hrun:=run_storeCells_cells (P:=P) B' (off*ei.size) (Builtin.zeroCells ze.cells len).toList 0 w (fun j hj=>by simpa using (hth j hj).1) (fun j hj=>by simpa using (hth j hj).2) (hz.one (by omega))
      rw[Nat.add_zero]at hrun
      obtain⟨m,rfl⟩:∃ m,len=m+1:=⟨len - 1,by omega⟩
      simp[Builtin.clear_,run_underlying h2,q6k g1 g3,hrun]
  ·exact h.elim
 ·have hv:=Y8 hx
  subst hv
  exact⟨H,w,by simp[Builtin.clear_,run_underlying h2],h,hs,Ex.refl (k1v _)⟩
 ·exact h.elim
theorem v9f {t e:TypeId}{ei:TI}{ie:TypeInfo}{d x:AV}{vd vx:Value}{K:AV→List ABlk→Prop}{ty:TypeId}(h2:P.underlying t=some (.slice e))(g1:P.info? e=some ie)(g5:ei.size=ie.size)
 (q1:0<ei.size) (hs:SimH w I ι H) (hd:ARep w I ι d vd) (hx:ARep w I ι x vx) (h:x6t H ei d x K) :
 ∃ n H' w',(Builtin.copy_ #[t,t] ty #[vd,vx]).run P w=.ok (.int .i64 n) w'∧K (.p (.raw (.int .i64 n))) H'∧SimH w' I ι H'∧Ex H.length w I ι H w' I ι H':=by
 unfold x6t at h
 replace h:=W9 h
 obtain⟨ys,hys,h⟩:=h
 obtain⟨news,hsrc,hrv⟩:=y5v h2 q1 hs hys hx
 split at h
 ·rename_i b sz off len
  split at h
  ·rename_i e' sz' xs hb
   replace h:=J3 h
   obtain⟨c,⟨hle,hyl⟩,h⟩:=h
   simp only[Bool.and_eq_true,beq_iff_eq]at c
   obtain⟨c1,c2⟩:=c
   subst c1 c2
   have hbk:=X4 hb rfl
   have hlenr:=hsrc.len w
   have hcel:=hsrc.cells
   have base:∀ (A:Option Addr) (c:Nat) (w':World),((match A with|some a=>storeCells a news|none=>pure ()).run P w=.ok () w')→(Builtin.copy_ #[t,t] ty #[.slice A len c,vx]).run P w=.ok (.int .i64 ys.length) w':=fun A c w' hst=>by
    have hmin:Nat.min ys.length len=ys.length:=Nat.min_eq_left hyl
    cases A with
    |none=>
     simp at hst
     subst hst
     simp[Builtin.copy_,run_underlying h2,hlenr,hmin,q0e g1,← g5,hcel,goInt]
    |some a=>
     simp at hst
     simp[Builtin.copy_,run_underlying h2,hlenr,hmin,q0e g1,← g5,hcel,goInt,hst]
   have none0:ys=[]→SimH w I ι (H.set b (.row e' ei.size (V8 xs off ys)))∧Ex H.length w I ι H w I ι (H.set b (.row e' ei.size (V8 xs off ys))):=by
    intro hl0
    subst hl0
    have hset:H.set b (.row e' ei.size (V8 xs off []))=H:=by
     have:V8 xs off []=xs:=by simp[V8]
     rw[this]
     apply List.ext_getElem?
     intro j
     by_cases hj:j=b
     ·subst hj;rw[k2y (k0t.1 hbk).1];exact hbk.symm
     ·rw[k3z (by omega)]
    rw[hset]
    exact⟨hs,Ex.refl (k1v _)⟩
   have emp:ys=[]→news=[]:=fun hy=>List.length_eq_zero_iff.1 (by rw[hrv.1,hy];simp)
   cases hd with
   |msl0 _ _ _ A=>
    have hy:ys=[]:=List.length_eq_zero_iff.1 (by omega)
    obtain⟨k1,k2⟩:=none0 hy
    refine⟨ys.length,_,w,base A 0 w ?_,h,k1,k2⟩
    rw[emp hy]
    cases A <;> simp[storeCells]
   |msl _ _ _ _ B c hB hc hsz=>
    rcases hs.blk b _ hbk with ⟨hxn,q⟩|⟨B',cs,p1,p2,p3,p4,pl,p6⟩
    ·rw[q]at hB;exact absurd hB (by simp)
    ·rw[p1]at hB;obtain rfl:=k0x hB
     have key:=x1a (off:=off) hs hbk p1 p2 p4 pl p6 hrv (show off+ys.length≤xs.length by omega)
     refine⟨ys.length,_,_,base _ c _ ?_,h,key.1,key.2⟩
     have hmul:(off+ys.length)*ei.size≤xs.length*ei.size:=k2v _ (by omega)
     rw[Nat.add_mul]at hmul
     have hlen:=hrv.1
     have hth:=q2c (w:=w) (o:=off*ei.size) (n:=news.length) p2 (by rw[hlen];omega)
     have hrun:=run_storeCells_cells (P:=P) B' (off*ei.size) news 0 w (fun j hj=>by simpa using (hth j hj).1) (fun j hj=>by simpa using (hth j hj).2) (hrv.one (by omega))
     rw[Nat.add_zero]at hrun
     simpa using hrun
  ·exact h.elim
 ·exact h.elim
theorem w2p {t tn e:TypeId}{ei:TI}{ie:TypeInfo}{ze:Value}{kn:IntKind}{s x:AV}{vs vx:Value}{K:AV→List ABlk→Prop}{ty:TypeId}(h2:P.underlying t=some (.slice e))(hn:P.underlying tn=some (.int kn))(g1:P.info? e=some ie)(g3:ie.zero=some ze)(g5:ei.size=ie.size)(g6:ei.bytes=ie.bytes)(g7:ei.zero=ze.cells.toList)(g8:∀ v∈ze.cells.toList,v.oneCell'=true)
 (q1:0<ei.size) (q2:ei.zero.length=ei.size) (hs:SimH w I ι H) (hd:ARep w I ι s vs) (hx:ARep w I ι x vx) (h:z8v H e ei s x K) :
 ∃ v' w' ι' r H',(Builtin.append_ #[t,tn] ty #[vs,vx]).run P w=.ok v' w'∧K r H'∧ARep w' I ι' r v'∧SimH w' I ι' H'∧Ex H.length w I ι H w' I ι' H':=by
 unfold z8v at h
 split at h
 ·rename_i n
  have e1:=Y8 hd
  have e2:=Y8 hx
  subst e1 e2
  obtain⟨⟨n0,nb,nl⟩,h⟩:=h
  obtain⟨N,rfl⟩:∃ N:Nat,n=N:=⟨n.toNat,by omega⟩
  rw[k0u]at h
  have hzs:ze.cells.size=ie.size:=by rw[← g5,← q2,g7];simp
  rcases Nat.eq_zero_or_pos N with hN|hN
  ·subst hN
   have k:=hs.phantom e ei.size
   refine⟨.slice none 0 0,w,ι,_,_,?_,h,.msl0 _ _ _ none,k.1,k.2⟩
   have hw0:IntKind.i64.wrap 0=0:=by rw[IntKind.wrap_i64];omega
   simp[Builtin.append_,run_underlying h2,run_underlying hn,sizeOf,typeInfo,g1,asInt,asIntOf,hw0]
  ·have hb:N*ie.bytes≤140737488355328:=by
    rw[g6]at nb
    have:((N*ie.bytes:Nat):Int)≤140737488355328:=by rw[Int.natCast_mul];exact nb
    omega
   have hrun:=Lib.run_append_nil_zeros (P:=P) w t tn ty e ie ze .i64 kn h2 hn g1 g3 N hN (by omega) (by omega) (by omega)
   let cs:Array Value:=Builtin.zeroCells ze.cells N++Builtin.zeroCells ze.cells (grownCap w N 0 e - N)
   have g:=q7f w (.cells cs e)
   have hv:RowVals w I ie.size (List.replicate N (q5z ei)) (Builtin.zeroCells ze.cells N).toList:=x1d g5 g7 g8 q2 N
   have hvl:=hv.1
   have hcs:(List.replicate N (q5z ei)).length*ie.size≤cs.size:=by
    simp only[cs,Array.size_append]
    simp only[Array.length_toList]at hvl
    omega
   have key:=g.sim hs (.row e ie.size (List.replicate N (q5z ei))) (y1n (vs:=(Builtin.zeroCells ze.cells N).toList) (cs:=cs) (by simp[upd]) g.new (fun hI=>by have:=hs.Ilt _ hI;omega) (hv.move (fun B hB=>g.old B (hs.Ilt B hB)) (fun _ h=>h)) (by simp;omega) hcs (fun k hk=>by
    have hk':k<(Builtin.zeroCells ze.cells N).toList.length:=by rw[hvl];exact hk
    have:=y5w (Builtin.zeroCells ze.cells N).toList (Builtin.zeroCells ze.cells (grownCap w N 0 e - N)).toList k hk'
    simpa [cs] using this))
   have hcap:=grownCap_ge w N 0 e
   rw[g5]at h
   refine⟨_,_,_,_,_,hrun,h,?_,key.1,key.2⟩
   have e0:(⟨w.heap.size,0,none⟩:Addr)=⟨w.heap.size,0*ie.size,none⟩:=by simp
   rw[e0]
   refine .msl _ _ _ _ _ _ (by simp[upd]) hcap ⟨cs,e,(0,0),g.new,?_⟩
   simp only[cs,Array.size_append,size_zeroCells,hzs,← Nat.add_mul]
   exact k2v _ (by omega)
 ·exact h.elim
theorem w2q {c:Call}{b:Builtin}(hT:TOk P T)(ho:o.op=.call c)(hcal:c.callee=.builtin b)(hs:SimH w I ι H)(hx:∀ x∈c.args.toList,ARep w I ι (ev x) (a.eval x))
 (h:z3j T b c.argTypes.toList (c.args.toList.map ev) H K) (hn:Nx w I ι H K fun v w'=>next (a.put o.dst v) w'):o.wp P a w next Q:=by
 generalize hargs:c.args.toList.map ev=xs at h
 generalize hts:c.argTypes.toList=ts at h
 have mm:∀ (mx:Bool) (x x':AV),[x,x']=xs→b=cond mx .max .min→z5b mx x x' (fun u=>K u H)→o.wp P a w next Q:=by
  intro mx x x' hxs hb h0
  subst hxs
  obtain⟨y,y',hy,hyx,hyx'⟩:=v3p hargs
  have h1:=hx y (by rw[hy];simp)
  have h2:=hx y' (by rw[hy];simp)
  rw[hyx]at h1
  rw[hyx']at h2
  unfold z5b at h0
  split at h0
  ·rename_i k p k' q
   have v1:=Y8 h1
   have v2:=Y8 h2
   refine W3 (w':=w) (q1b ho hcal (v:=.int k (cond mx (if q > p then q else p) (if q<p then q else p))) fun consts=>?_) (hn.here hs h0 (.p (.raw _ rfl)))
   subst hb
   rw[hy]
   cases mx
   ·simp[builtin,v1,v2,run_min_int2]
   ·simp[builtin,v1,v2,run_max_int2]
  ·exact h0.elim
 unfold z3j at h
 split at h
 ·rename_i x
  split at h
  ·rename_i t
   obtain⟨y,hy,hyx⟩:=args1 hargs
   have hxy:=hx y (by rw[hy];simp)
   rw[hyx]at hxy
   replace h:=W9 h
   obtain⟨ti,hti,h⟩:=h
   obtain⟨i,d,z,h1,h2,h3,h4,h5,h6,h7,h8⟩:=tok hT hti
   have htt:=x4a hts
   unfold v9b at h
   split at h
   ·rename_i e he
    rw[he]at h4
    obtain rfl:=q0t h4
    have hlen:∀ (A:Option Addr) (n c':Nat),a.eval y=.slice A n c'→(execOp a.eval o).run P w=.ok (.value (.int .i64 n)) w:=by
     intro A n c' hv
     refine q1b ho hcal fun consts=>?_
     rw[hy,htt]
     simp[builtin,Builtin.len_,hv,run_underlying h2,goInt]
    unfold v9a at h
    split at h
    ·generalize hv:a.eval y=v at hxy
     cases z3k hxy with
     |sl=>exact W3 (hlen _ _ _ hv) (hn.here hs h (.p (.raw _ rfl)))
    ·generalize hv:a.eval y=v at hxy
     cases hxy with
     |msl=>exact W3 (hlen _ _ _ hv) (hn.here hs h (.p (.raw _ rfl)))
     |msl0=>exact W3 (hlen _ _ _ hv) (hn.here hs h (.p (.raw _ rfl)))
    ·have hv:=Y8 hxy
     exact W3 (hlen _ _ _ hv) (hn.here hs h (.p (.raw _ rfl)))
    ·exact h.elim
   ·rename_i he
    rw[he]at h4
    obtain rfl:=q8x h4
    split at h
    ·rename_i s
     have hv:=Y8 hxy
     refine W3 (q1b ho hcal (v:=.int .i64 s.size) fun consts=>?_) (hn.here hs h (.p (.raw _ rfl)))
     rw[hy,htt]
     simp[builtin,Builtin.len_,hv,run_underlying h2,goInt]
    ·exact h.elim
   ·rename_i n e he
    rw[he]at h4
    obtain rfl:=z1i h4
    refine W3 (q1b ho hcal (v:=.int .i64 n) fun consts=>?_) (hn.here hs h (.p (.raw _ rfl)))
    rw[hy,htt]
    simp[builtin,Builtin.len_,run_underlying h2,goInt]
   ·exact h.elim
  ·exact h.elim
 ·rename_i s x
  split at h
  ·rename_i t t'
   obtain⟨y,y',hy,hyx,hyx'⟩:=v3p hargs
   have k1:=hx y (by rw[hy];simp)
   have k2:=hx y' (by rw[hy];simp)
   rw[hyx]at k1
   rw[hyx']at k2
   split at h
   ·rename_i htt0
    have c1:t=t':=k0z htt0
    subst c1
    replace h:=W9 h
    obtain⟨ti,hti,h⟩:=h
    obtain⟨i,d,z,h1,h2,h3,h4,h5,h6,h7,h8⟩:=tok hT hti
    have htt:=x4b hts
    split at h
    ·rename_i e he
     rw[he]at h4
     obtain rfl:=q0t h4
     replace h:=W9 h
     obtain⟨ei,hei,h⟩:=h
     obtain⟨ie,de,ze,g1,g2,g3,g4,g5,g6,g7,g8⟩:=tok hT hei
     replace h:=J3 h
     obtain⟨q,h⟩:=h
     simp only[Bool.and_eq_true,decide_eq_true_eq,beq_iff_eq]at q
     obtain⟨⟨q1,q2⟩,q3⟩:=q
     have hzs:ze.cells.size=ie.size:=by rw[← g5,← q3,g7];simp
     obtain⟨v',w',I',ι',r,H',e1,e2,e3,e4,e5⟩:=w2k (ty:=o.type) h2 g1 g2 g3 g5 g6 hzs q1 q2 hs k1 k2 h
     refine W3 (q1b ho hcal fun consts=>?_) (hn _ _ _ _ _ _ e2 e3 e4 e5)
     rw[hy,htt]
     simp[builtin,e1]
    ·exact h.elim
   ·replace h:=W9 h
    obtain⟨ti,hti,h⟩:=h
    obtain⟨i,d,z,h1,h2,h3,h4,h5,h6,h7,h8⟩:=tok hT hti
    replace h:=W9 h
    obtain⟨tj,htj,h⟩:=h
    obtain⟨i',d',z',h1',h2',h3',h4',h5',h6',h7',h8'⟩:=tok hT htj
    have htt:=x4b hts
    split at h
    ·rename_i e kn he hen
     rw[he]at h4
     rw[hen]at h4'
     obtain rfl:=q0t h4
     obtain rfl:=z8x h4'
     replace h:=W9 h
     obtain⟨ei,hei,h⟩:=h
     obtain⟨ie,de,ze,g1,g2,g3,g4,g5,g6,g7,g8⟩:=tok hT hei
     replace h:=J3 h
     obtain⟨q,h⟩:=h
     simp only[Bool.and_eq_true,decide_eq_true_eq,beq_iff_eq]at q
     obtain⟨q1,q2⟩:=q
     obtain⟨v',w',ι',r,H',e1,e2,e3,e4,e5⟩:=w2p (ty:=o.type) h2 h2' g1 g3 g5 g6 g7 g8 q1 q2 hs k1 k2 h
     refine W3 (q1b ho hcal fun consts=>?_) (hn _ _ _ _ _ _ e2 e3 e4 e5)
     rw[hy,htt]
     simp[builtin,e1]
    ·exact h.elim
  ·exact h.elim
 ·rename_i s x
  split at h
  ·rename_i t t'
   replace h:=J3 h
   obtain⟨c1,h⟩:=h
   have c1:t=t':=k0z c1
   subst c1
   obtain⟨y,y',hy,hyx,hyx'⟩:=v3p hargs
   have k1:=hx y (by rw[hy];simp)
   have k2:=hx y' (by rw[hy];simp)
   rw[hyx]at k1
   rw[hyx']at k2
   replace h:=W9 h
   obtain⟨ti,hti,h⟩:=h
   obtain⟨i,d,z,h1,h2,h3,h4,h5,h6,h7,h8⟩:=tok hT hti
   have htt:=x4b hts
   split at h
   ·rename_i e he
    rw[he]at h4
    obtain rfl:=q0t h4
    replace h:=W9 h
    obtain⟨ei,hei,h⟩:=h
    obtain⟨ie,de,ze,g1,g2,g3,g4,g5,g6,g7,g8⟩:=tok hT hei
    replace h:=J3 h
    obtain⟨q,h⟩:=h
    have q1:=k0z q
    obtain⟨n,H',w',r1,r2,r3,r4⟩:=v9f (ty:=o.type) h2 g1 g5 q1 hs k1 k2 h
    refine W3 (q1b ho hcal fun consts=>?_) (hn _ _ _ _ _ _ r2 (.p (.raw _ rfl)) r3 r4)
    rw[hy,htt]
    simp[builtin,r1]
   ·exact h.elim
  ·exact h.elim
 ·rename_i x
  split at h
  ·rename_i t
   obtain⟨y,hy,hyx⟩:=args1 hargs
   have hxy:=hx y (by rw[hy];simp)
   rw[hyx]at hxy
   replace h:=W9 h
   obtain⟨ti,hti,h⟩:=h
   obtain⟨i,d,z,h1,h2,h3,h4,h5,h6,h7,h8⟩:=tok hT hti
   have htt:=x4a hts
   unfold v9c at h
   split at h
   ·rename_i e _ he
    rw[he]at h4
    obtain rfl:=q0t h4
    have hv:=Y8 hxy
    refine W3 (q1b ho hcal (v:=.int .i64 0) fun consts=>?_) (hn.here hs h (.p (.raw _ rfl)))
    rw[hy,htt]
    simp[builtin,Builtin.cap_,hv,run_underlying h2,goInt]
   ·exact h.elim
  ·exact h.elim
 ·exact mm true _ _ rfl rfl h
 ·exact mm false _ _ rfl rfl h
 ·rename_i x
  split at h
  ·rename_i t
   obtain⟨y,hy,hyx⟩:=args1 hargs
   have hxy:=hx y (by rw[hy];simp)
   rw[hyx]at hxy
   replace h:=W9 h
   obtain⟨ti,hti,h⟩:=h
   obtain⟨i,d,z,h1,h2,h3,h4,h5,h6,h7,h8⟩:=tok hT hti
   have htt:=x4a hts
   split at h
   ·rename_i e he
    rw[he]at h4
    obtain rfl:=q0t h4
    replace h:=W9 h
    obtain⟨ei,hei,h⟩:=h
    obtain⟨ie,de,ze,g1,g2,g3,g4,g5,g6,g7,g8⟩:=tok hT hei
    replace h:=J3 h
    obtain⟨q,h⟩:=h
    simp only[Bool.and_eq_true,decide_eq_true_eq,beq_iff_eq]at q
    obtain⟨q1,q2⟩:=q
    obtain⟨H',w',r1,r2,r3,r4⟩:=v3q (ty:=o.type) h2 g1 g3 g5 g7 g8 q1 q2 hs hxy h
    refine W3 (q1b ho hcal (v:=.tuple #[]) fun consts=>?_) (hn _ _ _ _ _ _ r2 (.top _) r3 r4)
    rw[hy,htt]
    simp[builtin,r1]
   ·exact h.elim
  ·exact h.elim
 ·exact h.elim
theorem x1e:∀ (bs:List UInt8) (s:ByteArray),(bs.map fun b=>(b.toNat:Int)).foldl (fun r n=>r.push (UInt8.ofNat n.toNat)) s=⟨s.data++bs.toArray⟩
 |[],s=>by simp
 |b :: bs,s=>by
  rw[List.map_cons,List.foldl_cons,x1e bs]
  simp[ByteArray.push]
theorem w8p {sz:Nat}{x:AV}{v:Value}{ys:List (List PV)}(h:z8t H sz x=some ys)(hx:ARep w I ι x v):∃ A c,v=.slice A ys.length c:=by
 unfold z8t at h
 split at h
 ·split at h
  ·obtain rfl:=k0x h
   cases z3k hx with
   |sl=>exact⟨_,_,rfl⟩
  ·exact absurd h (by simp)
 ·rename_i b sz' off len
  split at h
  ·rename_i e sz'' xs hb
   split at h
   ·rename_i hc
    obtain rfl:=k0x h
    simp only[Bool.and_eq_true,Nat.ble_eq]at hc
    have hl:((xs.drop off).take len).length=len:=by simp;omega
    rw[hl]
    cases hx with
    |msl=>exact⟨_,_,rfl⟩
    |msl0=>exact⟨_,_,rfl⟩
   ·exact absurd h (by simp)
  ·exact absurd h (by simp)
 ·obtain rfl:=k0x h
  have hv:=Y8 hx
  exact⟨none,0,hv⟩
 ·exact absurd h (by simp)
theorem v3r {src dst:TypeId}{x:Operand}{e:TypeId}(hT:TOk P T)(ho:o.op=.convert src dst x)(hs:SimH w I ι H)(hx:ARep w I ι (ev x) (a.eval x))(h1:P.underlying src=some (.slice e))(h2:P.underlying dst=some .string)
 (h:W8 (T e) fun ei=>match ei.d with
  |.int .u8=>chk (ei.size==1) (W8 (z8t H 1 (ev x)) fun ys=>∃ bs:List UInt8,ys=bs.map (fun b=>[PV.raw (.int .u8 b.toNat)])∧K (.p (.raw (.string ⟨bs.toArray⟩))) H)
  |_=>False) (hn:Nx w I ι H K fun v w'=>next (a.put o.dst v) w'):o.wp P a w next Q:=by
 obtain⟨ei,hei,h⟩:=W9 h
 obtain⟨ie,de,ze,g1,g2,g3,g4,g5,g6,g7,g8⟩:=tok hT hei
 split at h
 ·rename_i he
  rw[he]at g4
  obtain rfl:=z8x g4
  obtain⟨c,h⟩:=J3 h
  obtain⟨ys,hys,bs,rfl,h⟩:=W9 h
  obtain⟨news,hsrc,hrv⟩:=y5v h1 (Nat.lt_succ_self 0) hs hys hx
  have hnews:news=bs.map fun b=>Value.int .u8 b.toNat:=by
   apply List.ext_getElem?
   intro j
   have hl:=hrv.1
   simp only[List.length_map,Nat.mul_one]at hl
   rcases Nat.lt_or_ge j bs.length with hlt|hge
   ·obtain⟨_,r2⟩:=hrv.2 j [PV.raw (.int .u8 bs[j].toNat)] (by rw[k1z,k0w hlt];rfl)
    have:=r2 0 _ rfl
    rw[Nat.mul_one,Nat.add_zero,k0v,k0w (by omega)]at this
    generalize hq:(some news[j]).getD undef=q at this
    cases this
    rw[k1z,k0w hlt,k0w (by omega)]
    simp at hq ⊢;exact hq
   ·rw[List.getElem?_eq_none (by omega),List.getElem?_eq_none (by simp;omega)]
  refine W3 (v:=.string ⟨bs.toArray⟩) (w':=w) ?_ (hn.here hs h (.p (.raw _ rfl)))
  obtain⟨A,c',hv⟩:=w8p hys hx
  have hns:bs.map (fun b=>Value.int .u8 b.toNat)=(bs.map fun b=>(b.toNat:Int)).map (Value.int .u8):=by simp
  rw[hv]at hsrc
  have hcells:=hsrc.cells
  have hrun:(Conv.bytesToString (.slice A (bs.map fun b=>[PV.raw (.int .u8 b.toNat)]).length c')).run P w=.ok (.string ⟨bs.toArray⟩) w:=by
   cases A with
   |none=>
    have hn0:news=[]:=by
     have:Result.ok (#[]:Array Value) w=.ok news.toArray w:=by simpa [Builtin.firstCells] using hcells
     have:=(Result.ok.inj this).1
     simpa using this.symm
    have hb0:bs=[]:=by
     rw[hn0]at hnews
     have:=congrArg List.length hnews
     exact List.length_eq_zero_iff.1 (by simpa using this.symm)
    subst hb0
    rfl
   |some ad=>
    have:=run_bytesToString (P:=P) w ad (bs.map fun b=>[PV.raw (.int .u8 b.toNat)]).length c' (bs.map fun b=>(b.toNat:Int)) (by
     rw[hnews,hns]at hcells
     simpa [Builtin.firstCells] using hcells)
    rw[this,x1e]
    simp[ByteArray.empty,ByteArray.emptyWithCapacity]
    rfl
  have:=run_convert_bytes_string (P:=P) w src dst e A (bs.map fun b=>[PV.raw (.int .u8 b.toNat)]).length c' h1 g2 h2
  simp only[execOp,ho,hv,Sem.run_bind,this,hrun]
  rfl
 ·exact h.elim
theorem y1q {ro:Option Nat}(hT:TOk P T)(hs:SimH w I ι H)(hx:∀ x∈J8 o.op,ARep w I ι (ev x) (a.eval x))(h:aop P T (y3j P) ev H K o.op)(hn:Nx w I ι H K fun v w'=>next (a.put o.dst v) w'):o.wpIn (fen ro) 0 P a w next Q:=by
 generalize ho:o.op=op at h hx
 have nd:(∀ c,op≠.defer c)→∀ c,o.op≠.defer c:=fun h=>by rw[ho];exact h
 cases op <;> try exact h.elim
 case call c=>
  unfold aop at h
  simp only[opV]at h
  split at h
  ·rename_i f hf
   have hx':∀ x∈c.args.toList,ARep w I ι (ev x) (a.eval x):=fun x hx'=>hx x (by simp only[J8];exact List.mem_append_right _ hx')
   have hfr:=hx f (by simp[J8,hf])
   simp only[J8,hf,List.singleton_append,List.map_cons,onC]at h
   have hargs:=Says.map (ι:=ι) hx'
   unfold z5c at h
   split at h
   ·rename_i k caps hk
    rw[hk]at hfr
    generalize hv:a.eval f=v at hfr
    cases hfr with
    |clo _ _ vs hn' hr=>exact q8a (nd (fun _=>by simp)) (x3z ho hf hv (by simpa using hargs.append ⟨hn',hr⟩) hs h hn)
   ·rename_i k first hk
    rw[hk]at hfr
    generalize hv:a.eval f=v at hfr
    cases hfr with
    |mth _ _ vs hn' hr=>exact q8a (nd (fun _=>by simp)) (x3z ho hf hv (by simpa using Says.append ⟨hn',hr⟩ hargs) hs h hn)
   ·rename_i b hb
    exact v3n ho hf hb hs hfr hx' h hn
   ·rename_i k hk
    rw[hk]at hfr
    have hv:=Y8 hfr
    exact q8a (nd (fun _=>by simp)) (x3z ho hf hv (by simpa using hargs) hs h hn)
   ·exact h.elim
  ·rename_i b hb
   simp only[J8,hb,List.nil_append]at h
   exact q8a (nd (fun _=>by simp)) (w2q hT ho hb hs (fun x hx'=>hx x (by simp only[J8];exact List.mem_append_right _ hx')) h hn)
  ·exact h.elim
 all_goals refine q8a (nd (fun _=>by simp)) ?_
 case move x=>exact w6e (.inl ho) hs (hx x (by simp[J8])) h hn
 case assign x=>exact w6e (.inr ho) hs (hx x (by simp[J8])) h hn
 case pick c x y=>exact v9d ho hs (hx c (by simp[J8])) (hx x (by simp[J8])) (hx y (by simp[J8])) h hn
 case alloc t=>exact v3d hT ho hs h hn
 case box t x=>exact u2g ho hs (hx x (by simp[J8])) h hn
 case build t ps=>exact v3g hT ho hs (fun p hp=>hx p.2 (by simp only[J8];exact List.mem_map_of_mem hp)) h hn
 case buildSlice t n ps=>exact y9w hT ho hs (fun p hp=>hx p.2 (by simp only[J8];exact List.mem_map_of_mem hp)) h hn
 case load t x=>exact v9e hT ho hs (hx x (by simp[J8])) h hn
 case store t p x=>exact v3e hT ho hs (hx p (by simp[J8])) (hx x (by simp[J8])) h hn
 case binOp op t x y yt=>exact u2k hT ho hs (hx x (by simp[J8])) (hx y (by simp[J8])) h hn
 case unOp op t x=>exact u4a ho hs (hx x (by simp[J8])) h hn
 case convert s d x=>
  have hx1:=hx x (by simp[J8])
  exact w2g hT ho hs hx1 (fun e h1 h2 h3=>v3r hT ho hs hx1 h2 h3 h1 hn) h hn
 case makeFunc fn first caps=>
  simp only[aop,opV,J8]at h
  split at h
  ·rename_i he
   have he:first = #[]:=by simpa using he
   subst he
   exact x6z ho hs (fun x hx'=>hx x (by simp[J8];simpa using hx')) (y5k rfl (by simpa using h)) hn
  ·obtain⟨c,h⟩:=J3 h
   have hc:caps = #[]:=by
    have:first.size+caps.size=first.size:=by simpa using c
    exact Array.eq_empty_of_size_eq_zero (by omega)
   subst hc
   exact w2h ho hs (fun x hx'=>hx x (by simp[J8];simpa using hx')) rfl (by simpa using h) hn
 case makeSlice t l c=>exact x3x hT ho hs (hx l (by simp[J8])) (hx c (by simp[J8])) h hn
 case slice t x lo hi mx=>
  refine v3i hT ho hs (hx x (by simp[J8])) (fun y hy=>hx y (by simp[J8,hy])) (fun y hy=>hx y (by simp[J8,hy])) ?_ hn
  cases lo <;> cases hi <;> exact h
 case fieldAddr s x f=>exact x3w hT ho hs (hx x (by simp[J8])) h hn
 case field s x f=>exact v3f hT ho hs (hx x (by simp[J8])) h hn
 case indexAddr t x y=>exact x3y hT ho hs (hx x (by simp[J8])) (hx y (by simp[J8])) h hn
 case index t x y=>exact v3j hT ho hs (hx x (by simp[J8])) (hx y (by simp[J8])) h hn
 case extract x i=>exact w2i ho hs (hx x (by simp[J8])) h hn
 case nilCheck x=>exact x7a ho hs (hx x (by simp[J8])) h hn
 case makeMap t r=>exact w2n ho hs h hn
 case insert t m k x=>exact x1c hT (.inr ho) hs (hx m (by simp[J8])) (hx k (by simp[J8])) (hx x (by simp[J8])) h hn
 case mapUpdate t m k x=>exact x1c hT (.inl ho) hs (hx m (by simp[J8])) (hx k (by simp[J8])) (hx x (by simp[J8])) h hn
 case lookup t m k ok=>exact w8n hT ho hs (hx m (by simp[J8])) (hx k (by simp[J8])) h hn
end
end Go.Proofs.YtkjklhcfgbaceaaGreat.AL
namespace Go.Proofs.YtkjklhcfgbaceaaGreat.AL
open Go Go.RowKit
section
variable {P:Program} {T:J0}
def Det {α:Type}(F:(α→Prop)→Prop):Prop:=∀ K,F K→∃ x,(∀ K':α→Prop,K' x→F K')∧K x
theorem Z6 {α:Type}(x:α):Det fun K=>K x:=fun _ hk=>⟨x,fun _ h=>h,hk⟩
theorem Z9 {α β:Type}(o:Option β){F:β→(α→Prop)→Prop}(h:∀ x,o=some x→Det (F x)):Det fun K=>W8 o fun x=>F x K:=fun K hk=>by
 cases o with
 |none=>exact hk.elim
 |some x=>exact h x rfl K hk
theorem X3 {α:Type}(b:Bool){F:(α→Prop)→Prop}(h:b=true→Det F):Det fun K=>chk b (F K):=fun K hk=>by
 cases b with
 |false=>exact hk.elim
 |true=>exact h rfl K hk
theorem q0g {α:Type}(p:Prop){F:(α→Prop)→Prop}(h:Det F):Det fun K=>p∧F K:=fun K hk=>by
 obtain⟨x,h1,h2⟩:=h K hk.2
 exact⟨x,fun K' hk'=>⟨hk.1,h1 K' hk'⟩,h2⟩
theorem q1c {α β:Type}{F:(α→Prop)→Prop}(h:Det F)(g:α→β):Det fun K=>F (fun x=>K (g x)):=fun K hk=>by
 obtain⟨x,h1,h2⟩:=h _ hk
 exact⟨g x,fun K' hk'=>h1 _ hk',h2⟩
theorem x7f (H:List ABlk)(x:AV)(n:Nat):Det (y3f H x n):=by
 intro K hk
 unfold y3f at hk ⊢
 split at hk
 ·exact X3 _ (fun _=>Z6 _) K hk
 ·split at hk
  ·exact X3 _ (fun _=>Z6 _) K hk
  ·exact hk.elim
 ·split at hk
  ·exact X3 _ (fun _=>Z9 _ fun e _=>X3 _ fun _=>Z6 _) K hk
  ·exact X3 _ (fun _=>Z6 _) K hk
  ·exact hk.elim
 ·exact hk.elim
theorem w8q (H:List ABlk)(x:AV)(vs:List AV):Det (y1f H x vs):=by
 intro K hk
 unfold y1f at hk ⊢
 split at hk
 ·split at hk
  ·exact X3 _ (fun _=>Z6 _) K hk
  ·exact hk.elim
 ·split at hk
  ·exact X3 _ (fun _=>Z9 _ fun e _=>X3 _ fun _=>Z9 _ fun ps _=>Z6 _) K hk
  ·exact X3 _ (fun _=>Z6 _) K hk
  ·exact hk.elim
 ·exact hk.elim
theorem x1f (op:BinOp)(k:IntKind)(x y:Int):Det (y1g op k x y):=by
 intro K hk
 cases op <;> simp only[y1g]at hk ⊢ <;> first|exact hk.elim|exact X3 _ (fun _=>Z6 _) K hk
theorem v9g (op:BinOp)(k:IntKind)(x y:Int):Det (v2w op k x y):=by
 intro K hk
 cases op <;> simp only[v2w]at hk ⊢ <;> first|exact hk.elim|exact Z6 _ K hk|exact X3 _ (fun _=>Z6 _) K hk
theorem v9h (P:Program)(T:J0)(op:BinOp)(t:TypeId)(xo yo:Operand)(x y:AV):Det (v2x P T op t xo yo x y):=by
 intro K hk
 unfold v2x at hk ⊢
 split at hk
 ·split at hk
  ·exact x1f _ _ _ _ K hk
  ·exact x1f _ _ _ _ K hk
  ·exact X3 _ (fun _=>v9g _ _ _ _) K hk
 ·split at hk
  ·obtain⟨c,h1,h2⟩:=hk
   exact⟨_,fun K' hk'=>⟨c,h1,hk'⟩,h2⟩
  ·obtain⟨c,h1,h2⟩:=hk
   exact⟨_,fun K' hk'=>⟨c,h1,hk'⟩,h2⟩
  ·obtain⟨r,h1,h2,h3⟩:=hk
   exact⟨r,fun K' hk'=>⟨r,h1,h2,hk'⟩,h3⟩
 ·split at hk
  ·exact Z6 _ K hk
  ·exact Z6 _ K hk
  ·exact hk.elim
 ·refine Z9 _ (fun vs _=>Z9 _ fun vs' _=>?_) K hk
  intro K hk
  obtain⟨r,h1,h2,h3⟩:=hk
  exact⟨r,fun K' hk'=>⟨r,h1,h2,hk'⟩,h3⟩
 ·split at hk
  ·split at hk
   ·exact Z6 _ K hk
   ·exact X3 _ (fun _=>Z6 _) K hk
  ·split at hk
   ·exact Z6 _ K hk
   ·exact X3 _ (fun _=>Z6 _) K hk
  ·exact hk.elim
 ·exact hk.elim
theorem v3s (P:Program)(T:J0)(op:BinOp)(t:TypeId)(xo yo:Operand)(x y:AV)(hy:(match yo with|.const (.slice none 0 0)=>false|_=>true)=true):Det (v3a P T op t xo yo x y):=by
 intro K hk
 unfold v3a at hk ⊢
 split at hk
 ·simp at hy
 ·exact v9h _ _ _ _ _ _ _ _ K hk
theorem u2n (op:UnOp)(x:AV):Det (unK op x):=by
 intro K hk
 unfold unK at hk ⊢
 split at hk
 ·exact Z6 _ K hk
 ·exact Z6 _ K hk
 ·exact hk.elim
theorem w8r (sz:Nat)(x:AV)(lo hi:Option AV):Det (y5n sz x lo hi):=by
 intro K hk
 unfold y5n at hk ⊢
 split at hk
 ·exact X3 _ (fun _=>Z9 _ fun l _=>Z9 _ fun h _=>q0g _ (Z6 _)) K hk
 ·exact X3 _ (fun _=>Z9 _ fun l _=>Z9 _ fun h _=>q0g _ (Z6 _)) K hk
 ·exact Z9 _ (fun l _=>Z9 _ fun h _=>q0g _ (Z6 _)) K hk
 ·exact hk.elim
theorem w2r (x:AV)(n:Nat):Det (y5p x n):=by
 intro K hk
 unfold y5p at hk ⊢
 split at hk
 ·exact Z6 _ K hk
 ·exact Z6 _ K hk
 ·exact Z6 _ K hk
 ·exact hk.elim
theorem x1g (d:TD)(sz:Nat)(x i:AV):Det (y1h d sz x i):=by
 intro K hk
 unfold y1h at hk ⊢
 split at hk
 ·split at hk
  ·exact X3 _ (fun _=>q0g _ (Z9 _ fun e _=>Z6 _)) K hk
  ·exact X3 _ (fun _=>q0g _ (Z6 _)) K hk
  ·exact q0g _ (Z6 _) K hk
  ·exact q0g _ (Z6 _) K hk
  ·exact X3 _ (fun _=>q0g _ (Z6 _)) K hk
  ·exact hk.elim
 ·exact hk.elim
theorem v9i (x:AV):Det (v9a x):=by
 intro K hk
 unfold v9a at hk ⊢
 split at hk
 ·exact Z6 _ K hk
 ·exact Z6 _ K hk
 ·exact Z6 _ K hk
 ·exact hk.elim
theorem v3t (d:TD)(x:AV):Det (v9b d x):=by
 intro K hk
 unfold v9b at hk ⊢
 split at hk
 ·exact v9i _ K hk
 ·split at hk
  ·exact Z6 _ K hk
  ·exact hk.elim
 ·exact Z6 _ K hk
 ·exact hk.elim
theorem y5y (H:List ABlk)(e:TypeId)(ti:TI)(s x:AV):Det fun K:AV × List ABlk→Prop=>z5a H e ti s x fun u H'=>K (u,H'):=by
 intro K hk
 unfold z5a at hk ⊢
 refine Z9 _ (F:=fun ys K=>_) (fun ys _=>?_) K hk
 intro K hk
 split at hk
 ·exact q0g _ (Z6 _) K hk
 ·split at hk
  ·exact X3 _ (fun _=>q0g _ (q0g _ (Z6 _))) K hk
  ·exact hk.elim
 ·exact hk.elim
theorem x7g (H:List ABlk)(e:TypeId)(ti:TI)(s x:AV):Det fun K:AV × List ABlk→Prop=>z8u H e ti s x fun u H'=>K (u,H'):=by
 intro K hk
 unfold z8u at hk ⊢
 split at hk
 ·split at hk
  ·refine X3 _ (F:=fun K=>_) (fun _=>?_) K hk
   intro K hk
   unfold x3q at hk ⊢
   split at hk
   ·exact q0g _ (Z6 _) K hk
   ·split at hk
    ·exact X3 _ (fun _=>q0g _ (Z6 _)) K hk
    ·exact hk.elim
   ·exact hk.elim
  ·exact y5y H e ti s _ K hk
 ·exact y5y H e ti s _ K hk
theorem w8s (H:List ABlk)(ti:TI)(x:AV):Det (y5q H ti x):=by
 intro K hk
 unfold y5q at hk ⊢
 split at hk
 ·split at hk
  ·exact X3 _ (fun _=>q0g _ (Z6 _)) K hk
  ·exact hk.elim
 ·exact Z6 _ K hk
 ·exact hk.elim
theorem w2s (ei:TI)(N:Nat)(d:TD)(x i:AV):Det (x3r ei N d x i):=by
 intro K hk
 unfold x3r at hk ⊢
 split at hk
 ·exact q0g _ (X3 _ fun _=>Z6 _) K hk
 ·exact hk.elim
theorem w2t (x i:AV):Det (x3s x i):=by
 intro K hk
 unfold x3s at hk ⊢
 split at hk
 ·exact q0g _ (Z9 _ fun _ _=>Z6 _) K hk
 ·exact hk.elim
theorem y5z (T:J0)(t:TypeId)(H:List ABlk)(m k v:AV):Det (z5d T t H m k v):=by
 intro K hk
 unfold z5d at hk ⊢
 split at hk
 ·refine Z9 _ (F:=fun v K=>_) (fun v _=>?_) K hk
  refine Z9 _ (F:=fun ti K=>_) (fun ti _=>?_)
  intro K hk
  split at hk
  ·refine Z9 _ (F:=fun ki K=>_) (fun ki _=>?_) K hk
   refine X3 _ (F:=fun K=>_) (fun _=>?_)
   intro K hk
   split at hk
   ·exact Z9 _ (fun _ _=>Z6 _) K hk
   ·exact hk.elim
  ·exact hk.elim
 ·exact hk.elim
theorem y6a (P:Program)(T:J0)(t:TypeId)(ok:Bool)(H:List ABlk)(m k:AV):Det (z8w P T t ok H m k):=by
 intro K hk
 unfold z8w at hk ⊢
 split at hk
 ·refine Z9 _ (F:=fun ti K=>_) (fun ti _=>?_) K hk
  intro K hk
  split at hk
  ·refine Z9 _ (F:=fun ki K=>_) (fun ki _=>?_) K hk
   refine Z9 _ (F:=fun ei K=>_) (fun ei _=>?_)
   refine X3 _ (F:=fun K=>_) (fun _=>?_)
   intro K hk
   split at hk
   ·refine Z9 _ (F:=fun r K=>_) (fun r _=>?_) K hk
    intro K hk
    split at hk
    ·exact X3 _ (fun _=>Z6 _) K hk
    ·obtain⟨i,v,h1,h2,h3,h4⟩:=hk
     exact⟨_,fun K' hk'=>⟨i,v,h1,h2,h3,hk'⟩,h4⟩
   ·exact hk.elim
  ·exact hk.elim
 ·exact hk.elim
theorem v3u (s d:TI)(u:AV)(H:List ABlk)(T:J0):Det fun K:AV × List ABlk→Prop=>x6u s d u H T fun u H'=>K (u,H'):=by
 intro K hk
 unfold x6u at hk ⊢
 split at hk
 ·exact Z6 _ K hk
 ·refine Z9 _ (F:=fun ei K=>_) (fun ei _=>?_) K hk
  intro K hk
  split at hk
  ·refine X3 _ (F:=fun K=>_) (fun _=>?_) K hk
   refine Z9 _ (F:=fun ys K=>_) (fun ys _=>?_)
   intro K hk
   obtain⟨bs,h1,h2⟩:=hk
   exact⟨_,fun K' hk'=>⟨bs,h1,hk'⟩,h2⟩
  ·exact hk.elim
 ·exact hk.elim
theorem q5d {α:Type}(us:List AV){F:AV→(α→Prop)→Prop}(h:∀ x,Det (F x)):Det fun K=>on1 us fun x=>F x K:=by
 intro K hk
 unfold on1 at hk ⊢
 split at hk
 ·exact h _ K hk
 ·exact hk.elim
theorem z5f {α:Type}(us:List AV){F:AV→AV→(α→Prop)→Prop}(h:∀ x y,Det (F x y)):Det fun K=>on2 us fun x y=>F x y K:=by
 intro K hk
 unfold on2 at hk ⊢
 split at hk
 ·exact h _ _ K hk
 ·exact hk.elim
theorem x4c {α:Type}(us:List AV){F:AV→AV→AV→(α→Prop)→Prop}(h:∀ x y z,Det (F x y z)):Det fun K=>on3 us fun x y z=>F x y z K:=by
 intro K hk
 unfold on3 at hk ⊢
 split at hk
 ·exact h _ _ _ K hk
 ·exact hk.elim
theorem w6i {α:Type}(us:List AV){F:AV→List AV→(α→Prop)→Prop}(h:∀ x r,Det (F x r)):Det fun K=>onC us fun x r=>F x r K:=by
 intro K hk
 unfold onC at hk ⊢
 split at hk
 ·exact h _ _ K hk
 ·exact hk.elim
theorem y6b (mx:Bool)(x y:AV):Det (z5b mx x y):=by
 intro K hk
 unfold z5b at hk ⊢
 split at hk
 ·exact Z6 _ K hk
 ·exact hk.elim
structure DetC (C:CallA):Prop where
 fn:∀ f args H,Det fun K:AV × List ABlk→Prop=>C.fn f args H fun u H'=>K (u,H')
 yld:∀ b args H,Det fun K:AV × List ABlk→Prop=>C.yld b args H fun u H'=>K (u,H')
theorem w2u {C:CallA}(hC:DetC C)(f:AV)(us:List AV)(H:List ABlk):Det fun K:AV × List ABlk→Prop=>z5c C f us H fun u H'=>K (u,H'):=by
 intro K hk
 unfold z5c at hk ⊢
 split at hk
 ·exact hC.fn _ _ _ K hk
 ·exact hC.fn _ _ _ K hk
 ·exact hC.yld _ _ _ K hk
 ·exact hC.fn _ _ _ K hk
 ·exact hk.elim
theorem v3v (H:List ABlk)(ti:TI)(d x:AV):Det fun K:AV × List ABlk→Prop=>x6t H ti d x fun u H'=>K (u,H'):=by
 intro K hk
 unfold x6t at hk ⊢
 refine Z9 _ (F:=fun ys K=>_) (fun ys _=>?_) K hk
 intro K hk
 split at hk
 ·split at hk
  ·exact X3 _ (fun _=>q0g _ (Z6 _)) K hk
  ·exact hk.elim
 ·exact hk.elim
theorem x7h (H:List ABlk)(e:TypeId)(ti:TI)(s x:AV):Det fun K:AV × List ABlk→Prop=>z8v H e ti s x fun u H'=>K (u,H'):=by
 intro K hk
 unfold z8v at hk ⊢
 split at hk
 ·exact q0g _ (Z6 _) K hk
 ·exact hk.elim
theorem v3w (d:TD)(x:AV):Det (v9c d x):=by
 intro K hk
 unfold v9c at hk ⊢
 split at hk
 ·exact Z6 _ K hk
 ·exact hk.elim
theorem x7i (T:J0)(b:Builtin)(ts:List TypeId)(xs:List AV)(H:List ABlk):Det fun K:AV × List ABlk→Prop=>z3j T b ts xs H fun u H'=>K (u,H'):=by
 intro K hk
 unfold z3j at hk ⊢
 split at hk
 ·split at hk
  ·exact Z9 _ (fun ti _=>q1c (v3t _ _) (fun u=>(u,H))) K hk
  ·exact hk.elim
 ·split at hk
  ·split at hk
   ·refine Z9 _ (F:=fun ti K=>_) (fun ti _=>?_) K hk
    intro K hk
    split at hk
    ·exact Z9 _ (fun ei _=>X3 _ fun _=>x7g _ _ _ _ _) K hk
    ·exact hk.elim
   ·refine Z9 _ (F:=fun ti K=>_) (fun ti _=>?_) K hk
    refine Z9 _ (F:=fun tj K=>_) (fun tj _=>?_)
    intro K hk
    split at hk
    ·exact Z9 _ (fun ei _=>X3 _ fun _=>x7h _ _ _ _ _) K hk
    ·exact hk.elim
  ·exact hk.elim
 ·split at hk
  ·refine X3 _ (F:=fun K=>_) (fun _=>?_) K hk
   refine Z9 _ (F:=fun ti K=>_) (fun ti _=>?_)
   intro K hk
   split at hk
   ·exact Z9 _ (fun ei _=>X3 _ fun _=>v3v _ _ _ _) K hk
   ·exact hk.elim
  ·exact hk.elim
 ·split at hk
  ·exact Z9 _ (fun ti _=>q1c (v3w _ _) (fun u=>(u,H))) K hk
  ·exact hk.elim
 ·exact q1c (y6b _ _ _) (fun u=>(u,H)) K hk
 ·exact q1c (y6b _ _ _) (fun u=>(u,H)) K hk
 ·split at hk
  ·refine Z9 _ (F:=fun ti K=>_) (fun ti _=>?_) K hk
   intro K hk
   split at hk
   ·exact Z9 _ (fun ei _=>X3 _ fun _=>q1c (w8s _ _ _) (fun H'=>(AV.top,H'))) K hk
   ·exact hk.elim
  ·exact hk.elim
 ·exact hk.elim
theorem z5g {C:CallA}(hC:DetC C)(H:List ABlk)(o:Op)(us:List AV)(ho:x6v o=true):Det fun K:AV × List ABlk→Prop=>opV P T C H (fun u H'=>K (u,H')) o us:=by
 intro K hk
 cases o <;> simp only[opV]at hk ⊢ <;> try exact hk.elim
 case move x=>exact q5d us (fun x=>Z6 (x,H)) K hk
 case assign x=>exact q5d us (fun x=>Z6 (x,H)) K hk
 case pick c x y=>
  refine x4c us (F:=fun c x y K=>_) (fun c x y=>?_) K hk
  intro K hk
  split at hk
  ·exact Z6 _ K hk
  ·exact hk.elim
 case alloc t=>exact Z9 _ (fun ti _=>Z6 _) K hk
 case box t x=>exact q5d us (fun x=>Z9 _ fun l _=>Z6 _) K hk
 case build t ps=>
  refine Z9 _ (F:=fun ti K=>_) (fun ti _=>?_) K hk
  intro K hk
  split at hk
  ·exact Z9 _ (fun pl _=>Z9 _ fun l _=>Z6 _) K hk
  ·exact Z9 _ (fun pl _=>Z9 _ fun l _=>Z6 _) K hk
  ·exact hk.elim
 case buildSlice t n ps=>
  refine Z9 _ (F:=fun ti K=>_) (fun ti _=>?_) K hk
  intro K hk
  split at hk
  ·exact Z9 _ (fun ei _=>X3 _ fun _=>Z9 _ fun l _=>Z6 _) K hk
  ·exact hk.elim
 case load t x=>exact q5d us (fun a=>Z9 _ fun ti _=>X3 _ fun _=>q1c (x7f _ _ _) (fun us=>(q7w ti.d us,H))) K hk
 case store t p x=>exact z5f us (fun a x=>Z9 _ fun ti _=>Z9 _ fun vs _=>X3 _ fun _=>q1c (w8q _ _ _) (fun H'=>(AV.top,H'))) K hk
 case binOp op t x y yt=>exact z5f us (fun a b=>q1c (v3s _ _ _ _ _ _ _ _ ho) (fun v=>(AV.p (.raw v),H))) K hk
 case unOp op t x=>exact q5d us (fun a=>q1c (u2n _ _) (fun v=>(AV.p (.raw v),H))) K hk
 case convert s d x=>exact q5d us (fun a=>Z9 _ fun s _=>Z9 _ fun d _=>v3u _ _ _ _ _) K hk
 case makeFunc fn first caps=>
  split at hk
  ·exact Z6 _ K hk
  ·exact X3 _ (fun _=>Z6 _) K hk
 case makeMap t r=>exact X3 _ (fun _=>Z6 _) K hk
 case makeSlice t l c=>
  refine z5f us (F:=fun l c K=>_) (fun l c=>?_) K hk
  refine Z9 _ (F:=fun ti K=>_) (fun ti _=>?_)
  intro K hk
  split at hk
  ·refine Z9 _ (F:=fun ei K=>_) (fun ei _=>?_) K hk
   refine X3 _ (F:=fun K=>_) (fun _=>?_)
   intro K hk
   split at hk
   ·exact q0g _ (Z6 _) K hk
   ·exact hk.elim
  ·exact hk.elim
 case slice t x lo hi mx=>
  refine w6i us (F:=fun x r K=>_) (fun x r=>?_) K hk
  refine X3 _ (F:=fun K=>_) (fun _=>?_)
  refine Z9 _ (F:=fun ti K=>_) (fun ti _=>?_)
  intro K hk
  split at hk
  ·exact Z9 _ (fun ei _=>q1c (w8r _ _ _ _) (fun u=>(u,H))) K hk
  ·split at hk
   ·exact Z9 _ (fun l _=>Z9 _ fun h _=>q0g _ (Z6 _)) K hk
   ·exact hk.elim
  ·exact hk.elim
 case fieldAddr s x f=>
  refine q5d us (F:=fun x K=>_) (fun x=>?_) K hk
  refine Z9 _ (F:=fun ti K=>_) (fun ti _=>?_)
  intro K hk
  split at hk
  ·exact Z9 _ (fun p _=>Z9 _ fun fi _=>X3 _ fun _=>q1c (w2r _ _) (fun u=>(u,H))) K hk
  ·exact hk.elim
 case field s x f=>
  refine q5d us (F:=fun x K=>_) (fun x=>?_) K hk
  refine Z9 _ (F:=fun ti K=>_) (fun ti _=>?_)
  intro K hk
  split at hk
  ·refine Z9 _ (F:=fun p K=>_) (fun p _=>?_) K hk
   refine Z9 _ (F:=fun fi K=>_) (fun fi _=>?_)
   intro K hk
   split at hk
   ·exact X3 _ (fun _=>Z6 _) K hk
   ·exact hk.elim
  ·exact hk.elim
 case indexAddr t x i=>
  refine z5f us (F:=fun x i K=>_) (fun x i=>?_) K hk
  refine Z9 _ (F:=fun ti K=>_) (fun ti _=>?_)
  intro K hk
  split at hk
  ·exact Z9 _ (fun ei _=>q1c (x1g _ _ _ _) (fun u=>(u,H))) K hk
  ·exact Z9 _ (fun ei _=>q1c (x1g _ _ _ _) (fun u=>(u,H))) K hk
  ·exact hk.elim
 case index t x i=>
  refine z5f us (F:=fun x i K=>_) (fun x i=>?_) K hk
  refine Z9 _ (F:=fun ti K=>_) (fun ti _=>?_)
  intro K hk
  split at hk
  ·exact Z9 _ (fun ei _=>q1c (w2s _ _ _ _ _) (fun u=>(u,H))) K hk
  ·exact q1c (w2t _ _) (fun u=>(u,H)) K hk
  ·exact hk.elim
 case extract x i=>
  refine q5d us (F:=fun x K=>_) (fun x=>?_) K hk
  intro K hk
  split at hk
  ·exact Z9 _ (fun u _=>Z6 _) K hk
  ·exact hk.elim
 case nilCheck x=>exact q5d us (fun x=>X3 _ fun _=>Z6 _) K hk
 case lookup t m k ok=>exact z5f us (fun m k=>q1c (y6a _ _ _ _ _ _ _) (fun u=>(u,H))) K hk
 case insert t m k v=>exact x4c us (fun m k v=>q1c (y5z _ _ _ _ _ _) (fun H'=>(AV.top,H'))) K hk
 case mapUpdate t m k v=>exact x4c us (fun m k v=>q1c (y5z _ _ _ _ _ _) (fun H'=>(AV.top,H'))) K hk
 case call c=>
  split at hk
  ·exact w6i us (fun f r=>w2u hC _ _ _) K hk
  ·exact x7i _ _ _ _ _ K hk
  ·exact hk.elim
end
end Go.Proofs.YtkjklhcfgbaceaaGreat.AL
namespace Go.Proofs.YtkjklhcfgbaceaaGreat.AL
open Go Go.RowKit
def q8b (fr:Fr):Option Tmp→AV→Fr
 |some d,u=>⟨fr.n,(d,u) :: fr.l⟩
 |none,_=>fr
def v9j (b:Bool):AV:=.p (.raw (.bool b))
def z6u (n:Nat):Option Tmp→Bool|some d=>Nat.blt d n|none=>true
def z1k {α:Type}:List α→(List α→Prop)→Prop
 |[],K=>K []
 |x :: r,K=>z1k r fun l=>K (x :: l)
theorem z5h {α:Type}:∀ (l:List α) (K:List α→Prop),z1k l K=K l
 |[],_=>rfl
 |x :: r,K=>by rw[z1k,z5h r]
def x7j:Nat→(Nat→Prop)→Prop
 |0,K=>K 0
 |n+1,K=>x7j n fun m=>K (m+1)
theorem w6j:∀ (n:Nat) (K:Nat→Prop),x7j n K=K n
 |0,_=>rfl
 |n+1,K=>by rw[x7j,w6j n]
def q6b (u:AV)(K:AV→Prop):Prop:=
 match u with
 |.agg l=>z1k l fun l=>K (.agg l)
 |.tup l=>z1k l fun l=>K (.tup l)
 |.clo f l=>z1k l fun l=>K (.clo f l)
 |.ref b o=>x7j b fun b=>K (.ref b o)
 |.msl b s o n=>x7j b fun b=>K (.msl b s o n)
 |.elr b s i o=>x7j b fun b=>K (.elr b s i o)
 |.mth f l=>z1k l fun l=>K (.mth f l)
 |.yld b=>x7j b fun b=>K (.yld b)
 |.mp b=>x7j b fun b=>K (.mp b)
 |.p x=>K (.p x)
 |.top=>K .top
theorem q4u (u:AV)(K:AV→Prop):q6b u K=K u:=by cases u <;> simp only[q6b,z5h,w6j]
def w2v (k:ABlk)(K:ABlk→Prop):Prop:=
 match k with
 |.dead=>K .dead
 |.cells t l=>z1k l fun l=>K (.cells t l)
 |.row t sz xs=>K (.row t sz xs)
 |.obj o=>K (.obj o)
 |.lp q st pe l=>K (.lp q st pe l)
theorem w8t (k:ABlk)(K:ABlk→Prop):w2v k K=K k:=by cases k <;> simp only[w2v,z5h]
def z7i:List ABlk→(List ABlk→Prop)→Prop
 |[],K=>K []
 |x :: r,K=>w2v x fun x=>z7i r fun l=>K (x :: l)
theorem z0f:∀ (l:List ABlk) (K:List ABlk→Prop),z7i l K=K l
 |[],_=>rfl
 |x :: r,K=>by rw[z7i,w8t,z0f r]
def v3x (ev:Operand→Option AV):List Operand→(List AV→Prop)→Prop
 |[],K=>K []
 |x :: r,K=>W8 (ev x) fun u=>v3x ev r fun us=>K (u :: us)
theorem x7k {ev:Operand→Option AV}:∀ {l:List Operand} {K:List AV→Prop},v3x ev l K→K (l.map fun x=>(ev x).getD .top)
 |[],_,h=>h
 |x :: r,K,h=>by
  obtain⟨u,hu,h⟩:=W9 h
  have:=x7k h
  simp only[List.map_cons,hu,Option.getD_some]
  exact this
def x4d (P:Program)(T:J0)(C:CallA)(ev:Operand→Option AV)(H:List ABlk)(K:AV→List ABlk→Prop)(o:Op):Prop:=
 v3x ev (J8 o) fun us=>opV P T C H K o us
theorem q8y {P:Program}{T:J0}{C:CallA}{ev:Operand→Option AV}{H:List ABlk}{K:AV→List ABlk→Prop}{o:Op}(h:x4d P T C ev H K o):aop P T C (fun x=>(ev x).getD .top) H K o:=
 x7k h
mutual
def V9 (n:Nat):AV→Bool
 |.p _=>true
 |.agg l=>U9 n l
 |.tup l=>U9 n l
 |.ref b _=>Nat.blt b n
 |.msl b _ _ _=>Nat.blt b n
 |.elr b _ _ _=>Nat.blt b n
 |.clo _ l=>U9 n l
 |.mth _ l=>U9 n l
 |.yld b=>Nat.blt b n
 |.mp b=>Nat.blt b n
 |.top=>true
def U9 (n:Nat):List AV→Bool
 |[]=>true
 |u :: r=>V9 n u&&U9 n r
end
def x4e (n:Nat):ABlk→Bool
 |.cells _ l=>U9 n l
 |.lp _ _ _ l=>U9 n l
 |_=>true
def q4m (n:Nat):List ABlk→Bool
 |[]=>true
 |k :: r=>x4e n k&&q4m n r
theorem z7j {n:Nat}:∀ {H:List ABlk},q4m n H=true→∀ (b:Nat) (k:ABlk),H[b]?=some k→x4e n k=true
 |[],_,b,k,hb=>by simp at hb
 |x :: r,h,b,k,hb=>by
  simp only[q4m,Bool.and_eq_true]at h
  cases b with
  |zero=>simp at hb;subst hb;exact h.1
  |succ b=>exact z7j h.2 b k (by simpa using hb)
mutual
theorem z7k {w:World}{I:Nat→Prop}{ι ι':Nat→Option Nat}{n:Nat}(hι:∀ b,b<n→ι' b=ι b):∀ (u:AV) {v:Value},V9 n u=true→ARep w I ι u v→ARep w I ι' u v
 |.p _,_,_,.p h=>.p h
 |.agg l,_,hb,.agg _ vs hn hr=>.agg l vs hn fun i u hu=>q3f hι l i u hu (by simpa [V9] using hb) (hr i u hu)
 |.tup l,_,hb,.tup _ vs hn hr=>.tup l vs hn fun i u hu=>q3f hι l i u hu (by simpa [V9] using hb) (hr i u hu)
 |.ref b o,_,hb,.ref _ _ B h=>.ref b o B (by rw[hι b (by simpa [V9,Nat.blt_eq] using hb)];exact h)
 |.msl b s o k,_,hb,.msl _ _ _ _ B c h hc hs=>.msl b s o k B c (by rw[hι b (by simpa [V9,Nat.blt_eq] using hb)];exact h) hc hs
 |.msl b s o _,_,_,.msl0 _ _ _ A=>.msl0 b s o A
 |.elr b s i o,_,hb,.elr _ _ _ _ B h=>.elr b s i o B (by rw[hι b (by simpa [V9,Nat.blt_eq] using hb)];exact h)
 |.clo f l,_,hb,.clo _ _ vs hn hr=>.clo f l vs hn fun i u hu=>q3f hι l i u hu (by simpa [V9] using hb) (hr i u hu)
 |.mth f l,_,hb,.mth _ _ vs hn hr=>.mth f l vs hn fun i u hu=>q3f hι l i u hu (by simpa [V9] using hb) (hr i u hu)
 |.yld b,_,hb,.yld _ B h=>.yld b B (by rw[hι b (by simpa [V9,Nat.blt_eq] using hb)];exact h)
 |.mp b,_,hb,.mp _ B h=>.mp b B (by rw[hι b (by simpa [V9,Nat.blt_eq] using hb)];exact h)
 |.top,v,_,_=>.top v
theorem q3f {w:World}{I:Nat→Prop}{ι ι':Nat→Option Nat}{n:Nat}(hι:∀ b,b<n→ι' b=ι b):∀ (l:List AV) (i:Nat) (u:AV),l[i]?=some u→∀ {v:Value},U9 n l=true→ARep w I ι u v→ARep w I ι' u v
 |[],i,u,h=>by simp at h
 |x :: r,0,u,h=>fun hb hr=>by
  simp at h;subst h
  simp only[U9,Bool.and_eq_true]at hb
  exact z7k hι x hb.1 hr
 |x :: r,i+1,u,h=>fun hb hr=>by
  simp only[U9,Bool.and_eq_true]at hb
  exact q3f hι r i u (by simpa using h) hb.2 hr
end
theorem x4f {w:World}{I:Nat→Prop}{B:Nat}{t:TypeId}{sz:Nat}{xs:List (List PV)}{cs:Array Value}{I2:Nat→Prop}(hsub:∀ C,I C→I2 C)(hB:I2 B)(g2:w.heap[B]?=some (.cells cs t (0,0)))(g4:xs.length*sz≤cs.size)(gl:xs.length≤140737488355328)
 (g6:∀ j e,xs[j]?=some e→e.length=sz∧∀ i u,e[i]?=some u→PRep w I u (cs.getD (j*sz+i) undef)) {off len c:Nat} (hle:off+len≤xs.length) (hc:len≤c) :
 PRep w I2 (.sl sz ((xs.drop off).take len)) (.slice (some ⟨B,off*sz,none⟩) len c):=by
 have hl:((xs.drop off).take len).length=len:=by simp;omega
 have:=PRep.sl (w:=w) (I:=I2) sz ((xs.drop off).take len) (some ⟨B,off*sz,none⟩) c (fun j i=>cs.getD ((off+j)*sz+i) undef) (by omega) (by omega) (.inr ⟨B,off*sz,rfl,hB,fun j e hj=>?_⟩) (fun j e i u hj hu=>?_)
 ·rw[hl]at this;exact this
 ·obtain⟨hjl,hj⟩:=q4c _ _ _ _ _ hj
  refine⟨(g6 _ e hj).1,fun i hi=>?_⟩
  rw[cell_of_row w B _ cs t (0,0) g2]
  have hjx:off+j<xs.length:=(k0t.1 hj).1
  have hmul:(off+j)*sz+sz≤xs.length*sz:=by rw[← Nat.succ_mul];exact k2v _ hjx
  rw[Nat.add_mul]at hmul ⊢
  have:off*sz+j*sz+i<cs.size:=by omega
  simp[Array.getD_eq_getD_getElem?,this]
 ·obtain⟨_,hj⟩:=q4c _ _ _ _ _ hj
  exact((g6 _ e hj).2 i u hu).move (fun _ _=>rfl) hsub
theorem SimH.freeze {w:World}{I:Nat→Prop}{ι:Nat→Option Nat}{H:List ABlk}(hs:SimH w I ι H)(b:Nat)(hlive:live H b) :
 SimH w (fun C=>I C∨ι b=some C) ι (H.set b .dead)∧Ex H.length w I ι H w (fun C=>I C∨ι b=some C) ι (H.set b .dead):=by
 obtain⟨k1,k2⟩:=hs.kill b
 constructor
 ·refine⟨fun c kc hc=>?_,k1.inj,fun C hC=>?_,k1.dom,k1.rng⟩
  ·have h0:=k1.blk c kc hc
   have hne:∀ C,live (H.set b .dead) c→ι c=some C→¬ (I C∨ι b=some C):=fun C hl h1 h2=>by
    rcases h2 with h2|h2
    ·exact k1.notI hl h1 h2
    ·have hcb:c≠b:=fun e=>by
      subst e
      obtain⟨k',hk',hl'⟩:=hl
      rw[k2y (J6 hlive)]at hk'
      obtain rfl:=k0x hk'
      simp[ABlk.live]at hl'
     have hlc:live H c:=q2r hl hlive
     exact hcb (hs.inj c b C hlc hlive h1 h2)
   cases kc with
   |dead=>trivial
   |cells t l=>
    obtain⟨C,cs,g1,g2,g3,g4,g5⟩:=h0
    exact⟨C,cs,g1,g2,hne C ⟨_,hc,rfl⟩ g1,g4,fun i u hu=>(g5 i u hu).move (fun _ _=>rfl) (fun _ h=>.inl h) (fun _ _ h=>h) (Shape.refl w)⟩
   |lp q st pe l=>
    obtain⟨C,cs,g1,g2,g3,g4,g5⟩:=h0
    exact⟨C,cs,g1,g2,hne C ⟨_,hc,rfl⟩ g1,g4,fun i u hu=>(g5 i u hu).move (fun _ _=>rfl) (fun _ h=>.inl h) (fun _ _ h=>h) (Shape.refl w)⟩
   |row t sz xs=>
    rcases h0 with g0|⟨C,cs,g1,g2,g3,g4,g5,g6⟩
    ·exact .inl g0
    ·exact .inr ⟨C,cs,g1,g2,hne C ⟨_,hc,rfl⟩ g1,g4,g5,fun j e hj=>⟨(g6 j e hj).1,fun i u hu=>((g6 j e hj).2 i u hu).move (fun _ _=>rfl) (fun _ h=>.inl h)⟩⟩
   |obj o=>
    obtain⟨g0,C,g1,g2,g3⟩:=h0
    exact⟨g0,C,g1,g2,hne C ⟨_,hc,rfl⟩ g1⟩
  ·rcases hC with hC|hC
   ·exact hs.Ilt C hC
   ·exact hs.rng b C hC
 ·have x:=k2.ext
  exact⟨⟨x.os,x.tape,x.output,x.size,x.shape,fun _ h=>.inl h,fun C hC hn=>x.frame C hC hn,fun C hC=>by
   rcases hC with hC|hC
   ·exact .inl hC
   ·exact .inr (.inr ⟨b,hlive,hC⟩),x.own⟩,fun _ _=>rfl,k2.len⟩
theorem SimH.trunc {w:World}{I:Nat→Prop}{ι:Nat→Option Nat}{H:List ABlk}(hs:SimH w I ι H)(n:Nat)(hn:n≤H.length)(hb:q4m n (H.take n)=true) :
 SimH w I (fun b=>if b<n then ι b else none) (H.take n)∧Ex n w I ι H w I (fun b=>if b<n then ι b else none) (H.take n):=by
 have hι:∀ b,b<n→(fun b=>if b<n then ι b else none) b=ι b:=fun b h=>by simp[h]
 have hget:∀ (b:Nat) (k:ABlk),(H.take n)[b]?=some k→b<n∧H[b]?=some k:=fun b k h=>by
  have hlt:b<n:=by have:=(k0t.1 h).1;simp at this;omega
  rw[List.getElem?_take_of_lt hlt]at h
  exact⟨hlt,h⟩
 have hlive:∀ b,live (H.take n) b→live H b∧b<n:=fun b ⟨k,hk,hl⟩=>⟨⟨k,(hget b k hk).2,hl⟩,(hget b k hk).1⟩
 constructor
 ·refine⟨fun b k hk=>?_,fun b b' B h h' e e'=>?_,hs.Ilt,fun b h=>?_,fun b B h=>?_⟩
  ·obtain⟨hlt,hk'⟩:=hget b k hk
   have h0:=hs.blk b k hk'
   have hbk:=z7j hb b k hk
   cases k with
   |dead=>trivial
   |cells t l=>
    obtain⟨B,cs,g1,g2,g3,g4,g5⟩:=h0
    exact⟨B,cs,by rw[hι b hlt];exact g1,g2,g3,g4,fun i u hu=>q3f hι l i u hu hbk (g5 i u hu)⟩
   |lp q st pe l=>
    obtain⟨B,cs,g1,g2,g3,g4,g5⟩:=h0
    exact⟨B,cs,by rw[hι b hlt];exact g1,g2,g3,g4,fun i u hu=>q3f hι l i u hu hbk (g5 i u hu)⟩
   |row t sz xs=>
    rcases h0 with ⟨g0,g1⟩|⟨B,cs,g1,g2⟩
    ·exact .inl ⟨g0,by rw[hι b hlt];exact g1⟩
    ·exact .inr ⟨B,cs,by rw[hι b hlt];exact g1,g2⟩
   |obj o=>
    obtain⟨g0,B,g1,g2⟩:=h0
    exact⟨g0,B,by rw[hι b hlt];exact g1,g2⟩
  ·obtain⟨k1,k2⟩:=hlive b h
   obtain⟨k1',k2'⟩:=hlive b' h'
   rw[if_pos k2]at e;rw[if_pos k2']at e'
   exact hs.inj b b' B k1 k1' e e'
  ·simp only[List.length_take]at h
   simp[show ¬ b<n by omega]
  ·split at h
   ·exact hs.rng b B h
   ·exact absurd h (by simp)
 ·refine⟨⟨rfl,rfl,rfl,k1v _,Shape.refl w,fun _ h=>h,fun _ _ _=>rfl,fun _ h=>.inl h,fun b B h e=>?_⟩,fun b h=>hι b h,by simp;omega⟩
  obtain⟨k1,k2⟩:=hlive b h
  rw[if_pos k2]at e
  exact .inr ⟨b,k1,e⟩
def z3r (n:Nat)(H:List ABlk)(u:AV)(K:AV→List ABlk→Prop):Prop:=
 match u with
 |.msl b sz off len=>match H.getD b .dead with
  |.row _ sz' xs=>chk (Nat.beq (b+1) H.length&&Nat.ble n b&&Nat.beq sz' sz&&q4m b (H.take b)) ((off=0∧len=xs.length)∧K (.p (.sl sz xs)) (H.take b))
  |_=>False
 |.ref b off=>match H.getD b .dead with
  |.cells _ l=>chk (Nat.beq (b+1) H.length&&Nat.ble n b&&q4m b (H.take b)) (W8 (pvs l) fun ps=>K (.p (.box (ps.drop off))) (H.take b))
  |_=>False
 |_=>False
theorem v3y {w:World}{I:Nat→Prop}{ι:Nat→Option Nat}{H:List ABlk}{n:Nat}{u:AV}{v:Value}{K:AV→List ABlk→Prop}(hs:SimH w I ι H)(hu:ARep w I ι u v)(h:z3r n H u K) :
 ∃ u' H' I' ι',K u' H'∧ARep w I' ι' u' v∧SimH w I' ι' H'∧Ex n w I ι H w I' ι' H':=by
 have core:∀ (b:Nat),H.length=b+1→n≤b→live H b→q4m b (H.take b)=true →
  ∃ ι',SimH w (fun C=>I C∨ι b=some C) ι' (H.take b)∧Ex n w I ι H w (fun C=>I C∨ι b=some C) ι' (H.take b):=by
  intro b hb hn hl hbel
  obtain⟨f1,f2⟩:=hs.freeze b hl
  have htake:(H.set b .dead).take b=H.take b:=by rw[List.take_set_of_le (k1v _)]
  obtain⟨g1,g2⟩:=f1.trunc b (by simp;omega) (by rw[htake];exact hbel)
  rw[htake]at g1 g2
  exact⟨_,g1,(f2.less (by omega)).trans (g2.less hn)⟩
 unfold z3r at h
 split at h
 ·rename_i b sz off len
  split at h
  ·rename_i e sz' xs hb
   replace h:=J3 h
   obtain⟨c,⟨rfl,hlen⟩,h⟩:=h
   simp only[Bool.and_eq_true,Nat.beq_eq,Nat.ble_eq]at c
   obtain⟨⟨⟨c1,c2⟩,rfl⟩,c4⟩:=c
   have hbk:=X4 hb rfl
   obtain⟨ι',k1,k2⟩:=core b c1.symm c2 ⟨_,hbk,rfl⟩ c4
   refine⟨_,_,_,ι',h,.p ?_,k1,k2⟩
   cases hu with
   |msl _ _ _ _ B c hB hc hsz=>
    rcases hs.blk b _ hbk with ⟨_,g1⟩|⟨B',cs,g1,g2,g3,g4,gl,g6⟩
    ·rw[g1]at hB;exact absurd hB (by simp)
    ·rw[g1]at hB;obtain rfl:=k0x hB
     have:=x4f (I2:=fun C=>I C∨ι b=some C) (fun _ h=>.inl h) (.inr g1) g2 g4 gl g6 (off:=0) (len:=len) (c:=c) (by omega) hc
     rw[hlen]at this ⊢
     simpa using this
   |msl0 _ _ _ A=>
    have hx:xs=[]:=List.length_eq_zero_iff.1 hlen.symm
    subst hx
    exact .sl _ [] A 0 (fun _ _=>undef) (by simp) (by simp) (.inl rfl) (fun j e i u h=>by simp at h)
  ·exact h.elim
 ·rename_i b off
  split at h
  ·rename_i t l hb
   replace h:=J3 h
   obtain⟨c,h⟩:=h
   replace h:=W9 h
   obtain⟨ps,hps,h⟩:=h
   have hl:=x3t hps
   subst hl
   simp only[Bool.and_eq_true,Nat.beq_eq,Nat.ble_eq]at c
   obtain⟨⟨c1,c2⟩,c4⟩:=c
   have hbk:=X4 hb rfl
   obtain⟨ι',k1,k2⟩:=core b c1.symm c2 ⟨_,hbk,rfl⟩ c4
   refine⟨_,_,_,ι',h,.p ?_,k1,k2⟩
   cases hu with
   |ref _ _ B hB=>
    obtain⟨B',cs,g1,g2,g3,g4,g5⟩:=hs.blk b _ hbk
    rw[hB]at g1;obtain rfl:=k0x g1
    simp only[List.length_map]at g4
    refine .box _ B off (fun i=>cs.getD (off+i) undef) (.inr hB) (fun i hi=>?_) (fun i u hu=>?_)
    ·rw[List.length_drop]at hi
     rw[cell_of_row w B (off+i) cs t (0,0) g2]
     have:off+i<cs.size:=by omega
     simp[Array.getD_eq_getD_getElem?,this]
    ·rw[List.getElem?_drop]at hu
     exact(z3k (g5 (off+i) (.p u) (by rw[k1z,hu];rfl))).move (fun _ _=>rfl) (fun _ h=>.inl h)
  ·exact h.elim
 ·exact h.elim
section
variable {P:Program} {T:J0} {m:Nat} {w:World} {I:Nat→Prop} {ι:Nat→Option Nat}
def y3z:AV:=.tup []
def y6c (ops:Array Oper)(fr:Fr)(g:Option (Nat × Bool))(K:Bool→Fr→Prop):Prop:=
 match g with
 |none=>K true fr
 |some (j,want)=>match (ops[j]?).bind (·.dst) with
  |some d=>match W4 fr.l d with
   |some (.p (.raw (.bool b)))=>v2u b (K want ⟨fr.n,(d,v9j true) :: fr.l⟩) (K (!want) ⟨fr.n,(d,v9j false) :: fr.l⟩)
   |some (.tup [])=>K false fr
   |_=>False
  |none=>False
def w2w (P:Program)(T:J0)(ops:Array Oper)(fz:Nat→Bool):List Oper→Nat→Fr→List ABlk→(Fr→List ABlk→Prop)→Prop
 |[],_,fr,H,K=>K fr H
 |o :: r,k,fr,H,K=>chk (z6u fr.n o.dst) (y6c ops fr o.guard fun c fr=>match c with
  |true=>x4d P T (y3j P) (evX fr) H (fun u H'=>match fz k with
   |true=>z3r H.length H' u fun u H'=>q6b u fun u=>z7i H' fun H'=>w2w P T ops fz r (k+1) (q8b fr o.dst u) H' K
   |false=>q6b u fun u=>z7i H' fun H'=>w2w P T ops fz r (k+1) (q8b fr o.dst u) H' K) o.op
  |false=>w2w P T ops fz r (k+1) (q8b fr o.dst y3z) H K)
theorem FrOk.put {fr:Fr}{a:Act}(h:FrOk w I ι fr a.tmps)(d:Option Tmp)(hd:z6u fr.n d=true){u:AV}{v:Value}(hu:ARep w I ι u v):FrOk w I ι (q8b fr d u) (a.put d v).tmps:=by
 cases d with
 |none=>exact h
 |some d=>
  have hlt:d<fr.n:=by simpa [z6u,Nat.blt_eq] using hd
  refine⟨by simp[Act.put,q8b,h.1],fun i x hx=>?_⟩
  simp only[q8b,Act.put]at hx ⊢
  by_cases e:d=i
  ·subst e
   rw[U1]at hx
   obtain rfl:=k0x hx
   rw[k2q,Array.getElem?_setIfInBounds_self_of_lt (by rw[h.1];exact hlt)]
   exact hu
  ·rw[V5 _ _ e]at hx
   rw[k2q,Array.getElem?_setIfInBounds_ne e,← k2q]
   exact h.2 i x hx
theorem FrOk.move {w':World}{I':Nat→Prop}{ι':Nat→Option Nat}{H H':List ABlk}{fr:Fr}{tmps:Array Value}(hs:SimH w I ι H)(hx:Ex H.length w I ι H w' I' ι' H')(h:FrOk w I ι fr tmps):FrOk w' I' ι' fr tmps:=
 ⟨h.1,fun i u hu=>(h.2 i u hu).move (hx.ext.keepsI hs) hx.ext.Isub (fun b B hb=>by
  rw[hx.keep b];exact hb
  rcases Nat.lt_or_ge b H.length with h|h
  ·exact h
  ·rw[hs.dom b h]at hb;exact absurd hb (by simp)) hx.ext.shape⟩
theorem q4n (a:Act)(d:Option Tmp)(v:Value):(a.put d v).defers=a.defers:=by cases d <;> rfl
def q5e (ops:Array Oper)(fr:Fr)(g:Option (Nat × Bool))(c:Bool):Prop:=
 match g with
 |none=>c=true
 |some (j,want)=>∃ d,(ops[j]?).bind (·.dst)=some d∧((∃ b,W4 fr.l d=some (v9j b)∧c=(b==want))∨(W4 fr.l d=some y3z∧c=false))
def z2u (fr fr':Fr):Prop:=fr'.n=fr.n∧∀ t,W4 fr'.l t=W4 fr.l t
theorem w2x {fr:Fr}{d:Nat}{u:AV}(h:W4 fr.l d=some u):z2u fr ⟨fr.n,(d,u) :: fr.l⟩:=by
 refine⟨rfl,fun t=>?_⟩
 by_cases e:d=t
 ·subst e;rw[U1,h]
 ·rw[V5 _ _ e]
theorem x1h {ops:Array Oper}{fr:Fr}{g:Option (Nat × Bool)}{K:Bool→Fr→Prop}(h:y6c ops fr g K):∃ c fr',K c fr'∧q5e ops fr g c∧z2u fr fr':=by
 unfold y6c at h
 split at h
 ·exact⟨true,fr,h,rfl,rfl,fun _=>rfl⟩
 ·rename_i j want
  split at h
  ·rename_i d hd
   split at h
   ·rename_i b hb
    refine⟨b==want,⟨fr.n,(d,v9j b) :: fr.l⟩,?_,⟨d,hd,.inl ⟨b,hb,rfl⟩⟩,w2x hb⟩
    cases b <;> cases want <;> exact h
   ·rename_i hb
    exact⟨false,fr,h,⟨d,hd,.inr ⟨hb,rfl⟩⟩,rfl,fun _=>rfl⟩
   ·exact h.elim
  ·exact h.elim
theorem v9k {v:Value}(h:ARep w I ι y3z v):v=.tuple #[]:=by
 cases h with
 |tup _ vs hn h=>
  have:vs = #[]:=Array.eq_empty_of_size_eq_zero (by simpa using hn)
  rw[this]
theorem w6k {ops:Array Oper}{fr:Fr}{o:Oper}{c:Bool}{a:Act}(hr:∀ d u,W4 fr.l d=some u→(∃ j want,o.guard=some (j,want)∧(ops[j]?).bind (·.dst)=some d)→ARep w I ι u (a.tmps.getD d undef))(h:q5e ops fr o.guard c) :
 Region.wanted o (yielded ops a.tmps)=c:=by
 unfold q5e at h
 split at h
 ·rename_i hg;simp[Region.wanted,hg,h]
 ·rename_i j want hg
  obtain⟨d,g1,⟨b,g2,g3⟩|⟨g2,g3⟩⟩:=h
  ·have hv:=Y8 (hr d _ g2 ⟨j,want,hg,g1⟩)
   rw[g3]
   rcases Nat.lt_or_ge d a.tmps.size with hds|hds
   ·rw[k2q,Array.getElem?_eq_getElem hds]at hv
    simp at hv
    simp only[Region.wanted,hg,yielded,g1,Option.bind_some,Array.getElem?_eq_getElem hds,hv]
    cases b <;> cases want <;> rfl
   ·rw[k2q,Array.getElem?_eq_none hds]at hv
    simp[undef]at hv
  ·have hv:=v9k (hr d _ g2 ⟨j,want,hg,g1⟩)
   rw[g3]
   rcases Nat.lt_or_ge d a.tmps.size with hds|hds
   ·rw[k2q,Array.getElem?_eq_getElem hds]at hv
    simp at hv
    simp only[Region.wanted,hg,yielded,g1,Option.bind_some,Array.getElem?_eq_getElem hds,hv]
    cases want <;> rfl
   ·simp only[Region.wanted,hg,yielded,g1,Option.bind_some,Array.getElem?_eq_none hds]
    cases want <;> rfl
theorem FrOk.alike {fr fr':Fr}{tmps:Array Value}(h:FrOk w I ι fr tmps)(k:z2u fr fr'):FrOk w I ι fr' tmps:=⟨h.1.trans k.1.symm,fun t u hu=>h.2 t u (by rw[← k.2];exact hu)⟩
theorem _root_.Go.Proofs.YtkjklhcfgbaceaaGreat.AL.Sim.alike {N:Nat}{fr fr':Fr}{H:List ABlk}{a:Act}(h:Sim N w I ι ⟨fr,H⟩ a)(k:z2u fr fr'):Sim N w I ι ⟨fr',H⟩ a:=⟨FrOk.alike h.fr k,h.H,h.hN,h.d,h.nd⟩
theorem v3z {ops:Array Oper}{fr:Fr}{o:Oper}{K:Bool→Fr→Prop}{a:Act}(hf:FrOk w I ι fr a.tmps)(h:y6c ops fr o.guard K) :
 ∃ c fr',K c fr'∧Region.wanted o (yielded ops a.tmps)=c∧z2u fr fr':=by
 obtain⟨c,fr',h1,h2,h3⟩:=x1h h
 exact⟨c,fr',h1,w6k (fun d u hd _=>hf.2 d u hd) h2,h3⟩
theorem w2y {ro:Option Nat}{N:Nat}(hT:TOk P T){ops:Array Oper}{fz:Nat→Bool}{Q:Exit→Act→World→Prop}{K:Fr→List ABlk→Prop}{w0:World}{I0:Nat→Prop}{ι0:Nat→Option Nat}{H0:List ABlk}(l:List Oper) :
 ∀ (k:Nat) (fr:Fr) (H:List ABlk) (a:Act) (w:World) (I:Nat→Prop) (ι:Nat→Option Nat),w2w P T ops fz l k fr H K→Sim N w I ι ⟨fr,H⟩ a→Ex m w0 I0 ι0 H0 w I ι H →
  (∀ fr' H' a' w' I' ι',K fr' H'→Sim N w' I' ι' ⟨fr',H'⟩ a'→Ex m w0 I0 ι0 H0 w' I' ι' H'→Q .normal a' w')→wpListIn (fen ro) 0 P ops Q l a w:=by
 induction l with
 |nil=>intro k fr H a w I ι h hs hx hk;exact hk _ _ _ _ _ _ h hs hx
 |cons o r ih=>
  intro k fr H a w I ι h hs hx hk
  obtain⟨hd,h⟩:=J3 h
  obtain⟨c,fr',h1,h2,h3⟩:=v3z hs.fr h
  unfold wpListIn
  rw[h2]
  have hs':=hs.alike h3
  clear hs
  have hs:=hs'
  clear hs'
  rw[← h3.1]at hd
  cases c with
  |true=>
   rw[if_pos rfl]
   refine y1q hT hs.H (fun x _=>y5j hs.fr x) (q8y h1) ?_
   intro v w' r' H' I' ι' hK hr hs' hx'
   split at hK
   ·obtain⟨u2,H2,I2,ι2,hK,hr2,hs2,hx2⟩:=v3y hs' hr hK
    rw[q4u,z0f]at hK
    have hx3:=hx'.trans hx2
    exact ih _ _ _ _ _ _ _ hK ⟨(hs.fr.move hs.H hx3).put o.dst hd hr2,hs2,Nat.le_trans hs.hN hx3.ext.size,by rw[q4n];exact fun d hd=>(hs.d d hd).move hx3.ext,by rw[q4n];exact hs.nd⟩ (hx.trans (hx3.less hx.len)) hk
   ·rw[q4u,z0f]at hK
    exact ih _ _ _ _ _ _ _ hK ⟨(hs.fr.move hs.H hx').put o.dst hd hr,hs',Nat.le_trans hs.hN hx'.ext.size,by rw[q4n];exact fun d hd=>(hs.d d hd).move hx'.ext,by rw[q4n];exact hs.nd⟩ (hx.trans (hx'.less hx.len)) hk
  |false=>
   rw[if_neg (by simp)]
   exact⟨fun f _=>x3k ro f,ih _ _ _ _ _ _ _ h1 ⟨hs.fr.put o.dst hd (.tup [] #[] rfl (fun i u h=>by simp at h)),hs.H,hs.hN,by rw[q4n];exact hs.d,by rw[q4n];exact hs.nd⟩ hx hk⟩
theorem X5 {ro:Option Nat}(fz:Nat→Bool)(hT:TOk P T){id:Nat}{ops:Array Oper}{s:St}{Q:Exit→St→Prop}(h:w2w P T ops fz ops.toList 0 s.fr s.H (fun fr H=>Q .normal ⟨fr,H⟩)):AW P ro m (.region id ops false) s Q:=fun N w I ι a hs hm=>by
 refine wpIn_region_list (w2y (m:=m) hT ops.toList 0 s.fr s.H a w I ι h hs (Ex.refl hm) ?_)
 intro fr' H' a' w' I' ι' hK hs' hx'
 exact⟨⟨fr',H'⟩,I',ι',hK,hs',hx'⟩
theorem z8 {ro:Option Nat}(hT:TOk P T){id:Nat}{ops:Array Oper}{s:St}{Q:Exit→St→Prop}(h:w2w P T ops (fun _=>false) ops.toList 0 s.fr s.H (fun fr H=>Q .normal ⟨fr,H⟩)):AW P ro m (.region id ops false) s Q:=
 X5 _ hT h
theorem z7 {ro:Option Nat}(hT:TOk P T){id:Nat}{ops:Array Oper}{y:Code}{s:St}{Q:Exit→St→Prop}(h:w2w P T ops (fun _=>false) ops.toList 0 s.fr s.H (fun fr H=>z8s (fun s'=>AW P ro m y s' Q) Q .normal ⟨fr,H⟩)):AW P ro m (.seq (.region id ops false) y) s Q:=
 u6 (z8 hT h)
end
end Go.Proofs.YtkjklhcfgbaceaaGreat.AL
