/- A part of the proof. -/
import Derived.Laws.Strings
import Derived.Test.YtinfbclgkghgaaaGreatSnipG
open Option.some renaming inj→k0y
open List renaming getElem?_eq_getElem→k0x,getD_eq_getElem?_getD→k0w,getElem?_eq_some_iff→k0u,getElem?_map→k1q,length_append→k1z,length_map→k1y,getElem_mem→k1x,length_replicate→k2q,take_of_length_le→k2z,getElem?_set_self→k2y,mem_of_getElem?→k2x,length_take→k2u,take_add_one→k2t,getElem?_set_ne→k3z
open Int renaming toNat_natCast→k0v,natCast_nonneg→k2w
open Nat renaming le_refl→k1w
set_option maxHeartbeats 1000000
set_option maxRecDepth 20000
namespace Go.Proofs.YtinfbclgkghgaaaGreat.AL
open Go Go.RowKit
/-- A hole of the list is filled by a row that was made elsewhere. -/
theorem fill {w w':World}{I I':Nat→Prop}{ι ι1:Nat→Option Nat}{H:List ABlk}{b sz:Nat}{t:TypeId}{xs:List (List PV)}(hs:SimH w I ι H)(hb:H[b]?=some .dead)(hι:ι b=none)
 (h1:SimH w' I' ι1 [.row t sz xs]) (hx:Ext w I (fun _=>none) [] w' I' ι1 [.row t sz xs]) :
 SimH w' I' (fun x=>if x=b then ι1 0 else ι x) (H.set b (.row t sz xs))∧Ext w I ι H w' I' (fun x=>if x=b then ι1 0 else ι x) (H.set b (.row t sz xs)):=by
 have hbl:b<H.length:=(k0u.1 hb).1
 have nol:∀ c,¬ live ([]:List ABlk) c:=fun c ⟨k,hk,_⟩=>by simp at hk
 have fr:∀ B,B<w.heap.size→w'.heap[B]?=w.heap[B]?:=fun B hB=>hx.frame B hB fun⟨c,hc,_⟩=>nol c hc
 have hI:∀ B,I B→w'.heap[B]?=w.heap[B]?:=fun B hB=>fr B (hs.Ilt B hB)
 have inew:∀ B,I' B→I B∨w.heap.size≤B:=fun B hB=>by
  rcases hx.Inew B hB with h|h|⟨c,hc,_⟩
  ·exact .inl h
  ·exact .inr h
  ·exact absurd hc (nol c)
 have own0:∀ B,ι1 0=some B→w.heap.size≤B:=fun B hB=>by
  rcases hx.own 0 B ⟨_,rfl,rfl⟩ hB with h|⟨c,hc,_⟩
  ·exact h
  ·exact absurd hc (nol c)
 have mv:∀ c B,ι c=some B→(if c=b then ι1 0 else ι c)=some B:=fun c B hc=>by
  by_cases e:c=b
  ·subst e;rw[hι]at hc;simp at hc
  ·rw[if_neg e];exact hc
 have lv:∀ c,live (H.set b (.row t sz xs)) c→c≠b→live H c:=fun c ⟨k,hk,hl⟩ hc=>by
  rw[k3z (by omega)]at hk;exact⟨k,hk,hl⟩
 have ldb:¬ live H b:=fun⟨k,hk,hl⟩=>by rw[hb]at hk;obtain rfl:=k0y hk;simp[ABlk.live]at hl
 have notI:∀ {B},B<w.heap.size→¬ I B→¬ I' B:=fun {B} hB hn hI'=>by
  rcases inew B hI' with h|h
  ·exact hn h
  ·omega
 refine⟨⟨?_,?_,h1.Ilt,?_,?_⟩,⟨hx.os,hx.tape,hx.output,hx.size,hx.shape,hx.Isub,fun B hB _=>fr B hB,fun B hB=>?_,?_⟩⟩
 ·intro c kc hc
  by_cases e:c=b
  ·subst e
   rw[k2y hbl]at hc
   obtain rfl:=k0y hc
   have h0:=h1.blk 0 _ rfl
   rcases h0 with ⟨g1,g2⟩|⟨B,cs,g1,g2⟩
   ·exact .inl ⟨g1,by show (if c=c then ι1 0 else ι c)=none;rw[if_pos rfl];exact g2⟩
   ·exact .inr ⟨B,cs,by show (if c=c then ι1 0 else ι c)=some B;rw[if_pos rfl];exact g1,g2⟩
  ·rw[k3z (by omega)]at hc
   have h0:=hs.blk c kc hc
   cases kc with
   |dead=>trivial
   |cells t l=>
    obtain⟨B,cs,g1,g2,g3,g4,g5⟩:=h0
    exact⟨B,cs,mv c B g1,by rw[fr B (hs.rng c B g1)];exact g2,notI (hs.rng c B g1) g3,g4,fun i u hu=>(g5 i u hu).move hI hx.Isub mv hx.shape⟩
   |lp q st pe l=>
    obtain⟨B,cs,g1,g2,g3,g4,g5⟩:=h0
    exact⟨B,cs,mv c B g1,by rw[fr B (hs.rng c B g1)];exact g2,notI (hs.rng c B g1) g3,g4,fun i u hu=>(g5 i u hu).move hI hx.Isub mv hx.shape⟩
   |row t sz xs=>
    rcases h0 with ⟨g1,g2⟩|⟨B,cs,g1,g2,g3,g4,g5,g6⟩
    ·exact .inl ⟨g1,by show (if c=b then ι1 0 else ι c)=none;rw[if_neg e];exact g2⟩
    ·exact .inr ⟨B,cs,mv c B g1,by rw[fr B (hs.rng c B g1)];exact g2,notI (hs.rng c B g1) g3,g4,g5,fun j x hj=>⟨(g6 j x hj).1,fun i u hu=>((g6 j x hj).2 i u hu).move hI hx.Isub⟩⟩
   |obj o=>
    obtain⟨g0,B,g1,g2,g3⟩:=h0
    exact⟨g0,B,mv c B g1,by rw[fr B (hs.rng c B g1)];exact g2,notI (hs.rng c B g1) g3⟩
 ·intro c c' B hc hc' e1 e2
  have e1:(if c=b then ι1 0 else ι c)=some B:=e1
  have e2:(if c'=b then ι1 0 else ι c')=some B:=e2
  by_cases h:c=b <;> by_cases h':c'=b
  ·omega
  ·rw[if_pos h]at e1;rw[if_neg h']at e2
   have:=own0 B e1;have:=hs.rng c' B e2;omega
  ·rw[if_neg h]at e1;rw[if_pos h']at e2
   have:=own0 B e2;have:=hs.rng c B e1;omega
  ·rw[if_neg h]at e1;rw[if_neg h']at e2
   exact hs.inj c c' B (lv c hc h) (lv c' hc' h') e1 e2
 ·intro c hc
  simp only[List.length_set]at hc
  show (if c=b then ι1 0 else ι c)=none
  rw[if_neg (by omega)];exact hs.dom c hc
 ·intro c B hc
  have hc:(if c=b then ι1 0 else ι c)=some B:=hc
  by_cases e:c=b
  ·rw[if_pos e]at hc;exact h1.rng 0 B hc
  ·rw[if_neg e]at hc;have:=hs.rng c B hc;have:=hx.size;omega
 ·rcases inew B hB with h|h
  ·exact .inl h
  ·exact .inr (.inl h)
 ·intro c B hc e1
  have e1:(if c=b then ι1 0 else ι c)=some B:=e1
  by_cases e:c=b
  ·rw[if_pos e]at e1;exact .inl (own0 B e1)
  ·rw[if_neg e]at e1;exact .inr ⟨c,lv c hc e,e1⟩
section
variable {P:Program} {T:V4} {ops:Array Oper} {m N:Nat} {B:Array Bool→List ABlk} {G:Array Bool→(Nat→Option Nat)→Prop}
end
structure Mk where
 k:Nat
 t:TypeId
 sz:Nat
 len:Nat
 xs:List (List PV)
abbrev Mk.row (x:Mk):ABlk:=.row x.t x.sz x.xs
abbrev Mk.val (x:Mk)(b:Nat):AV:=.msl b x.sz 0 x.len
section
variable {P:Program} {T:V4} {ops ops':Array Oper} {m:Nat} {fe:List Mk} {ef:List Nat}
end
end Go.Proofs.YtinfbclgkghgaaaGreat.AL
namespace Go.Proofs.YtinfbclgkghgaaaGreat.AL
open Go
theorem w1i {α:Type}{l:List α}{i j:Nat}{x d:α}(h:i≠j):(l.set i x).getD j d=l.getD j d:=by
 rw[k0w,k0w,k3z h]
theorem U0 {m:Nat}{s:St}(M:Nat)(ps ks:List Nat)(H2:List ABlk){q:RecK}{st:LoopState}{pe:Option Code}{l:List AV}(hM:s.H[M]?=some (.lp q st pe l))(hl:U4 (M+1) l=true)
 (hp:z6h (M+1) 0 ps=true) (hH:(q8b (s.H.set M .dead) ps ps).set M (.lp q st pe l)=H2)
 (h:(z6h m 0 ps&&q3c ps&&z0w s.H.length ps&&q9y (s.H.set M .dead) ps ps&&q8c s.fr.l ps ks)=true) :
 Wk m s ⟨⟨s.fr.n,q0y s.fr.l ps ks⟩,H2⟩:=by
 subst hH
 simp only[Bool.and_eq_true]at h
 obtain⟨⟨⟨⟨h1,h2⟩,h3⟩,h4⟩,h5⟩:=h
 have hid:∀ b,b<M+1→rho s.H.length ps b=b:=fun b hb=>by
  have:=z3e hp b hb
  simp[rho,List.getD_eq_getElem?_getD,this]
 have hnd:=q5i h2
 have hMp:ps[M]?=some M:=by rw[z3e hp M (by omega)];congr 1;omega
 refine w4n ps ⟨by rw[List.length_set];exact z3f ps,hnd,fun b k hb=>.inr ?_⟩ (fun b hb=>by rw[z3e h1 b hb];congr 1;omega) rfl (fun i u2 hu=>?_)
 ·by_cases e:b=M
  ·subst e
   have hlt:b<(q8b (s.H.set b .dead) ps ps).length:=by
    have:=(k0u.1 hb).1
    simpa using this
   rw[k2y hlt]at hb
   obtain rfl:=k0y hb
   refine⟨b,hMp,?_⟩
   rw[hM]
   congr 1
   show _=ABlk.lp q st pe (q2q _ l)
   rw[q4d hid l hl]
  ·rw[k3z (by omega)]at hb
   obtain⟨p,hpp,hk⟩:=z3g (n:=s.H.length) h4 b k hb
   refine⟨p,hpp,?_⟩
   have hlt:=z1q h3 p (k2x hpp)
   have hne:M≠p:=fun e2=>by
    subst e2
    obtain⟨x1,y1⟩:=k0u.1 hpp
    obtain⟨x2,y2⟩:=k0u.1 hMp
    have hpw:=List.pairwise_iff_getElem.1 hnd
    rcases Nat.lt_trichotomy b M with hlt2|he|hlt2
    ·exact hpw b M x1 x2 hlt2 (y1.trans y2.symm)
    ·exact e he
    ·exact hpw M b x2 x1 hlt2 (y2.trans y1.symm)
   rw[w1i hne]at hk
   rw[← hk,k0w,k0x hlt];rfl
 ·obtain⟨u,hu1,hu2⟩:=q8y (n:=s.H.length) h5 i u2 hu
  exact⟨u,hu1,.inr (.inl hu2)⟩
theorem u0e {m:Nat}{s:St}(i b sz n:Nat){t:TypeId}{xs ys:List (List PV)}(e:xs=ys)(hn:n=xs.length)(hb:s.H[b]?=some (.row t sz xs))(hi:Z9 s.fr.l i=some (.msl b sz 0 n)) :
 Wk m s ⟨⟨s.fr.n,(i,.p (.sl sz ys)) :: s.fr.l⟩,s.H.set b .dead⟩:=by
 subst hn
 have:=y3b (m:=m) (s:=s) i b hb hi (by omega)
 rw[List.drop_zero,List.take_length]at this
 subst e
 exact this
end Go.Proofs.YtinfbclgkghgaaaGreat.AL
namespace Go.Proofs.YtinfbclgkghgaaaGreat.AL
open Go Go.RowKit
theorem X2 {m:Nat}{s:St}(b c o len:Nat){t t2:TypeId}{sz:Nat}{xs:List (List PV)}{l:List AV}(hb:s.H[b]?=some (.row t sz xs))(hc:s.H[c]?=some (.cells t2 l))(hl:l[o]?=some (.msl b sz 0 len))(hlen:len=xs.length) :
 Wk m s ⟨s.fr,(s.H.set b .dead).set c (.cells t2 (l.set o (.p (.sl sz xs))))⟩:=fun N w I ι a hs hm=>by
 subst hlen
 have hlive:live s.H b:=⟨_,hb,rfl⟩
 have hbc:b≠c:=fun e=>by subst e;rw[hb]at hc;cases hc
 obtain⟨k1,k2⟩:=hs.H.freeze b hlive
 have hblk:=hs.H.blk b _ hb
 have hcb:=hs.H.blk c _ hc
 have hlivec:live (s.H.set b .dead) c:=⟨_,by rw[k3z hbc];exact hc,rfl⟩
 have hsl:∀ (n:Nat) (v:Value),n=xs.length→ARep w I ι (.msl b sz 0 n) v→PRep w (fun C=>I C∨ι b=some C) (.sl sz xs) v:=by
  intro n v hn hu
  cases hu with
  |msl _ _ _ _ B cc hB hcc hsz=>
   rcases hblk with ⟨_,g1⟩|⟨B',cs,g1,g2,g3,g4,gl,g6⟩
   ·rw[g1]at hB;exact absurd hB (by simp)
   ·rw[g1]at hB;obtain rfl:=k0y hB
    have:=x3q (xs:=xs) (I2:=fun C=>I C∨ι b=some C) (off:=0) (len:=n) (fun _ h=>Or.inl h) (Or.inr g1) g2 g4 gl g6 (by omega) hcc
    rw[List.drop_zero,hn,List.take_length]at this
    rw[hn]
    exact this
  |msl0 _ _ _ A=>
   have hx:xs=[]:=List.length_eq_zero_iff.1 hn.symm
   subst hx
   exact PRep.sl (w:=w) sz [] A 0 (fun _ _=>undef) (by simp) (by simp) (.inl rfl) (fun j e i u h=>by simp at h)
 have hlv:∀ d,live ((s.H.set b .dead).set c (.cells t2 (l.set o (.p (.sl sz xs))))) d→live (s.H.set b .dead) d:=fun d hd=>q1r hd hlivec
 have hsim:SimH w (fun C=>I C∨ι b=some C) ι ((s.H.set b .dead).set c (.cells t2 (l.set o (.p (.sl sz xs))))):=by
  refine⟨fun d k hd=>?_,fun d d' B hd hd'=>k1.inj d d' B (hlv d hd) (hlv d' hd'),k1.Ilt,fun d hd=>k1.dom d (by simpa using hd),k1.rng⟩
  by_cases e:d=c
  ·subst e
   rw[k2y (V7 hlivec)]at hd
   obtain rfl:=k0y hd
   obtain⟨B,cs,g1,g2,g3,g4,g5⟩:=hcb
   have h0:=k1.blk d (.cells t2 l) (by rw[k3z hbc];exact hc)
   obtain⟨B',cs',f1,f2,f3,f4,f5⟩:=h0
   rw[g1]at f1;obtain rfl:=k0y f1
   rw[g2]at f2;obtain⟨rfl,_⟩:=Obj.cells.inj (k0y f2)
   refine⟨B,cs,g1,g2,f3,by rw[List.length_set];exact g4,fun i u hu=>?_⟩
   rw[List.getElem?_set]at hu
   split at hu
   ·rename_i e2;subst e2
    split at hu
    ·obtain rfl:=k0y hu
     exact .p (hsl _ _ rfl (g5 o _ hl))
    ·cases hu
   ·exact f5 i u hu
  ·rw[k3z (by omega)]at hd
   exact k1.blk d k hd
 have hx:Ex m w I ι s.H w (fun C=>I C∨ι b=some C) ι ((s.H.set b .dead).set c (.cells t2 (l.set o (.p (.sl sz xs))))):=by
  have hx2:Ex m w (fun C=>I C∨ι b=some C) ι (s.H.set b .dead) w (fun C=>I C∨ι b=some C) ι ((s.H.set b .dead).set c (.cells t2 (l.set o (.p (.sl sz xs))))):=⟨⟨rfl,rfl,rfl,k1w _,Shape.refl w,fun _ h=>h,fun _ _ _=>rfl,fun _ h=>.inl h,fun c B hc h=>.inr ⟨c,hlv c hc,h⟩⟩,fun _ _=>rfl,by simpa using hm⟩
  exact(k2.less hm).trans hx2
 exact⟨_,ι,hs.turn ⟨hs.fr.1,fun i u hu=>(hs.fr.2 i u hu).move (fun _ _=>rfl) (fun _ h=>.inl h) (fun _ _ h=>h) (Shape.refl w)⟩ hsim hx,hx⟩
theorem v1i {P:Program}{f:FuncId}{l l1 rest:List AV}{H:List ABlk}{R:AV→List ABlk→Prop}(h:AF P f (.agg l1 :: rest) H R)(ha:ArgL l l1):AF P f (.agg l :: rest) H R:=by
 obtain⟨k1,k2⟩:=ha.get
 refine⟨h.1,fun w I ι vals hn hv hs=>h.2 w I ι vals (by simpa using hn) (fun i u1 hu1=>?_) hs⟩
 cases i with
 |succ i=>exact hv (i+1) u1 hu1
 |zero=>
  simp only[List.getElem?_cons_zero,Option.some.injEq]at hu1
  subst hu1
  have h0:=hv 0 (.agg l) rfl
  generalize vals.getD 0 undef=x at h0
  cases h0 with
  |agg _ vs hvn hr=>
   refine .agg l1 vs (by omega) fun i u1 hu1=>?_
   obtain⟨u,hu,h1⟩:=k2 i u1 hu1
   rcases h1 with rfl|⟨rfl,sz,rfl⟩
   ·exact hr i _ hu
   ·rw[Q9 (hr i _ hu)]
    exact .p (PRep.sl sz [] none 0 (fun _ _=>undef) (by simp) (by simp) (.inl rfl) (fun j e i u h=>by simp at h))
structure Marked (w w':World) (B:Nat):Prop where
 os:w'.os=w.os
 tape:w'.tape=w.tape
 output:w'.output=w.output
 size:w'.heap.size=w.heap.size
 old:∀ k,k≠B→w'.heap[k]?=w.heap[k]?
 new:∀ cs t fr,w.heap[B]?=some (.cells cs t fr)→∃ fr',w'.heap[B]?=some (.cells cs t fr')
theorem Marked.cell {w w':World}{B:Nat}(m:Marked w w' B){cs:Array Value}{t:TypeId}{fr:Nat × Nat}(hB:w.heap[B]?=some (.cells cs t fr))(C o:Nat):w'.cell? ⟨C,o,none⟩=w.cell? ⟨C,o,none⟩:=by
 unfold World.cell?
 by_cases e:C=B
 ·subst e
  obtain⟨fr',h⟩:=m.new cs t fr hB
  simp only[hB,h]
 ·simp only[m.old C e]
section
variable {P:Program} {T:V4} {m:Nat}
end
end Go.Proofs.YtinfbclgkghgaaaGreat.AL
namespace Go.Proofs.YtinfbclgkghgaaaGreat.AL
open Go Go.RowKit
theorem q0g {l:List AV}{K:List AV→Prop}(k:K l):q9x l K:=by rw[z3b];exact k
def v1j (l:List (Nat × AV)):List Nat→List (Nat × AV)
 |[]=>[]
 |t :: ks=>match Z9 l t with
  |some u=>(t,u) :: v1j l ks
  |none=>v1j l ks
theorem y0n {l:List (Nat × AV)}:∀ {ks:List Nat} {i:Nat} {u:AV},Z9 (v1j l ks) i=some u→Z9 l i=some u
 |[],i,u,h=>by simp[v1j,Z9]at h
 |t :: ks,i,u,h=>by
  unfold v1j at h
  cases hl:Z9 l t with
  |none=>rw[hl]at h;exact y0n h
  |some v=>
   rw[hl]at h
   simp only at h
   by_cases e:t=i
   ·subst e
    rw[W0]at h
    rw[hl];exact h
   ·rw[X1 _ _ e]at h
    exact y0n h
theorem z7x {m:Nat}{s:St}(ks:List Nat):Wk m s ⟨⟨s.fr.n,v1j s.fr.l ks⟩,s.H⟩:=fun _ _ I ι _ hs hm=>
 ⟨I,ι,hs.turn ⟨hs.fr.1,fun i u hu=>hs.fr.2 i u (y0n hu)⟩ hs.H (Ex.refl hm),Ex.refl hm⟩
theorem w8x {u:AV}{H:List ABlk}{R:AV→List ABlk→Prop}{m:Nat}(h:R u H):∃ u2 H2,Wk m ⟨⟨1,[(0,u)]⟩,H⟩ ⟨⟨1,[(0,u2)]⟩,H2⟩∧R u2 H2:=⟨u,H,Wk.refl m _,h⟩
end Go.Proofs.YtinfbclgkghgaaaGreat.AL
namespace Go.Proofs.YtinfbclgkghgaaaGreat.AL
open Go Go.Proofs
abbrev fC (E:List UInt8)(G:List Int):List AV:=(E.map fun b=>AV.p (u8 b))++(G.map fun n=>i64 n)++[bl true]
theorem y6t {α:Type}:∀ (l:List α) (n:Nat) (v:α),n<l.length→X6 l n [v]=l.set n v
 |[],n,v,h=>by simp at h
 |x :: l,0,v,_=>rfl
 |x :: l,n+1,v,h=>by
  have:=y6t l n v (by simpa using h)
  unfold X6 at this ⊢
  simp only[List.take_succ_cons,List.cons_append,List.set_cons_succ,List.length_singleton]at this ⊢
  rw[show n+1+1=(n+1)+1 from rfl,List.drop_succ_cons,this]
theorem v7j {E:List UInt8}{G:List Int}{n:Nat}(h:n<E.length)(a:UInt8):X6 (fC E G) n [.p (u8 a)]=fC (E.set n a) G:=by
 rw[y6t _ _ _ (by simp[fC];omega)]
 unfold fC
 rw[List.append_assoc,List.set_append_left _ _ (by rw[k1y];exact h),List.map_set,List.append_assoc]
theorem u3e {E:List UInt8}{G:List Int}{n:Nat}(hE:E.length=510)(h:n<G.length)(v:Int):X6 (fC E G) (510+n) [i64 v]=fC E (G.set n v):=by
 rw[y6t _ _ _ (by simp[fC];omega)]
 unfold fC
 rw[List.append_assoc,List.set_append_right _ _ (by rw[k1y];omega),k1y,hE,Nat.add_sub_cancel_left,List.set_append_left _ _ (by rw[k1y];exact h),List.map_set,List.append_assoc]
theorem v7k (E:List UInt8)(G:List Int)(hE:E.length=510)(hG:G.length=256)(n:Int)(n0:0≤n)(n1:n<255)(a:UInt8) :
 AFm Tryz.prog 2 z5j [i64 n,.p (u8 a),.ref 1 0] [.cells q7i (fC E G),.cells 199 [.ref 0 0]] (v8 (.tup []) [.cells q7i (fC ((E.set n.toNat a).set (n.toNat+255) a) (G.set a.toNat n)),.cells 199 [.ref 0 0]]):=by
 have hl:(fC E G).length=767:=by simp[fC,hE,hG]
 generalize hL:fC E G=L at hl
 refine Q5 2 hT w5p rfl rfl w5q rfl rfl ?_
 refine z8 ?_
 refine v7 [10,14] [] hT y5 (by rfl) ?_
 refine⟨⟨n0,by omega⟩,?_⟩
 have hw:IntKind.i64.wrap (n+255)=n+255:=y8 _ (by omega) (by omega)
 refine y3s (k1u (by show 0+0+n.toNat*1+1≤L.length;omega)) ?_
 repeat refine q0g ?_
 rw[hw]
 refine⟨⟨by omega,by show n+255<510;omega⟩,?_⟩
 have hl1:∀ v:AV,(X6 L (0+0+n.toNat*1) [v]).length=767:=fun v=>by rw[X5 (by rw[hl];show 0+0+n.toNat*1+1≤767;omega),hl]
 refine y3s (k1u (by show 0+0+(n+255).toNat*1+1≤(X6 L (0+0+n.toNat*1) [_]).length;rw[hl1];omega)) ?_
 repeat refine q0g ?_
 repeat first|refine⟨rfl,?_⟩|refine⟨⟨⟨by omega,by show n+255<510;omega⟩,rfl⟩,?_⟩|refine⟨⟨⟨n0,by omega⟩,rfl⟩,?_⟩|refine q0g ?_
 refine q9 hT ?_
 repeat refine q0g ?_
 have ha:=a.toNat_lt
 refine⟨⟨by omega,by show ((a.toNat:Nat):Int)<256;omega⟩,?_⟩
 repeat refine q0g ?_
 refine y3s (k1u (by show 0+510+((a.toNat:Nat):Int).toNat*1+1≤(X6 (X6 L (0+0+n.toNat*1) [.p (u8 a)]) (0+0+(n+255).toNat*1) [.p (u8 a)]).length;rw[X5 (by rw[hl1];show 0+0+(n+255).toNat*1+1≤767;omega),hl1];omega)) ?_
 repeat refine q0g ?_
 refine w8x ⟨rfl,?_⟩
 show [ABlk.cells q7i (X6 (X6 (X6 L (0+0+n.toNat*1) [.p (u8 a)]) (0+0+(n+255).toNat*1) [.p (u8 a)]) (0+510+((a.toNat:Nat):Int).toNat*1) [i64 n]),.cells 199 [.ref 0 0]]=_
 rw[← hL,show 0+0+n.toNat*1=n.toNat by omega,show 0+0+(n+255).toNat*1=n.toNat+255 by omega,show 0+510+((a.toNat:Nat):Int).toNat*1=510+a.toNat by omega]
 rw[v7j (by omega),v7j (by rw[List.length_set];omega),u3e (by rw[List.length_set,List.length_set];exact hE) (by omega)]
open Gf in
def stT:Nat→List UInt8 × List Int
 |0=>(List.replicate 510 0,List.replicate 256 0)
 |k+1=>(((stT k).1.set k (pw k)).set (k+255) (pw k),(stT k).2.set (pw k).toNat k)
theorem z0m:∀ k,(stT k).1.length=510∧(stT k).2.length=256
 |0=>⟨k2q,k2q⟩
 |k+1=>by
  obtain⟨h1,h2⟩:=z0m k
  exact⟨by rw[stT,List.length_set,List.length_set,h1],by rw[stT,List.length_set,h2]⟩
abbrev v1k:AV:=.clo (.func z5j) [.ref 1 0]
def LF (k:Nat):List AV:=fC (stT k).1 (stT k).2
abbrev fH (L:Nat→List AV)(k:Nat):List ABlk:=[.cells q7i (L k),.cells 199 [.ref 0 0]]
theorem v1m:AFm Tryz.prog 2 w0p [v1k] (fH LF 0) (v8 (.tup []) (fH LF 255)):=by
 refine Q5 2 hT w0q rfl rfl w0r rfl rfl ?_
 obtain⟨N,hN⟩:∃ N:Nat,N=255:=⟨_,rfl⟩
 have hfin:fH LF 255=fH LF N:=by rw[hN]
 rw[hfin]
 clear hfin
 have step:∀ k:Nat,k<255→AFm Tryz.prog 2 z5j [i64 k,.p (u8 (Gf.pw k)),.ref 1 0] (fH LF k) (v8 (.tup []) (fH LF (k+1))):=fun k hk=>by
  obtain⟨h1,h2⟩:=z0m k
  have:=v7k (stT k).1 (stT k).2 h1 h2 k (by omega) (by omega) (Gf.pw k)
  rw[k0v]at this
  exact this
 generalize LF=L at step ⊢
 refine z7 ⟨⟨19,[(0,v1k),(2,i64 1)]⟩,fH L 0⟩ True (q9 hT ?_) (fun _=>?_)
 ·repeat refine q0g ?_
  exact⟨z7x [0,2],trivial⟩
 refine q8 hT ?_
 repeat refine q0g ?_
 refine z3 ?_
 refine y7 (fun n s=>∃ (k:Nat) (j a:Int),n+k=N∧j=k∧a=((Gf.pw k).toNat:Int)∧s=⟨⟨19,[(0,v1k),(2,i64 a),(4,i64 j)]⟩,fH L k⟩) N ⟨⟨19,_⟩,_⟩ (z7x [0,2,4]) ⟨0,0,1,by omega,rfl,rfl,rfl⟩ ?_
 rintro n s ⟨k,j,a,hnk,hj,ha,rfl⟩
 have hb:=(Gf.pw k).toNat_lt
 refine q8 hT ?_
 repeat refine q0g ?_
 refine z8 (z4 (y4 (fun h=>?_) (fun h=>?_)))
 ·have h:=k0q (show decide (j<255)=true from h)
  have hk:k<255:=by omega
  refine z5 ?_
  have w:=step k hk
  have hu:(.p (.raw (.int .u8 (IntKind.u8.wrap a))):AV)=.p (u8 (Gf.pw k)):=by rw[ha,q0t,UInt8.ofNat_toNat]
  rw[← hu,← hj]at w
  have hwr:IntKind.i64.wrap (a*2 ^ (min (1:Int).toNat 64))=a*2:=by
   show IntKind.i64.wrap (a*2 ^ 1)=a*2
   rw[y8 _ (by omega) (by omega)];omega
  have hnx:=Gf.next_pw (Gf.pw k)
  have hpw:Gf.pw (k+1)=Gf.xt (Gf.pw k):=rfl
  refine y6 (fun st=>∃ x,x=(((Gf.pw (k+1)).toNat:Nat):Int)∧st=⟨⟨19,[(0,v1k),(2,i64 x),(4,i64 j)]⟩,fH L (k+1)⟩) (z3 (q8 hT ?_)) ?_
  ·repeat refine q0g ?_
   refine z7 ⟨⟨19,[(0,v1k),(2,i64 a),(4,i64 j)]⟩,fH L (k+1)⟩ True (q9 hT ?_) (fun _=>?_)
   ·repeat refine q0g ?_
    refine x7 w ?_
    repeat refine q0g ?_
    exact⟨z7x [0,2,4],trivial⟩
   refine y6 (fun st=>∃ x,x=a*2∧st=⟨⟨19,[(0,v1k),(2,i64 x),(4,i64 j)]⟩,fH L (k+1)⟩) (q9 hT ?_) ?_
   ·repeat refine q0g ?_
    exact⟨_,z7x [0,2,4],_,hwr,rfl⟩
   rintro _ ⟨x,hx,rfl⟩
   refine q8 hT ?_
   repeat refine q0g ?_
   refine z4 (y4 (fun h=>?_) (fun h=>?_))
   ·have h:=k0q (show decide (x > 255)=true from h)
    rw[if_pos (by omega)]at hnx
    refine q9 hT ?_
    repeat refine q0g ?_
    refine⟨_,z7x [0,2,4],_,?_,rfl⟩
    show IntKind.i64.wrap ((BitVec.ofInt 64 x ^^^ BitVec.ofInt 64 285).toNat:Int)=((Gf.pw (k+1)).toNat:Int)
    have e1:BitVec.ofInt 64 x=BitVec.ofNat 64 ((Gf.pw k).toNat*2):=by
     rw[hx,ha,show (((Gf.pw k).toNat:Nat):Int)*2=(((Gf.pw k).toNat*2:Nat):Int) by omega];rfl
    have e2:(BitVec.ofInt 64 x ^^^ BitVec.ofInt 64 285).toNat=(Gf.xt (Gf.pw k)).toNat:=by rw[e1,← hnx];rfl
    have hb2:=(Gf.xt (Gf.pw k)).toNat_lt
    rw[e2,hpw,y8 _ (by omega) (by omega)]
   ·have h:=k0z (show decide (x > 255)=false from h)
    rw[if_neg (by omega)]at hnx
    refine z5 ⟨_,z7x [0,2,4],_,?_,rfl⟩
    rw[hpw,← hnx,hx,ha];omega
  ·rintro _ ⟨x,hx,rfl⟩
   refine q9 hT ?_
   repeat refine q0g ?_
   exact⟨n - 1,by omega,_,z7x [0,2,4],k+1,IntKind.i64.wrap (j+1),x,by omega,by rw[y8 _ (by omega) (by omega)];omega,hx,rfl⟩
 ·have h:=k0z (show decide (j<255)=false from h)
  refine x6 ?_
  rw[show k=N by omega]
  exact w8x ⟨rfl,rfl⟩
def fP:List PV:=((stT 255).1.map fun b=>u8 b)++((stT 255).2.map fun n=>.raw (.int .i64 n))++[.raw (.bool true)]
theorem q3h:AF Tryz.prog v6a [] [] (v8 (.p (.box fP)) []):=by
 refine v6 hT v6b rfl rfl v6c rfl ?_
 refine q8 hT ?_
 have hf:LF 255=fP.map .p:=by unfold LF fC fP;simp;rfl
 have w:=v1m
 refine y6 (fun st=>∃ X,X=LF 0∧st=⟨⟨7,[(1,.ref 1 0)]⟩,[.cells q7i X,.cells 199 [.ref 0 0]]⟩) (q9 hT ?_) ?_
 ·exact⟨_,z7x [1],_,rfl,rfl⟩
 rintro _ ⟨X,hX,rfl⟩
 generalize LF=L at w hX hf
 generalize fP=F at hf ⊢
 subst hX
 refine z7 ⟨⟨7,[(1,.ref 1 0)]⟩,fH L 255⟩ True (q9 hT ?_) (fun _=>?_)
 ·repeat refine q0g ?_
  refine x7 w ?_
  repeat refine q0g ?_
  exact⟨z7x [1],trivial⟩
 refine q8 hT ?_
 repeat refine q0g ?_
 refine u6 (Q4 0 F rfl hf) ?_
 refine y9 ?_
 exact z9 [] ⟨rfl,rfl⟩ rfl
end Go.Proofs.YtinfbclgkghgaaaGreat.AL
namespace Go.Proofs.YtinfbclgkghgaaaGreat.AL
open Go Go.Proofs Go.Proofs.YtinfbclgkghgaaaGreat.AL.Crc
def leB (k n:Nat):z6:=(List.range k).map fun j=>UInt8.ofNat (n / 256 ^ j)
theorem J1 (k n:Nat):(leB k n).length=k:=by simp[leB]
theorem z7y (k n:Nat):leB (k+1) n=leB k n++[UInt8.ofNat (n / 256 ^ k)]:=by unfold leB;rw[List.range_succ,List.map_append];rfl
theorem y3g (l:z6)(b:UInt8):bx (l++[b])=bx l++[[u8 b]]:=by simp[bx]
theorem Y9 (l r:z6):bx (l++r)=bx l++bx r:=by simp[bx]
theorem y3h (n k:Nat):n / 256 ^ (k+1)=n / 256 ^ k / 256:=by rw[Nat.pow_succ,Nat.div_div_eq_div_mul]
theorem u9x (q:Nat):((q:Int).fdiv (2 ^ (min ((8:Nat):Int).toNat 64)))=((q / 256:Nat):Int):=by
 rw[Int.fdiv_eq_ediv_of_nonneg _ (Int.pow_nonneg (by omega)),Int.natCast_ediv];rfl
theorem v1n (n:Nat):AF Tryz.prog y5h [i64 n] [] (v8 (.msl 0 1 0 4) [.row z1 1 (bx (leB 4 n))]):=by
 refine v6 hT w5i rfl rfl w5j rfl ?_
 refine q8 hT ?_
 refine q8 hT ?_
 refine u6 (Wk.trans (Q2 z1 1) (V6 3 0 1 0 rfl)) ?_
 refine z8 (q8 hT ?_)
 refine z3 ?_
 refine y7 (fun m s=>∃ (i:Nat) (j v:Int) (L:z6),m+i=4∧j=i∧v=((n / 256 ^ i:Nat):Int)∧L=leB i n∧s=⟨⟨15,[(0,i64 v),(3,.msl 0 1 0 (bx L).length),(4,i64 j)]⟩,[.row z1 1 (bx L)]⟩) 4 ⟨⟨15,_⟩,[_]⟩ (q7 [0] [0,3,4] rfl) ⟨0,0,_,[],rfl,rfl,by rw[Nat.pow_zero,Nat.div_one],rfl,rfl⟩ ?_
 rintro m s ⟨i,j,v,L,hmi,rfl,rfl,hL,rfl⟩
 have hLl:L.length=i:=by rw[hL,J1]
 have hbl:=w6 L
 refine q8 hT ?_
 refine z8 (z4 (y4 (fun h=>?_) (fun h=>?_)))
 ·have hi:i<4:=by
   have:=k0q (show decide ((i:Int)<4)=true from h)
   omega
  refine z5 ?_
  refine z7 ⟨⟨15,[(0,i64 ((n / 256 ^ (i+1):Nat):Int)),(3,.msl 0 1 0 (bx (L++[UInt8.ofNat (n / 256 ^ i)])).length),(4,i64 i)]⟩,[.row z1 1 (bx (L++[UInt8.ofNat (n / 256 ^ i)]))]⟩ True (z3 (z8 (X8 (fun k=>Nat.beq 3 k) hT ?_))) (fun _=>?_)
  ·refine⟨⟨rfl,rfl⟩,?_⟩
   refine⟨rfl,⟨?_,?_⟩,?_⟩
   ·show ((bx L).length+1)*1≤140737488355328
    omega
   ·show (bx L).length+1≤140737488355328
    omega
   refine q9 hT ?_
   rw[y3g,show u8 (UInt8.ofNat (n / 256 ^ i))=PV.raw (.int .u8 (IntKind.u8.wrap ((n / 256 ^ i:Nat):Int))) by rw[q0t],y3h,← u9x]
   exact⟨q7 [1] [0,3,4] rfl,trivial⟩
  ·refine q9 hT ?_
   refine⟨m - 1,by omega,_,q7 [0] [0,3,4] rfl,i+1,IntKind.i64.wrap ((i:Int)+1),_,_,by omega,?_,rfl,by rw[hL,z7y],rfl⟩
   rw[y8 _ (by omega) (by omega)];rfl
 ·have hi:¬ (i:Int)<4:=k0z h
  have hi4:i=4:=by omega
  subst hi4
  refine x6 ?_
  refine q8 hT ?_
  refine y9 ?_
  subst hL
  have e:(bx (leB 4 n)).length=4:=by rw[hbl,J1]
  rw[show AV.msl 0 1 0 4=AV.msl 0 1 0 (bx (leB 4 n)).length by rw[e]]
  exact z9 [0] ⟨rfl,rfl⟩ rfl
theorem w1j (n:Nat):AF Tryz.prog y5h [i64 n] [] (v8 (bA (leB 4 n)) []):=z9j (v1n n) (by rw[w6,J1])
def q0k (l:z6):z6:=l++leB 4 (sum l).toNat
theorem q9g (l:z6):(q0k l).length=l.length+4:=by unfold q0k;rw[k1z,J1]
theorem v7m (q:Nat):IntKind.u8.wrap ((q:Int).tmod 256)=((UInt8.ofNat q).toNat:Int):=by
 rw[show (256:Int)=((256:Nat):Int) from rfl,y6s,q0t,UInt8.toNat_ofNat',UInt8.toNat_ofNat'];omega
theorem w1k (l:z6)(hl:l.length≤1000000):AF Tryz.prog z7h [bA l] [] (v8 (.msl 0 1 0 (q0k l).length) [.row z1 1 (bx (q0k l))]):=by
 have hbl:=w6 l
 refine v6 hT x5h rfl rfl x5i rfl ?_
 refine q8 hT ?_
 refine q8 hT ?_
 refine x7 (v1h l hl) ?_
 have hn:=(sum l).isLt
 unfold q0k
 generalize (sum l).toNat=n at hn
 refine q8 hT ?_
 refine⟨⟨?_,?_⟩,?_⟩
 ·show (bx l).length*1≤140737488355328
  omega
 ·show (bx l).length≤140737488355328
  omega
 refine z8 (q8 hT ?_)
 refine z3 ?_
 refine y7 (fun m s=>∃ (i:Nat) (j v:Int) (L:z6),m+i=4∧j=i∧v=((n / 256 ^ i:Nat):Int)∧L=l++leB i n∧s=⟨⟨23,[(3,i64 v),(4,.msl 0 1 0 (bx L).length),(5,i64 j)]⟩,[.row z1 1 (bx L)]⟩) 4 ⟨⟨23,_⟩,[_]⟩ (q7 [0] [3,4,5] rfl) ⟨0,0,_,l,rfl,rfl,by rw[Nat.pow_zero,Nat.div_one],by simp[leB],rfl⟩ ?_
 rintro m s ⟨i,j,v,L,hmi,rfl,rfl,hL,rfl⟩
 have hLl:L.length=l.length+i:=by rw[hL,k1z,J1]
 have hbL:=w6 L
 refine z8 (q8 hT ?_)
 refine z4 (y4 (fun h=>?_) (fun h=>?_))
 ·have hi:i<4:=by
   have:=k0q (show decide ((i:Int)<4)=true from h)
   omega
  refine z5 ?_
  refine z7 ⟨⟨23,[(3,i64 ((n / 256 ^ (i+1):Nat):Int)),(4,.msl 0 1 0 (bx (L++[UInt8.ofNat (n / 256 ^ i)])).length),(5,i64 i)]⟩,[.row z1 1 (bx (L++[UInt8.ofNat (n / 256 ^ i)]))]⟩ True (z3 (z8 (X8 (fun k=>Nat.beq 4 k) hT ?_))) (fun _=>?_)
  ·refine⟨⟨rfl,rfl⟩,?_⟩
   refine⟨rfl,⟨?_,?_⟩,?_⟩
   ·show ((bx L).length+1)*1≤140737488355328
    omega
   ·show (bx L).length+1≤140737488355328
    omega
   refine q9 hT ?_
   have hq:n / 256 ^ i≤n:=Nat.div_le_self _ _
   rw[y3g,show u8 (UInt8.ofNat (n / 256 ^ i))=PV.raw (.int .u8 (IntKind.u8.wrap (((n / 256 ^ i:Nat):Int).tmod 256))) by rw[v7m],y3h,← z7w _ 256 (by omega)]
   exact⟨q7 [1] [3,4,5] rfl,trivial⟩
  ·refine q9 hT ?_
   refine⟨m - 1,by omega,_,q7 [0] [3,4,5] rfl,i+1,IntKind.i64.wrap ((i:Int)+1),_,_,by omega,?_,rfl,by rw[hL,z7y,List.append_assoc],rfl⟩
   rw[y8 _ (by omega) (by omega)];rfl
 ·have hi:¬ (i:Int)<4:=k0z h
  have hi4:i=4:=by omega
  subst hi4
  refine x6 ?_
  refine q8 hT ?_
  refine y9 ?_
  subst hL
  rw[← w6 (l++leB 4 n)]
  exact z9 [0] ⟨rfl,rfl⟩ rfl
theorem w6f (l:z6)(hl:l.length≤1000000):AF Tryz.prog z7h [bA l] [] (v8 (bA (q0k l)) []):=z9j (w1k l hl) (by rw[w6])
end Go.Proofs.YtinfbclgkghgaaaGreat.AL
namespace Go.Proofs.YtinfbclgkghgaaaGreat.AL
open Go Go.Proofs
def val:z6→Nat
 |[]=>0
 |c :: r=>c.toNat % 128+128*val r
def y2x (n:Nat):z6:=if n<128 then [UInt8.ofNat n] else UInt8.ofNat (n % 128+128) :: y2x (n / 128)
termination_by n
decreasing_by omega
theorem w8y {n:Nat}(h:n<128):y2x n=[UInt8.ofNat n]:=by rw[y2x,if_pos h]
theorem u0f {n:Nat}(h:¬ n<128):y2x n=UInt8.ofNat (n % 128+128) :: y2x (n / 128):=by rw[y2x,if_neg h]
theorem q9h:∀ (k n:Nat),n<128 ^ (k+1)→(y2x n).length≤k+1
 |0,n,h=>by rw[w8y (by simpa using h)];simp
 |k+1,n,h=>by
  by_cases h1:n<128
  ·rw[w8y h1];simp
  ·rw[u0f h1,List.length_cons]
   have:=q9h k (n / 128) (by rw[Nat.pow_succ]at h;exact Nat.div_lt_of_lt_mul (by rw[Nat.mul_comm];exact h))
   omega
end Go.Proofs.YtinfbclgkghgaaaGreat.AL
namespace Go.Proofs.YtinfbclgkghgaaaGreat.AL
open Go Go.Proofs Go.Proofs.YtinfbclgkghgaaaGreat.AL.Crc
theorem x5u (s t:z6)(hs:s.length≤1000000):AF Tryz.prog q6k [bA s,bA t] [] (v8 (bl (s==t)) []):=by
 refine v6 hT z4j rfl rfl z4k rfl ?_
 refine q8 hT ?_
 refine z8 (q8 hT ?_)
 refine z4 (y4 (fun h=>?_) (fun h=>?_))
 ·have hne:(s==t)=false:=by
   have h:(((bx s).length:Int) != ((bx t).length:Int))=true:=h
   rw[w6,w6]at h
   rw[beq_eq_false_iff_ne]
   rintro rfl
   simp at h
  refine q8 hT ?_
  refine y9 ?_
  rw[hne]
  exact z9 [] ⟨rfl,rfl⟩ rfl
 have hlen:s.length=t.length:=by
  have h:(((bx s).length:Int) != ((bx t).length:Int))=false:=h
  rw[w6,w6]at h
  have h:(s.length:Int)=t.length:=by simpa using h
  omega
 refine z5 ?_
 refine z8 (q8 hT ?_)
 refine z3 ?_
 refine y7 (fun n st=>∃ (i:Nat) (j:Int),n+i=s.length∧j=i∧s.take i=t.take i∧st=⟨⟨26,[(0,bA s),(1,bA t),(12,i64 s.length),(13,i64 j)]⟩,[]⟩) s.length ⟨⟨26,_⟩,[]⟩ (q7 [] [0,1,12,13] rfl) ⟨0,_,rfl,rfl,rfl,by rw[← w6 s];rfl⟩ ?_
 rintro n st ⟨i,j,hni,rfl,ht,rfl⟩
 refine q8 hT ?_
 refine z8 (z4 (y4 (fun h=>?_) (fun h=>?_)))
 ·have hi:i<s.length:=by
   have:=k0q (show decide ((i:Int)<(s.length:Int))=true from h)
   omega
  have hx:(bx s)[((i:Nat):Int).toNat]?=some [u8 s[i]]:=by
   rw[k0v,bx,k1q,k0x hi];rfl
  have hy:(bx t)[((i:Nat):Int).toNat]?=some [u8 (t[i]'(by omega))]:=by
   rw[k0v,bx,k1q,k0x (by omega)];rfl
  refine z5 ?_
  refine z8 (z3 (q8 hT ?_))
  refine z8 ?_
  refine v7 [] [] hT y5 (by rfl) ?_
  refine⟨k2w _,w9 hx ?_⟩
  refine⟨k2w _,w9 hy ?_⟩
  refine z4 (y4 (fun h2=>?_) (fun h2=>?_))
  ·have hne:(s==t)=false:=by
    rw[beq_eq_false_iff_ne]
    rintro rfl
    have h2:(((s[i].toNat:Nat):Int) != ((s[i].toNat:Nat):Int))=true:=h2
    simp at h2
   refine q8 hT ?_
   refine y9 ?_
   rw[hne]
   exact z9 [] ⟨rfl,rfl⟩ rfl
  ·have he:s[i]=t[i]'(by omega):=by
    have h2:(((s[i].toNat:Nat):Int) != (((t[i]'(by omega)).toNat:Nat):Int))=false:=h2
    have h2:(s[i].toNat:Int)=((t[i]'(by omega)).toNat:Int):=by simpa using h2
    have h2:s[i].toNat=(t[i]'(by omega)).toNat:=by omega
    exact UInt8.toNat_inj.mp h2
   refine z5 ?_
   refine q9 hT ?_
   refine⟨n - 1,by omega,_,q7 [] [0,1,12,13] rfl,i+1,IntKind.i64.wrap ((i:Int)+1),by omega,?_,?_,rfl⟩
   ·rw[y8 _ (by omega) (by omega)];rfl
   ·rw[k2t,k2t,ht,k0x hi,k0x (show i<t.length by omega),he]
 ·refine x6 ?_
  have hi:i=s.length:=by
   have:=k0z (show decide ((i:Int)<(s.length:Int))=false from h)
   omega
  have he:(s==t)=true:=by
   rw[beq_iff_eq]
   rw[hi,List.take_length,hlen,List.take_length]at ht
   exact ht
  refine q8 hT ?_
  refine y9 ?_
  rw[he]
  exact z9 [] ⟨rfl,rfl⟩ rfl
theorem w1m (l:z6)(hl:l.length≤1000000):AF Tryz.prog q8s [bA l] [] (v8 (bA l) []):=by
 have hb:=w6 l
 generalize hx:bx l=xs at hb
 show AF Tryz.prog q8s [.p (.sl 1 (bx l))] [] (v8 (.p (.sl 1 (bx l))) [])
 rw[hx]
 refine z9j (t:=z1) (n:=xs.length) ?_ rfl
 refine v6 hT y9d rfl rfl y9e rfl ?_
 refine q8 hT ?_
 refine z8 (q8 hT ?_)
 intro b hn
 refine z4 (y4 (fun h=>?_) (fun h=>?_))
 ·refine q8 hT ?_
  refine y9 ?_
  rw[hn h]
  exact x3z z1 1 ⟨rfl,rfl⟩
 ·refine z5 ?_
  refine q8 hT ?_
  refine⟨rfl,⟨?_,?_⟩,?_⟩
  ·show (0+xs.length)*1≤_;omega
  ·show 0+xs.length≤_;omega
  refine y9 ?_
  exact z9 [1] ⟨rfl,rfl⟩ rfl
theorem w1n (n:Int)(h0:0≤n)(hn:n≤1000000):AF Tryz.prog z5k [.p (.raw (.slice none 0 0)),i64 n] [] (v8 (.msl 0 1 0 0) [.row z1 1 []]):=by
 refine v6 hT z5m rfl rfl z5n rfl ?_
 refine q8 hT ?_
 refine z8 (q8 hT ?_)
 refine z4 (y4 (fun h=>?_) (fun h=>?_))
 ·have:=k0q (show decide (n<0)=true from h)
  omega
 refine z5 ?_
 have e:IntKind.i64.wrap (n - IntKind.i64.wrap (0 - 0))=n:=by rw[y8 (0 - 0) (by omega) (by omega),y8 _ (by omega) (by omega)];omega
 refine z7 ⟨⟨27,[(0,.msl 0 1 0 0)]⟩,[.row z1 1 []]⟩ True (q8 hT ?_) (fun _=>?_)
 ·refine q8 hT ?_
  refine z4 (y4 (fun h=>?_) (fun h=>?_))
  ·have h:decide (IntKind.i64.wrap (n - IntKind.i64.wrap (0 - 0)) > 0)=true:=h
   refine q9 hT ?_
   refine⟨⟨rfl,rfl⟩,?_⟩
   refine⟨⟨?_,?_,?_⟩,?_⟩
   ·show 0≤IntKind.i64.wrap (n - IntKind.i64.wrap (0 - 0))
    rw[e];exact h0
   ·show IntKind.i64.wrap (n - IntKind.i64.wrap (0 - 0))*1≤140737488355328
    rw[e];omega
   ·show IntKind.i64.wrap (n - IntKind.i64.wrap (0 - 0))≤140737488355328
    rw[e];omega
   refine⟨⟨Int.le_refl _,Int.le_refl _,k2w _⟩,?_⟩
   refine⟨Wk.trans (q7 [0] [0] rfl) (Wk.trans (y6h 0 0 rfl) ?_),trivial⟩
   exact q7 [0] [0] rfl
  ·refine z5 ?_
   exact⟨Wk.trans (Q2 z1 1) (Wk.trans (V6 0 0 1 0 rfl) (q7 [0] [0] rfl)),trivial⟩
 ·refine q8 hT ?_
  refine y9 ?_
  exact z9 [0] ⟨rfl,rfl⟩ rfl
def z2 (Ls:List z6):List (List PV):=Ls.map fun l=>[bP l]
theorem u5 (Ls:List z6):(z2 Ls).length=Ls.length:=by simp[z2]
theorem Q0 {Ls:List z6}{i:Nat}{l:z6}(h:Ls[i]?=some l):(z2 Ls)[i]?=some [bP l]:=by rw[z2,k1q,h];rfl
theorem y6u (Ls:List z6)(h1:Ls.length≤1000)(h2:Ls.flatten.length≤1000000):AF Tryz.prog q5m [.p (.sl 1 (z2 Ls))] [] (v8 (.msl 0 1 0 (bx Ls.flatten).length) [.row z1 1 (bx Ls.flatten)]):=by
 have sub:∀ i,(Ls.take i).flatten.length≤1000000:=fun i=>by
  refine Nat.le_trans ?_ h2
  conv=>rhs;rw[← List.take_append_drop i Ls,List.flatten_append,k1z]
  omega
 refine v6 hT z1u rfl rfl z1v rfl ?_
 refine q8 hT ?_
 refine q8 hT ?_
 refine y6 (fun s1=>∃ n:Int,0≤n∧n≤1000000∧s1=⟨⟨36,[(0,.p (.sl 1 (z2 Ls))),(3,i64 n)]⟩,[]⟩) (q8 hT ?_) ?_
 ·refine z3 ?_
  refine y7 (fun m s=>∃ (i:Nat) (j v:Int),m+i=Ls.length∧j=i∧v=((Ls.take i).flatten.length:Int)∧s=⟨⟨36,[(0,.p (.sl 1 (z2 Ls))),(3,i64 v),(9,.p (.sl 1 (z2 Ls))),(10,i64 Ls.length),(11,i64 j)]⟩,[]⟩) Ls.length ⟨⟨36,_⟩,[]⟩ (q7 [] [0,3,9,10,11] rfl) ⟨0,0,0,rfl,rfl,rfl,by rw[← u5 Ls];rfl⟩ ?_
  rintro m s ⟨i,j,v,hmi,rfl,hv,rfl⟩
  have hs:=sub i
  refine q8 hT ?_
  refine z8 (z4 (y4 (fun h=>?_) (fun h=>?_)))
  ·have hi:i<Ls.length:=by
    have:=k0q (show decide ((i:Int)<(Ls.length:Int))=true from h)
    omega
   have hx:=k0x hi
   have htk:Ls.take (i+1)=Ls.take i++[Ls[i]]:=by rw[k2t,hx];rfl
   generalize Ls[i]=l at hx htk
   have hxp:(z2 Ls)[((i:Nat):Int).toNat]?=some [bP l]:=by rw[k0v];exact Q0 hx
   have hs2:=sub (i+1)
   have hfl:(Ls.take (i+1)).flatten.length=(Ls.take i).flatten.length+l.length:=by rw[htk,List.flatten_append,k1z];simp
   have hw:IntKind.i64.wrap (v+((bx l).length:Int))=((Ls.take (i+1)).flatten.length:Int):=by
    rw[hv,w6,y8 _ (by omega) (by omega)];omega
   refine z5 ?_
   refine z7 ⟨⟨36,[(0,.p (.sl 1 (z2 Ls))),(3,i64 ((Ls.take (i+1)).flatten.length:Int)),(9,.p (.sl 1 (z2 Ls))),(10,i64 Ls.length),(11,i64 i)]⟩,[]⟩ True (z3 (q8 hT ?_)) (fun _=>?_)
   ·refine⟨k2w _,w9 hxp ?_⟩
    refine q8 hT ?_
    refine q8 hT ?_
    refine z4 (y4 (fun h3=>?_) (fun h3=>?_))
    ·have h3:decide (IntKind.i64.wrap (v+((bx l).length:Int))<0)=true:=h3
     have h3:=k0q h3
     rw[hw]at h3;omega
    ·refine z5 ?_
     rw[← hw]
     exact⟨q7 [] [0,3,9,10,11] rfl,trivial⟩
   ·refine q9 hT ?_
    refine⟨m - 1,by omega,_,q7 [] [0,3,9,10,11] rfl,i+1,IntKind.i64.wrap ((i:Int)+1),_,by omega,?_,rfl,rfl⟩
    rw[y8 _ (by omega) (by omega)];rfl
  ·refine x6 ?_
   exact⟨_,q7 [] [0,3] rfl,v,by omega,by omega,rfl⟩
 rintro _ ⟨n,n0,n1,rfl⟩
 refine q8 hT ?_
 refine x7 (w1n n n0 n1) ?_
 refine z8 (q8 hT ?_)
 refine z3 ?_
 refine y7 (fun m s=>∃ (i:Nat) (j:Int) (L:z6),m+i=Ls.length∧j=i∧L=(Ls.take i).flatten∧s=⟨⟨36,[(6,.msl 0 1 0 (bx L).length),(25,.p (.sl 1 (z2 Ls))),(26,i64 Ls.length),(27,i64 j)]⟩,[.row z1 1 (bx L)]⟩) Ls.length ⟨⟨36,_⟩,[_]⟩ (q7 [0] [6,25,26,27] rfl) ⟨0,0,[],rfl,rfl,rfl,by rw[← u5 Ls];rfl⟩ ?_
 rintro m s ⟨i,j,L,hmi,rfl,hL,rfl⟩
 have hs:=sub i
 rw[← hL]at hs
 have hbL:=w6 L
 refine q8 hT ?_
 refine z8 (z4 (y4 (fun h=>?_) (fun h=>?_)))
 ·have hi:i<Ls.length:=by
   have:=k0q (show decide ((i:Int)<(Ls.length:Int))=true from h)
   omega
  have hx:=k0x hi
  have htk:Ls.take (i+1)=Ls.take i++[Ls[i]]:=by rw[k2t,hx];rfl
  generalize Ls[i]=l at hx htk
  have hxp:(z2 Ls)[((i:Nat):Int).toNat]?=some [bP l]:=by rw[k0v];exact Q0 hx
  have hs2:=sub (i+1)
  have hfl:(Ls.take (i+1)).flatten=L++l:=by rw[htk,List.flatten_append,hL];simp
  rw[hfl,k1z]at hs2
  have hbl:=w6 l
  refine z5 ?_
  refine z7 ⟨⟨36,[(6,.msl 0 1 0 (bx (L++l)).length),(25,.p (.sl 1 (z2 Ls))),(26,i64 Ls.length),(27,i64 i)]⟩,[.row z1 1 (bx (L++l))]⟩ True (z3 (q8 hT ?_)) (fun _=>?_)
  ·refine⟨k2w _,w9 hxp ?_⟩
   refine q9 hT ?_
   refine⟨rfl,⟨?_,?_⟩,?_⟩
   ·show ((bx L).length+(bx l).length)*1≤140737488355328
    omega
   ·show (bx L).length+(bx l).length≤140737488355328
    omega
   rw[Y9]
   exact⟨q7 [1] [6,25,26,27] rfl,trivial⟩
  ·refine q9 hT ?_
   refine⟨m - 1,by omega,_,q7 [0] [6,25,26,27] rfl,i+1,IntKind.i64.wrap ((i:Int)+1),L++l,by omega,?_,hfl.symm,rfl⟩
   rw[y8 _ (by omega) (by omega)];rfl
 ·have hi:¬ (i:Int)<(Ls.length:Int):=k0z h
  have hil:i=Ls.length:=by omega
  subst hil
  rw[List.take_length]at hL
  subst hL
  refine x6 ?_
  refine q8 hT ?_
  refine y9 ?_
  exact z9 [0] ⟨rfl,rfl⟩ rfl
theorem y9r (Ls:List z6)(h1:Ls.length≤1000)(h2:Ls.flatten.length≤1000000):AF Tryz.prog q5m [.p (.sl 1 (z2 Ls))] [] (v8 (bA Ls.flatten) []):=z9j (y6u Ls h1 h2) rfl
theorem v7n (l:z6)(hl:l.length≤900000):AF Tryz.prog w5c [bA l] [] (v8 (bA (q0k l)) []):=by
 have w:=y9r [l,leB 4 (sum l).toNat] (by simp) (by simp[J1];omega)
 have e:[l,leB 4 (sum l).toNat].flatten=q0k l:=by simp[q0k]
 rw[e]at w
 refine v6 hT w5d rfl rfl w5e rfl ?_
 refine q8 hT ?_
 refine z8 (X8 (fun k=>Nat.beq 4 k) hT ?_)
 refine x7 (w8v l (by omega)) ?_
 refine x7 (w1j (sum l).toNat) ?_
 refine⟨⟨rfl,rfl⟩,?_⟩
 refine x7 w ?_
 refine y9 ?_
 exact z9 [] ⟨rfl,rfl⟩ rfl
def J8 (l:z6):Bool:=match decide (4≤l.length) with
 |true=>l.drop (l.length - 4)==leB 4 (sum (l.take (l.length - 4))).toNat
 |false=>false
theorem z7z (l:z6)(n:Nat):bx (l.drop n)=(bx l).drop n:=by rw[bx,bx,List.map_drop]
theorem z3q (l:z6)(n:Nat):bx (l.take n)=(bx l).take n:=by rw[bx,bx,List.map_take]
theorem v1p (l:z6)(hl:l.length≤1000000):AF Tryz.prog x9m [bA l] [] (v8 (bl (J8 l)) []):=by
 have hbl:=w6 l
 refine v6 hT x9n rfl rfl x9p rfl ?_
 refine q8 hT ?_
 have hw:IntKind.i64.wrap (((bx l).length:Int) - 4)=(l.length:Int) - 4:=by rw[hbl,y8 _ (by omega) (by omega)]
 refine z7 ⟨⟨20,[(0,bA l),(3,i64 ((l.length:Int) - 4))]⟩,[]⟩ True (q9 hT ?_) (fun _=>?_)
 ·rw[← hw]
  exact⟨q7 [] [0,3] rfl,trivial⟩
 refine z8 ?_
 refine v7 [] [] hT y5 (by rfl) ?_
 refine y4 (fun h=>?_) (fun h=>?_)
 ·have h:=k0q (show decide ((l.length:Int) - 4≥0)=true from h)
  have e1:((bx l).take ((l.length:Int) - 4).toNat).drop (0:Int).toNat=bx (l.take (l.length - 4)):=by
   rw[show ((l.length:Int) - 4).toNat=l.length - 4 by omega,z3q];rfl
  have e2:((bx l).take (((bx l).length:Int)).toNat).drop ((l.length:Int) - 4).toNat=bx (l.drop (l.length - 4)):=by
   rw[show ((l.length:Int) - 4).toNat=l.length - 4 by omega,k0v,List.take_length,z7z]
  have w1:AF Tryz.prog x0z [.p (.sl 1 (((bx l).take ((l.length:Int) - 4).toNat).drop (0:Int).toNat))] [] (v8 (i64 ((sum (l.take (l.length - 4))).toNat:Int)) []):=by
   rw[e1];exact w8v _ (by rw[k2u];omega)
  have w3:AF Tryz.prog q6k [.p (.sl 1 (((bx l).take (((bx l).length:Int)).toNat).drop ((l.length:Int) - 4).toNat)),bA (leB 4 (sum (l.take (l.length - 4))).toNat)] [] (v8 (bl (l.drop (l.length - 4)==leB 4 (sum (l.take (l.length - 4))).toNat)) []):=by
   rw[e2];exact x5u _ _ (by rw[List.length_drop];omega)
  have ew:J8 l=(l.drop (l.length - 4)==leB 4 (sum (l.take (l.length - 4))).toNat):=by unfold J8;rw[k1u (show 4≤l.length by omega)]
  refine⟨⟨h,by omega,Int.le_refl _⟩,?_⟩
  refine⟨⟨Int.le_refl _,h,by omega⟩,?_⟩
  refine⟨_,w7 w1 _ rfl rfl,?_⟩
  refine⟨_,w7 (w1j _) _ rfl rfl,?_⟩
  refine⟨_,w7 w3 _ rfl rfl,?_⟩
  refine y9 ?_
  rw[ew]
  exact z9 [] ⟨rfl,rfl⟩ rfl
 ·have h:=k0z (show decide ((l.length:Int) - 4≥0)=false from h)
  have ew:J8 l=false:=by unfold J8;rw[k1t (by omega)]
  refine y9 ?_
  rw[ew]
  exact z9 [] ⟨rfl,rfl⟩ rfl
theorem ixg {l:List Int}{i:Nat}{c:Int}(h:l[i]?=some c):(ix l)[i]?=some [.raw (.int .i64 c)]:=by rw[ix,k1q,h];rfl
theorem ixl (l:List Int):(ix l).length=l.length:=by simp[ix]
def Y2 (n:Int):Bool:=decide (0≤n)&&decide (n≤4294967295)
theorem w1p (l:List Int)(hl:l.length≤1000000):AF Tryz.prog y9h [.p (.sl 1 (ix l))] [] (v8 (bl (l.all Y2)) []):=by
 refine v6 hT y9i rfl rfl y9j rfl ?_
 refine q8 hT ?_
 refine z7 ⟨⟨18,[]⟩,[]⟩ (l.all Y2=true) (q8 hT ?_) ?_
 ·refine z3 ?_
  refine y7 (fun n s=>∃ (i:Nat) (j:Int),n+i=l.length∧j=i∧(l.take i).all Y2=true∧s=⟨⟨18,[(5,.p (.sl 1 (ix l))),(6,i64 l.length),(7,i64 j)]⟩,[]⟩) l.length ⟨⟨18,_⟩,[]⟩ (q7 [] [5,6,7] rfl) ⟨0,0,rfl,rfl,rfl,by rw[← ixl l];rfl⟩ ?_
  rintro n s ⟨i,j,hni,rfl,ht,rfl⟩
  refine q8 hT ?_
  refine z8 (z4 (y4 (fun h=>?_) (fun h=>?_)))
  ·have hi:i<l.length:=by
    have:=k0q (show decide ((i:Int)<(l.length:Int))=true from h)
    omega
   have hx:=k0x hi
   have hmem:=k1x hi
   have htk:l.take (i+1)=l.take i++[l[i]]:=by rw[k2t,hx];rfl
   generalize l[i]=c at hx htk hmem
   have hxp:(ix l)[((i:Nat):Int).toNat]?=some [.raw (.int .i64 c)]:=by rw[k0v];exact ixg hx
   have bad:Y2 c=false→l.all Y2=false:=fun h=>by
    rw[List.all_eq_false];exact⟨c,hmem,by rw[h];simp⟩
   refine z5 ?_
   refine z7 ⟨⟨18,[(5,.p (.sl 1 (ix l))),(6,i64 l.length),(7,i64 i)]⟩,[]⟩ (Y2 c=true) (z3 (q8 hT ?_)) ?_
   ·refine⟨k2w _,w9 hxp ?_⟩
    refine q8 hT ?_
    refine y4 (fun h2=>?_) (fun h2=>?_)
    ·have h2:=k0q (show decide (c<0)=true from h2)
     refine z4 ?_
     refine q8 hT ?_
     refine y9 ?_
     rw[bad (by unfold Y2;rw[k1t (by omega)];rfl)]
     exact z9 [] ⟨rfl,rfl⟩ rfl
    ·have h2:=k0z (show decide (c<0)=false from h2)
     refine z4 (y4 (fun h3=>?_) (fun h3=>?_))
     ·have h3:=k0q (show decide (c > 4294967295)=true from h3)
      refine q8 hT ?_
      refine y9 ?_
      rw[bad (by unfold Y2;rw[k1t (show ¬ c≤4294967295 by omega),Bool.and_false])]
      exact z9 [] ⟨rfl,rfl⟩ rfl
     ·have h3:=k0z (show decide (c > 4294967295)=false from h3)
      exact z5 ⟨q7 [] [5,6,7] rfl,by unfold Y2;rw[k1u (show 0≤c by omega),k1u (show c≤4294967295 by omega)];rfl⟩
   ·intro hc
    refine q9 hT ?_
    refine⟨n - 1,by omega,_,q7 [] [5,6,7] rfl,i+1,IntKind.i64.wrap ((i:Int)+1),by omega,?_,?_,rfl⟩
    ·rw[y8 _ (by omega) (by omega)];rfl
    ·rw[htk,List.all_append,ht];simp[hc]
  ·have hi:¬ (i:Int)<(l.length:Int):=k0z h
   have hil:i=l.length:=by omega
   subst hil
   rw[List.take_length]at ht
   refine x6 ?_
   exact⟨q7 [] [] rfl,ht⟩
 ·intro h
  rw[h]
  refine q8 hT ?_
  refine y9 ?_
  exact z9 [] ⟨rfl,rfl⟩ rfl
structure Blk where
 kind:Int
 vol:Int
 addr:Int
 epoch:Int
 seq:Int
 body:z6
 deriving DecidableEq
abbrev Blk.pv (b:Blk):List PV:=[.raw (.int .i64 b.kind),.raw (.int .i64 b.vol),.raw (.int .i64 b.addr),.raw (.int .i64 b.epoch),.raw (.int .i64 b.seq),bP b.body]
abbrev Blk.av (b:Blk):AV:=.agg [i64 b.kind,i64 b.vol,i64 b.addr,i64 b.epoch,i64 b.seq,bA b.body]
def Blk.nums (b:Blk):Bool:=decide (b.kind≥1)&&decide (b.kind≤4)&&[b.vol,b.addr,b.epoch,b.seq].all Y2
theorem q8t (b:Blk):AF Tryz.prog y2d [b.av] [] (v8 (bl b.nums) []):=by
 refine v6 hT y2e rfl rfl y2f rfl ?_
 refine q8 hT ?_
 refine u6 (Q4 0 b.pv rfl rfl) ?_
 unfold Blk.nums
 refine z8 (X8 (fun k=>Nat.beq 17 k) hT ?_)
 refine y4 (fun h1=>?_) (fun h1=>?_)
 ·rw[show decide (b.kind≥1)=true from h1]
  refine y4 (fun h2=>?_) (fun h2=>?_)
  ·rw[show decide (b.kind≤4)=true from h2]
   refine⟨⟨rfl,rfl⟩,?_⟩
   refine x7 (w7 (w1p [b.vol,b.addr,b.epoch,b.seq] (by simp)) _ rfl rfl) ?_
   refine y9 ?_
   exact z9 [] ⟨rfl,rfl⟩ rfl
  ·rw[show decide (b.kind≤4)=false from h2]
   refine y9 ?_
   exact z9 [] ⟨rfl,rfl⟩ rfl
 ·rw[show decide (b.kind≥1)=false from h1]
  refine y9 ?_
  exact z9 [] ⟨rfl,rfl⟩ rfl
def z4n (w:Nat)(l:List Nat):z6:=l.flatMap (leB w)
theorem z8a (w:Nat)(l:List Nat):(z4n w l).length=w*l.length:=by
 unfold z4n
 induction l with
 |nil=>simp
 |cons n r ih=>rw[List.flatMap_cons,k1z,J1,ih,List.length_cons,Nat.mul_succ];omega
theorem v1q (w:Nat)(l:List Nat)(n:Nat):z4n w (l++[n])=z4n w l++leB w n:=by unfold z4n;simp
def nx (l:List Nat):List (List PV):=l.map fun n:Nat=>[.raw (.int .i64 (n:Int))]
theorem u3f (l:List Nat):(nx l).length=l.length:=by simp[nx]
theorem u3g {l:List Nat}{i:Nat}{c:Nat}(h:l[i]?=some c):(nx l)[i]?=some [.raw (.int .i64 (c:Int))]:=by rw[nx,k1q,h];rfl
theorem x1q (xs:List (List PV))(w:Nat)(l:List Nat)(hx:xs.length≤1000)(hw:w≤8)(hl:l.length≤100) :
 AFm Tryz.prog 0 x9c [.msl 0 1 0 xs.length,i64 w,.p (.sl 1 (nx l))] [.row z1 1 xs] (v8 (.msl 0 1 0 (xs++bx (z4n w l)).length) [.row z1 1 (xs++bx (z4n w l))]):=by
 refine Q5 0 hT x9d rfl rfl x9e rfl rfl ?_
 refine q8 hT ?_
 refine z8 (q8 hT ?_)
 refine z3 ?_
 refine y7 (fun m s=>∃ (i:Nat) (j:Int) (L:List (List PV)),m+i=l.length∧j=i∧L=xs++bx (z4n w (l.take i))∧s=⟨⟨28,[(0,.msl 0 1 0 L.length),(1,i64 w),(9,.p (.sl 1 (nx l))),(10,i64 l.length),(11,i64 j)]⟩,[.row z1 1 L]⟩) l.length ⟨⟨28,_⟩,[_]⟩ (q7 [0] [0,1,9,10,11] rfl) ⟨0,0,xs,rfl,rfl,by simp[z4n,bx],by rw[← u3f l];rfl⟩ ?_
 rintro m s ⟨i,j,L,hmi,rfl,hL,rfl⟩
 have hLl:L.length≤2000:=by
  have h8:w*(l.take i).length≤8*100:=Nat.mul_le_mul hw (by rw[k2u];omega)
  rw[hL,k1z,w6,z8a];omega
 refine q8 hT ?_
 refine z8 (z4 (y4 (fun h=>?_) (fun h=>?_)))
 ·have hi:i<l.length:=by
   have:=k0q (show decide ((i:Int)<(l.length:Int))=true from h)
   omega
  have hx:=k0x hi
  have htk:l.take (i+1)=l.take i++[l[i]]:=by rw[k2t,hx];rfl
  generalize l[i]=n at hx htk
  have hxp:(nx l)[((i:Nat):Int).toNat]?=some [.raw (.int .i64 (n:Int))]:=by rw[k0v];exact u3g hx
  refine z5 ?_
  refine z7 ⟨⟨28,[(0,.msl 0 1 0 (L++bx (leB w n)).length),(1,i64 w),(9,.p (.sl 1 (nx l))),(10,i64 l.length),(11,i64 i)]⟩,[.row z1 1 (L++bx (leB w n))]⟩ True (z3 (q8 hT ?_)) (fun _=>?_)
  ·refine⟨k2w _,w9 hxp ?_⟩
   refine q8 hT ?_
   refine z3 ?_
   refine y7 (fun m s=>∃ (k:Nat) (j v:Int) (M:List (List PV)),m+k=w∧j=k∧v=((n / 256 ^ k:Nat):Int)∧M=L++bx (leB k n)∧s=⟨⟨28,[(0,.msl 0 1 0 M.length),(1,i64 w),(8,i64 v),(9,.p (.sl 1 (nx l))),(10,i64 l.length),(11,i64 i),(15,i64 w),(16,i64 j)]⟩,[.row z1 1 M]⟩) w ⟨⟨28,_⟩,[_]⟩ (q7 [0] [0,1,8,9,10,11,15,16] rfl) ⟨0,0,_,L,rfl,rfl,by rw[Nat.pow_zero,Nat.div_one],by simp[leB,bx],rfl⟩ ?_
   rintro q s ⟨k,j,v,M,hmk,rfl,rfl,hM,rfl⟩
   have hMl:M.length≤2010:=by rw[hM,k1z,w6,J1];omega
   refine q8 hT ?_
   refine z8 (z4 (y4 (fun h=>?_) (fun h=>?_)))
   ·have hk:k<w:=by
     have:=k0q (show decide ((k:Int)<(w:Int))=true from h)
     omega
    refine z5 ?_
    refine z7 ⟨⟨28,[(0,.msl 0 1 0 (M++[[u8 (UInt8.ofNat (n / 256 ^ k))]]).length),(1,i64 w),(8,i64 ((n / 256 ^ (k+1):Nat):Int)),(9,.p (.sl 1 (nx l))),(10,i64 l.length),(11,i64 i),(15,i64 w),(16,i64 k)]⟩,[.row z1 1 (M++[[u8 (UInt8.ofNat (n / 256 ^ k))]])]⟩ True (z3 (z8 (X8 (fun k=>Nat.beq 3 k) hT ?_))) (fun _=>?_)
    ·refine⟨⟨rfl,rfl⟩,?_⟩
     refine⟨rfl,⟨?_,?_⟩,?_⟩
     ·show (M.length+1)*1≤140737488355328
      omega
     ·show M.length+1≤140737488355328
      omega
     refine q9 hT ?_
     rw[show u8 (UInt8.ofNat (n / 256 ^ k))=PV.raw (.int .u8 (IntKind.u8.wrap ((n / 256 ^ k:Nat):Int))) by rw[q0t],y3h,← u9x]
     exact⟨q7 [1] [0,1,8,9,10,11,15,16] rfl,trivial⟩
    ·refine q9 hT ?_
     refine⟨q - 1,by omega,_,q7 [0] [0,1,8,9,10,11,15,16] rfl,k+1,IntKind.i64.wrap ((k:Int)+1),_,_,by omega,?_,rfl,by rw[hM,z7y,y3g,List.append_assoc],rfl⟩
     rw[y8 _ (by omega) (by omega)];rfl
   ·have hk:¬ (k:Int)<(w:Int):=k0z h
    have hkw:k=w:=by omega
    subst hkw
    refine x6 ?_
    rw[← hM]
    exact⟨q7 [0] [0,1,9,10,11] rfl,trivial⟩
  ·refine q9 hT ?_
   refine⟨m - 1,by omega,_,q7 [0] [0,1,9,10,11] rfl,i+1,IntKind.i64.wrap ((i:Int)+1),_,by omega,?_,by rw[hL,htk,v1q,Y9,List.append_assoc],rfl⟩
   rw[y8 _ (by omega) (by omega)];rfl
 ·have hi:¬ (i:Int)<(l.length:Int):=k0z h
  have hil:i=l.length:=by omega
  subst hil
  rw[List.take_length]at hL
  refine x6 ?_
  refine q8 hT ?_
  refine y9 ?_
  rw[← hL]
  exact z9 [0] ⟨rfl,rfl⟩ rfl
def Blk.head (b:Blk):z6:=[81,77,UInt8.ofNat b.kind.toNat,0]++z4n 4 [b.vol.toNat,b.addr.toNat,b.epoch.toNat,b.seq.toNat]++z4n 2 [b.body.length,0]
def Blk.all (b:Blk):z6:=b.head++b.body++List.replicate (228 - b.body.length) 0
def Blk.sld (b:Blk):z6 × Int:=match b.nums with
 |false=>([],1)
 |true=>match decide (b.body.length > 228) with
  |true=>([],2)
  |false=>(q0k b.all,0)
theorem w1q (b:Blk):b.head.length=24:=by unfold Blk.head;rw[k1z,k1z,z8a,z8a];rfl
theorem z3r (b:Blk)(h:b.body.length≤228):b.all.length=252:=by unfold Blk.all;rw[k1z,k1z,w1q,k2q];omega
theorem Z6 {m:Nat}{s:St}(i b n:Nat){t:TypeId}{xs ys:List (List PV)}(e:xs=ys)(hn:n=xs.length)(hb:s.H[b]?=some (.row t 1 xs))(hi:Z9 s.fr.l i=some (.msl b 1 0 n)) :
 Wk m s ⟨⟨s.fr.n,(i,.p (.sl 1 ys)) :: s.fr.l⟩,s.H.set b .dead⟩:=by
 subst hn
 have:=y3b (m:=m) (s:=s) i b hb hi (by omega)
 rw[List.drop_zero,List.take_length]at this
 subst e
 exact this
theorem y9s (k v a e q:Nat)(body:z6)(hn:(Blk.mk k v a e q body).nums=true)(hb:body.length≤228) :
 AF Tryz.prog z6q [(Blk.mk k v a e q body).av] [] (v8 (.tup [bA (q0k (Blk.mk k v a e q body).all),i64 0]) []):=by
 have hbl:=w6 body
 have hall:=z3r (Blk.mk k v a e q body) hb
 refine v6 hT z0b rfl rfl z0c rfl ?_
 refine q8 hT ?_
 refine u6 (Q4 0 (Blk.mk k v a e q body).pv rfl rfl) ?_
 have wn:=q8t (Blk.mk k v a e q body)
 rw[hn]at wn
 refine z7 ⟨⟨46,[(1,.p (.box (Blk.mk k v a e q body).pv))]⟩,[]⟩ True (z3 (q8 hT ?_)) (fun _=>?_)
 ·refine x7 (w7 wn _ rfl rfl) ?_
  refine z4 ?_
  refine q8 hT ?_
  refine z4 (y4 (fun h=>?_) (fun h=>?_))
  ·have h:=k0q (show decide (((bx body).length:Int) > 228)=true from h)
   omega
  ·exact z5 ⟨q7 [] [1] rfl,trivial⟩
 have l1:=x1q [[u8 81],[u8 77],[.raw (.int .u8 (IntKind.u8.wrap (k:Int)))],[u8 0]] 4 [v,a,e,q] (by simp) (by omega) (by simp)
 generalize hM:[[u8 81],[u8 77],[PV.raw (.int .u8 (IntKind.u8.wrap (k:Int)))],[u8 0]]++bx (z4n 4 [v,a,e,q])=M at l1
 have hMl:M.length=20:=by rw[← hM,k1z,w6,z8a];rfl
 have l2:=x1q M 2 [(bx body).length,0] (by omega) (by omega) (by simp)
 have hH:M++bx (z4n 2 [(bx body).length,0])=bx (Blk.mk k v a e q body).head:=by
  unfold Blk.head
  rw[hbl,Y9,Y9,← hM,q0t]
  rfl
 have hhl:=w1q (Blk.mk k v a e q body)
 refine z7 ⟨⟨46,[(1,.p (.box (Blk.mk k v a e q body).pv)),(4,.msl 0 1 0 M.length)]⟩,[.row z1 1 M]⟩ True (X8 (fun k=>Nat.beq 12 k) hT ?_) (fun _=>?_)
 ·refine⟨⟨rfl,rfl⟩,?_⟩
  refine x7 (Q7 [0] l1 rfl rfl rfl) ?_
  exact⟨q7 [1] [1,4] rfl,trivial⟩
 refine z7 ⟨⟨46,[(1,.p (.box (Blk.mk k v a e q body).pv)),(4,.p (.sl 1 (bx (Blk.mk k v a e q body).head)))]⟩,[]⟩ True (X8 (fun k=>Nat.beq 4 k) hT ?_) (fun _=>?_)
 ·refine⟨⟨rfl,rfl⟩,?_⟩
  refine x7 (Q7 [0] l2 rfl rfl rfl) ?_
  refine⟨Wk.trans (q7 [1] [1,4] rfl) (Wk.trans (Z6 4 0 _ hH rfl rfl rfl) (q7 [] [1,4] rfl)),trivial⟩
 generalize hA:(Blk.mk k v a e q body).all=A at hall
 have hcopy:X6 (X6 (List.replicate 252 [u8 0]) 0 (bx (Blk.mk k v a e q body).head)) 24 (bx body)=bx A:=by
  rw[← hA]
  unfold Blk.all
  rw[Y9,Y9]
  have h1:(bx (Blk.mk k v a e q body).head).length=24:=by rw[w6,hhl]
  have e1:X6 (List.replicate 252 [u8 0]) 0 (bx (Blk.mk k v a e q body).head)=bx (Blk.mk k v a e q body).head++List.replicate 228 [u8 0]:=by
   unfold X6;rw[h1,List.take_zero,List.drop_replicate,List.nil_append]
  rw[e1]
  unfold X6
  rw[List.take_append_of_le_length (by omega),k2z (by omega),List.drop_append,List.drop_replicate,h1,hbl]
  rw[List.drop_eq_nil_of_le (by omega),List.nil_append]
  rw[show (228:Nat) - (24+body.length - 24)=228 - body.length by omega]
  congr 1
  unfold bx;rw[List.map_replicate]
 refine q8 hT ?_
 refine⟨⟨rfl,by omega,by decide,by omega⟩,?_⟩
 refine z7 ⟨⟨46,[(1,.p (.box (Blk.mk k v a e q body).pv)),(5,.msl 0 1 0 252)]⟩,[.row z1 1 (X6 (List.replicate 252 [u8 0]) 0 (bx (Blk.mk k v a e q body).head))]⟩ True (q9 hT ?_) (fun _=>?_)
 ·have h1:(bx (Blk.mk k v a e q body).head).length=24:=by rw[w6,hhl]
  refine⟨⟨?_,?_⟩,?_⟩
  ·show 0+252≤(List.replicate 252 _).length
   rw[k2q];omega
  ·show (bx (Blk.mk k v a e q body).head).length≤252
   omega
  exact⟨q7 [0] [1,5] rfl,trivial⟩
 have hl0:(X6 (List.replicate 252 [u8 0]) 0 (bx (Blk.mk k v a e q body).head)).length=252:=by
  rw[X5 (by rw[k2q,w6,hhl];omega),k2q]
 generalize hS:X6 (List.replicate 252 [u8 0]) 0 (bx (Blk.mk k v a e q body).head)=S at hcopy hl0
 refine z7 ⟨⟨46,[(5,.p (.sl 1 (bx A)))]⟩,[]⟩ True ?_ (fun _=>?_)
 ·refine v7 [4] [] hT y5 (by rfl) ?_
  refine⟨⟨by omega,by decide,Int.le_refl _⟩,?_⟩
  refine⟨⟨?_,?_⟩,?_⟩
  ·show 0+24+(252 - 24)≤S.length
   omega
  ·show (bx body).length≤252 - 24
   omega
  have hSl:(X6 S 24 (bx body)).length=252:=by rw[X5 (by omega),hl0]
  exact⟨Wk.trans (Z6 5 0 252 hcopy hSl.symm rfl rfl) (q7 [] [5] rfl),trivial⟩
 ·refine q8 hT ?_
  refine x7 (w7 (v7n A (by omega)) _ rfl rfl) ?_
  refine y9 ?_
  exact z9 [] ⟨rfl,rfl⟩ rfl
theorem y6v {b:Blk}(h:b.nums=true):∃ k v a e q:Nat,b=⟨k,v,a,e,q,b.body⟩∧1≤k∧k≤4∧v≤4294967295∧a≤4294967295∧e≤4294967295∧q≤4294967295:=by
 obtain⟨k,v,a,e,q,body⟩:=b
 unfold Blk.nums Y2 at h
 simp only[List.all_cons,List.all_nil,Bool.and_true,Bool.and_eq_true,decide_eq_true_eq]at h
 obtain⟨⟨k1,k4⟩,⟨v0,v1⟩,⟨a0,a1⟩,⟨e0,e1⟩,q0,q1⟩:=h
 refine⟨k.toNat,v.toNat,a.toNat,e.toNat,q.toNat,?_,by omega,by omega,by omega,by omega,by omega,by omega⟩
 rw[Int.toNat_of_nonneg (by omega),Int.toNat_of_nonneg v0,Int.toNat_of_nonneg a0,Int.toNat_of_nonneg e0,Int.toNat_of_nonneg q0]
theorem y6w (b:Blk):AF Tryz.prog z6q [b.av] [] (v8 (.tup [bA b.sld.1,i64 b.sld.2]) []):=by
 cases hn:b.nums with
 |true=>
  cases hl:decide (b.body.length > 228) with
  |false=>
   have hl:=k0z hl
   have e:b.sld=(q0k b.all,0):=by unfold Blk.sld;rw[hn,k1t hl]
   obtain⟨k,v,a,e',q,hb,_⟩:=y6v hn
   rw[e]
   rw[hb]at hn ⊢
   exact y9s k v a e' q b.body hn (by omega)
  |true=>
   have e:b.sld=([],2):=by unfold Blk.sld;rw[hn,hl]
   have hbl:=w6 b.body
   have hl:=k0q hl
   have wn:=q8t b
   rw[hn]at wn
   rw[e]
   refine v6 hT z0b rfl rfl z0c rfl ?_
   refine q8 hT ?_
   refine u6 (Q4 0 b.pv rfl rfl) ?_
   refine z8 (z3 (q8 hT ?_))
   refine x7 (w7 wn _ rfl rfl) ?_
   refine z4 ?_
   refine q8 hT ?_
   refine z4 (y4 (fun h=>?_) (fun h=>?_))
   ·refine q8 hT ?_
    refine u6 (q1a 2 1 rfl) ?_
    refine y9 ?_
    exact z9 [] ⟨rfl,rfl⟩ rfl
   ·have h:=k0z (show decide (((bx b.body).length:Int) > 228)=false from h)
    omega
 |false=>
  have e:b.sld=([],1):=by unfold Blk.sld;rw[hn]
  have wn:=q8t b
  rw[hn]at wn
  rw[e]
  refine v6 hT z0b rfl rfl z0c rfl ?_
  refine q8 hT ?_
  refine u6 (Q4 0 b.pv rfl rfl) ?_
  refine z8 (z3 (q8 hT ?_))
  refine x7 (w7 wn _ rfl rfl) ?_
  refine z4 ?_
  refine q8 hT ?_
  refine u6 (q1a 2 1 rfl) ?_
  refine y9 ?_
  exact z9 [] ⟨rfl,rfl⟩ rfl
def q3n:z6→Nat
 |[]=>0
 |c :: r=>q3n r*256+c.toNat
theorem y6x:∀ l:z6,q3n l<256 ^ l.length
 |[]=>by simp[q3n]
 |c :: r=>by
  have ih:=y6x r
  have hc:=c.toNat_lt
  rw[q3n,List.length_cons,Nat.pow_succ]
  omega
theorem u0g (n c:Nat)(hn:n<4294967296)(hc:c<256):IntKind.i64.wrap ((BitVec.ofInt 64 (IntKind.i64.wrap ((n:Int)*2 ^ (min ((8:Nat):Int).toNat 64))) ||| BitVec.ofInt 64 (IntKind.i64.wrap (c:Int))).toNat:Int)=((n*256+c:Nat):Int):=by
 have e1:IntKind.i64.wrap ((n:Int)*2 ^ (min ((8:Nat):Int).toNat 64))=((n*256:Nat):Int):=by
  show IntKind.i64.wrap ((n:Int)*256)=_
  rw[y8 _ (by omega) (by omega)];omega
 rw[e1,y8 (c:Int) (by omega) (by omega)]
 have e2:(BitVec.ofInt 64 ((n*256:Nat):Int) ||| BitVec.ofInt 64 (c:Int)).toNat=n*256+c:=by
  rw[BitVec.toNat_or,BitVec.toNat_ofInt,BitVec.toNat_ofInt]
  rw[show (((n*256:Nat):Int) % ((2 ^ 64:Nat):Int)).toNat=n*256 by omega,show ((c:Int) % ((2 ^ 64:Nat):Int)).toNat=c by omega]
  have:=Nat.shiftLeft_add_eq_or_of_lt (show c<2 ^ 8 from hc) n
  rw[Nat.shiftLeft_eq]at this
  exact this.symm
 rw[e2,y8 _ (by omega) (by omega)]
def U7 (s:z6)(at_ w:Nat):Nat:=q3n ((s.drop at_).take w)
theorem q4n (s:z6)(at_ w:Nat)(hw:w≤4)(hs:at_+w≤s.length)(hl:s.length≤1000000):AF Tryz.prog y5a [bA s,i64 at_,i64 w] [] (v8 (i64 (U7 s at_ w:Nat)) []):=by
 refine v6 hT y5b rfl rfl y5c rfl ?_
 refine q8 hT ?_
 refine q8 hT ?_
 refine z8 (q8 hT ?_)
 refine z3 ?_
 refine y7 (fun m st=>∃ (j v:Int),j=(m:Int) - 1∧m≤w∧v=(q3n ((s.drop (at_+m)).take (w - m)):Nat)∧st=⟨⟨26,[(0,bA s),(1,i64 at_),(7,i64 v),(8,i64 j)]⟩,[]⟩) w ⟨⟨26,_⟩,[]⟩ (q7 [] [0,1,7,8] rfl) ⟨_,0,?_,k1w _,by rw[Nat.sub_self,List.take_zero];rfl,rfl⟩ ?_
 ·exact y8 _ (by omega) (by omega)
 rintro m st ⟨j,v,hj,hm,hv,rfl⟩
 refine z8 (q8 hT ?_)
 refine z4 (y4 (fun h=>?_) (fun h=>?_))
 ·have h:=k0q (show decide (j≥0)=true from h)
  obtain⟨m,rfl⟩:∃ k,m=k+1:=⟨m - 1,by omega⟩
  have hj:j=(m:Int):=by omega
  subst hj
  have hi:at_+m<s.length:=by omega
  have hx:=k0x hi
  have hdr:s.drop (at_+m)=s[at_+m] :: s.drop (at_+(m+1)):=List.drop_eq_getElem_cons hi
  generalize s[at_+m]=c at hx hdr
  have hc:=c.toNat_lt
  have e1:IntKind.i64.wrap ((at_:Int)+(m:Int))=((at_+m:Nat):Int):=by rw[y8 _ (by omega) (by omega)];omega
  have hxp:(bx s)[(IntKind.i64.wrap ((at_:Int)+(m:Int))).toNat]?=some [u8 c]:=by rw[e1,k0v];exact y0k hx
  have hL:q3n ((s.drop (at_+m)).take (w - m))=q3n ((s.drop (at_+(m+1))).take (w - (m+1)))*256+c.toNat:=by
   rw[hdr,show w - m=(w - (m+1))+1 by omega,List.take_succ_cons];rfl
  have hlt:=y6x ((s.drop (at_+(m+1))).take (w - (m+1)))
  have hpw:256 ^ ((s.drop (at_+(m+1))).take (w - (m+1))).length≤256 ^ 3:=Nat.pow_le_pow_right (by omega) (by rw[k2u];omega)
  subst hv
  generalize q3n ((s.drop (at_+(m+1))).take (w - (m+1)))=n at hL hlt
  have ho:=u0g n c.toNat (by omega) hc
  refine z5 ?_
  refine z8 (z3 (q9 hT ?_))
  refine⟨by rw[e1];omega,w9 hxp ?_⟩
  refine q9 hT ?_
  refine⟨m,by omega,_,q7 [] [0,1,7,8] rfl,IntKind.i64.wrap ((m:Int) - 1),_,y8 _ (by omega) (by omega),by omega,?_,rfl⟩
  rw[hL];exact ho
 ·have h:=k0z (show decide (j≥0)=false from h)
  have hm0:m=0:=by omega
  subst hm0
  refine x6 ?_
  refine q8 hT ?_
  refine y9 ?_
  rw[Nat.add_zero,Nat.sub_zero]at hv
  subst hv
  exact z9 [] ⟨rfl,rfl⟩ rfl
end Go.Proofs.YtinfbclgkghgaaaGreat.AL
namespace Go.Proofs.YtinfbclgkghgaaaGreat.AL
open Go Go.Proofs
theorem y1j (s t:z6):AF Tryz.prog y8x [bA s,bA t] [] (v8 (bl (s==t)) []):=by
 refine v6 hT y8y rfl rfl y8z rfl ?_
 refine q8 hT ?_
 refine q8 hT ?_
 refine⟨s,rfl,?_⟩
 refine⟨t,rfl,?_⟩
 refine⟨s==t,by rw[ByteArray.toList_eq,ByteArray.toList_eq],?_⟩
 refine y9 ?_
 exact z9 [] ⟨rfl,rfl⟩ rfl
abbrev u9y (m:Int):ABlk:=.cells w0y [.ref 1 0,i64 m]
abbrev hH (D:Dev)(m:Int):List ABlk:=[u9y m,q3w D 2 3,.row Z4 4 (cx D.cells),.row Z0 2 (wx D.waits)]
abbrev w8z (a:Int)(s:z6):AV:=.agg [i64 a,bA s]
def Dev.hhas (D:Dev)(a:Int)(s:z6):(Bool × Int) × Dev:=match (D.read a).1.2==20 with
 |true=>((false,0),(D.read a).2)
 |false=>(((D.read a).1.2==0&&(D.read a).1.1==s,(D.read a).1.2),(D.read a).2)
theorem u0h {D E:Dev}{a:Int}{s x1:z6}{x2:Int}(h:D.read a=((x1,x2),E)):D.hhas a s=(match x2==20 with|true=>((false,0),E)|false=>((x2==0&&x1==s,x2),E)):=by
 unfold Dev.hhas;rw[h]
theorem v7p (D:Dev)(m a:Int)(s:z6)(b:Nat)(hD:D.Ok b)(hb:b≤1000000):AFm Tryz.prog 4 y2t [.ref 0 0,w8z a s] (hH D m) (v8 (.tup [bl (D.hhas a s).1.1,i64 (D.hhas a s).1.2]) (hH (D.hhas a s).2 m)):=by
 have big:=hD.big hb
 have rd:=x1i D a big.2.1 big.2.2.1 big.2.2.2
 rcases hr:D.read a with ⟨⟨x1,x2⟩,E⟩
 have he:=u0h (s:=s) hr
 rw[hr]at rd
 generalize D.hhas a s=Z at he
 refine Q5 4 hT y2u rfl rfl y2v rfl rfl ?_
 refine q8 hT ?_
 refine u6 (Q4 4 [.raw (.int .i64 a),bP s] rfl rfl) ?_
 refine z7 ⟨⟨29,[(3,.p (.box [.raw (.int .i64 a),bP s])),(6,bA x1),(7,i64 x2)]⟩,hH E m⟩ True ?_ (fun _=>?_)
 ·refine v7 [6] [] hT y5 (by rfl) ?_
  refine⟨_,_,Q7 [1,2,3] rd rfl rfl rfl,?_⟩
  exact⟨q7 [0,1,2,3] [3,6,7] rfl,trivial⟩
 refine z8 (q8 hT ?_)
 refine z4 (y4 (fun h=>?_) (fun h=>?_))
 ·have h:(x2==20)=true:=h
  rw[h]at he;subst he
  refine q8 hT ?_
  refine y9 ?_
  exact z9 [0,1,2,3] ⟨rfl,rfl⟩ rfl
 ·have h:(x2==20)=false:=h
  rw[h]at he;subst he
  refine z5 ?_
  refine q8 hT ?_
  refine y4 (fun h2=>?_) (fun h2=>?_)
  ·refine x7 (w7 (y1j x1 s) _ rfl rfl) ?_
   refine y9 ?_
   have h2:(x2==0)=true:=h2
   rw[h2]
   exact z9 [0,1,2,3] ⟨rfl,rfl⟩ rfl
  ·refine y9 ?_
   have h2:(x2==0)=false:=h2
   rw[h2]
   exact z9 [0,1,2,3] ⟨rfl,rfl⟩ rfl
def Dev.once (D:Dev)(a:Int)(s:z6):(Bool × Int) × Dev:=match (D.write a s).1 != 0 with
 |true=>((false,(D.write a s).1),(D.write a s).2)
 |false=>match (D.write a s).2.flush.1 != 0 with
  |true=>((false,(D.write a s).2.flush.1),(D.write a s).2.flush.2)
  |false=>(D.write a s).2.flush.2.hhas a s
theorem v1r (D:Dev)(m a:Int)(s:z6)(b:Nat)(hD:D.Ok b)(hb:b<1000000):AFm Tryz.prog 2 y0d [.ref 0 0,w8z a s] (hH D m) (v8 (.tup [bl (D.once a s).1.1,i64 (D.once a s).1.2]) (hH (D.once a s).2 m)):=by
 have big:=hD.big (Nat.le_of_lt hb)
 have w1:=y6g D a s big.2.1
 have ok1:=hD.write a s
 have he:D.once a s=(match (D.write a s).1 != 0 with|true=>((false,(D.write a s).1),(D.write a s).2)|false=>match (D.write a s).2.flush.1 != 0 with|true=>((false,(D.write a s).2.flush.1),(D.write a s).2.flush.2)|false=>(D.write a s).2.flush.2.hhas a s):=rfl
 generalize D.write a s=W at he w1 ok1
 obtain⟨e1,D1⟩:=W
 replace ok1:D1.Ok (b+1):=ok1
 have big1:=ok1.big (show b+1≤1000000 by omega)
 have w2:=y6e D1 big1.1 big1.2.1
 have ok2:=ok1.flush
 replace he:D.once a s=(match e1 != 0 with|true=>((false,e1),D1)|false=>match D1.flush.1 != 0 with|true=>((false,D1.flush.1),D1.flush.2)|false=>D1.flush.2.hhas a s):=he
 generalize D1.flush=W at he w2 ok2
 obtain⟨e2,D2⟩:=W
 replace ok2:D2.Ok (b+1):=ok2
 have w3:=v7p D2 m a s (b+1) ok2 (by omega)
 replace he:D.once a s=(match e1 != 0 with|true=>((false,e1),D1)|false=>match e2 != 0 with|true=>((false,e2),D2)|false=>D2.hhas a s):=he
 generalize D2.hhas a s=Y at he w3
 obtain⟨⟨y1,y2⟩,D3⟩:=Y
 generalize D.once a s=Z at he
 refine Q5 2 hT y0e rfl rfl y0f rfl rfl ?_
 refine q8 hT ?_
 refine u6 (Q4 4 [.raw (.int .i64 a),bP s] rfl rfl) ?_
 refine z7 ⟨⟨33,[(0,.ref 0 0),(3,.p (.box [.raw (.int .i64 a),bP s]))]⟩,hH D1 m⟩ (e1=0) (z8 ?_) ?_
 ·refine v7 [8] [] hT y5 (by rfl) ?_
  refine⟨_,_,Q7 [1,2,3] w1 rfl rfl rfl,?_⟩
  refine q8 hT ?_
  refine z4 (y4 (fun h=>?_) (fun h=>?_))
  ·have h:(e1 != 0)=true:=h
   rw[h]at he;subst he
   refine q8 hT ?_
   refine y9 ?_
   exact z9 [0,1,5,6] ⟨rfl,rfl⟩ rfl
  ·have h:(e1 != 0)=false:=h
   exact z5 ⟨q7 [0,1,5,6] [0,3] rfl,by simpa using h⟩
 rintro h1
 rw[show (e1 != 0)=false by simpa using h1]at he
 refine z7 ⟨⟨33,[(0,.ref 0 0),(3,.p (.box [.raw (.int .i64 a),bP s]))]⟩,hH D2 m⟩ (e2=0) (q8 hT ?_) ?_
 ·refine x7 (Q7 [1,2,3] w2 rfl rfl rfl) ?_
  refine q8 hT ?_
  refine z4 (y4 (fun h=>?_) (fun h=>?_))
  ·have h:(e2 != 0)=true:=h
   rw[h]at he;subst he
   refine q8 hT ?_
   refine y9 ?_
   exact z9 [0,1,4,5] ⟨rfl,rfl⟩ rfl
  ·have h:(e2 != 0)=false:=h
   exact z5 ⟨q7 [0,1,4,5] [0,3] rfl,by simpa using h⟩
 rintro h2
 rw[show (e2 != 0)=false by simpa using h2]at he
 subst he
 refine q8 hT ?_
 refine x7 (Q7 [0,1,2,3] w3 rfl rfl rfl) ?_
 refine y9 ?_
 exact z9 [0,1,2,3] ⟨rfl,rfl⟩ rfl
end Go.Proofs.YtinfbclgkghgaaaGreat.AL
namespace Go.Proofs.YtinfbclgkghgaaaGreat.AL
open Go Go.Proofs Go.Proofs.YtinfbclgkghgaaaGreat.AL.Crc
def Blk.zero:Blk:=⟨0,0,0,0,0,[]⟩
def q5t (s:z6):Blk:=⟨((s.getD 2 0).toNat:Int),(U7 s 4 4:Nat),(U7 s 8 4:Nat),(U7 s 12 4:Nat),(U7 s 16 4:Nat),(s.drop 24).take (U7 s 20 2)⟩
def Y8 (s:z6):Blk × Int:=match decide (s.length=256) with
 |false=>(Blk.zero,1)
 |true=>match !(J8 s)||decide ((U7 s 20 2:Int) > 228) with
  |true=>(Blk.zero,7)
  |false=>match (q5t s).sld.2 != 0||!(s==(q5t s).sld.1) with
   |true=>(Blk.zero,7)
   |false=>(q5t s,0)
abbrev q9i:List AV:=[i64 0,i64 0,i64 0,i64 0,i64 0,.p (.raw (.slice none 0 0))]
theorem q1q:LessCL q9i [i64 0,i64 0,i64 0,i64 0,i64 0,bA []]:=⟨.inl rfl,.inl rfl,.inl rfl,.inl rfl,.inl rfl,.inr (.inr (.inr ⟨1,rfl,rfl⟩)),trivial⟩
theorem w6g (s:z6)(hl:s.length≤1000000):AF Tryz.prog x4r [bA s] [] (v8 (.tup [(Y8 s).1.av,i64 (Y8 s).2]) []):=by
 have hbl:=w6 s
 refine v6 hT x4s rfl rfl x4t rfl ?_
 refine q8 hT ?_
 refine z7 ⟨⟨56,[(0,bA s),(2,.ref 0 0)]⟩,[.cells Y3 q9i]⟩ (s.length=256) (q8 hT ?_) ?_
 ·refine z4 (y4 (fun h=>?_) (fun h=>?_))
  ·have h:(((bx s).length:Int) != 256)=true:=h
   have hne:s.length≠256:=by rw[hbl]at h;intro e;rw[e]at h;simp at h
   have eo:Y8 s=(Blk.zero,1):=by unfold Y8;rw[k1t hne]
   refine q8 hT ?_
   refine u6 (V0 0 [i64 0,i64 0,i64 0,i64 0,i64 0,bA []] rfl q1q) ?_
   refine y9 ?_
   rw[eo]
   exact z9 [] ⟨rfl,rfl⟩ rfl
  ·have h:(((bx s).length:Int) != 256)=false:=h
   have he:s.length=256:=by
    rw[hbl]at h
    have:(s.length:Int)=256:=by simpa using h
    omega
   exact z5 ⟨q7 [0] [0,2] rfl,he⟩
 intro h256
 have hd:decide (s.length=256)=true:=k1u h256
 have w20:=q4n s 20 2 (by omega) (by omega) (by omega)
 have w4:=q4n s 4 4 (by omega) (by omega) (by omega)
 have w8:=q4n s 8 4 (by omega) (by omega) (by omega)
 have w12:=q4n s 12 4 (by omega) (by omega) (by omega)
 have w16:=q4n s 16 4 (by omega) (by omega) (by omega)
 refine q8 hT ?_
 refine x7 (w7 w20 _ rfl rfl) ?_
 refine z7 ⟨⟨56,[(0,bA s),(2,.ref 0 0),(4,i64 (U7 s 20 2:Nat))]⟩,[.cells Y3 q9i]⟩ ((!(J8 s)||decide ((U7 s 20 2:Int) > 228))=false) (q8 hT ?_) ?_
 ·refine x7 (w7 (v1p s hl) _ rfl rfl) ?_
  have bad:(!(J8 s)||decide ((U7 s 20 2:Int) > 228))=true→Y8 s=(Blk.zero,7):=fun h=>by unfold Y8;rw[hd,h]
  refine y4 (fun h=>?_) (fun h=>?_)
  ·have h:(!(J8 s))=true:=h
   refine z4 ?_
   refine q8 hT ?_
   refine u6 (V0 0 [i64 0,i64 0,i64 0,i64 0,i64 0,bA []] rfl q1q) ?_
   refine y9 ?_
   rw[bad (by rw[h];rfl)]
   exact z9 [] ⟨rfl,rfl⟩ rfl
  ·have h:(!(J8 s))=false:=h
   refine z4 (y4 (fun h2=>?_) (fun h2=>?_))
   ·have h2:decide ((U7 s 20 2:Int) > 228)=true:=h2
    refine q8 hT ?_
    refine u6 (V0 0 [i64 0,i64 0,i64 0,i64 0,i64 0,bA []] rfl q1q) ?_
    refine y9 ?_
    rw[bad (by rw[h2,Bool.or_true])]
    exact z9 [] ⟨rfl,rfl⟩ rfl
   ·have h2:decide ((U7 s 20 2:Int) > 228)=false:=h2
    exact z5 ⟨q7 [0] [0,2,4] rfl,by rw[h,h2];rfl⟩
 intro hgood
 obtain⟨c2,hc2⟩:∃ c,s[2]?=some c:=⟨_,k0x (by omega)⟩
 have hg2:(bx s)[(2:Int).toNat]?=some [u8 c2]:=y0k hc2
 obtain⟨K,hK⟩:∃ K:Int,K=IntKind.i64.wrap (c2.toNat:Int):=⟨_,rfl⟩
 refine z7 ⟨⟨56,[(0,bA s),(2,.ref 0 0),(4,i64 (U7 s 20 2:Nat)),(5,.ref 1 0)]⟩,[.cells Y3 q9i,.cells Y3 [i64 K,i64 (U7 s 4 4:Nat),i64 (U7 s 8 4:Nat),i64 (U7 s 12 4:Nat),i64 (U7 s 16 4:Nat),.p (.raw (.slice none 0 0))]]⟩ True ?_ (fun _=>?_)
 ·refine v7 [13,14] [] hT y5 (by rfl) ?_
  refine⟨by omega,w9 hg2 ?_⟩
  refine⟨_,w7 w4 _ rfl rfl,?_⟩
  refine⟨_,w7 w8 _ rfl rfl,?_⟩
  refine⟨_,w7 w12 _ rfl rfl,?_⟩
  refine⟨_,w7 w16 _ rfl rfl,?_⟩
  refine⟨rfl,?_⟩
  refine⟨rfl,?_⟩
  refine⟨⟨_,w7 w4 _ rfl rfl,rfl⟩,?_⟩
  refine⟨⟨_,w7 w8 _ rfl rfl,rfl⟩,?_⟩
  refine⟨⟨_,w7 w12 _ rfl rfl,rfl⟩,?_⟩
  refine⟨⟨_,w7 w16 _ rfl rfl,rfl⟩,?_⟩
  rw[hK]
  exact⟨q7 [0,1] [0,2,4,5] rfl,trivial⟩
 have hc:=c2.toNat_lt
 rw[y8 _ (by omega) (by omega)]at hK
 rw[Bool.or_eq_false_iff]at hgood
 have hlong:=k0z hgood.2
 have hbo:q5t s=⟨K,(U7 s 4 4:Nat),(U7 s 8 4:Nat),(U7 s 12 4:Nat),(U7 s 16 4:Nat),(s.drop 24).take (U7 s 20 2)⟩:=by
  unfold q5t
  rw[k0w,hc2,hK];rfl
 have eO:∀ b t e,q5t s=b→b.sld=(t,e)→Y8 s=match e != 0||!(s==t) with|true=>(Blk.zero,7)|false=>(b,0):=fun b t e h1 h2=>by
  unfold Y8
  rw[hd,hgood.1,hgood.2,h1,h2];rfl
 generalize hL:U7 s 20 2=L at hbo hlong
 obtain⟨Y,hY⟩:∃ Y:z6,Y=(s.drop 24).take L:=⟨_,rfl⟩
 have eW:IntKind.i64.wrap (24+(L:Int))=((24+L:Nat):Int):=by rw[y8 _ (by omega) (by omega)];omega
 have eY:((bx s).take (IntKind.i64.wrap (24+(L:Int))).toNat).drop (24:Int).toNat=bx Y:=by
  rw[eW,k0v,hY,z3q,z7z,show (24:Int).toNat=24 from rfl,List.drop_take,Nat.add_sub_cancel_left]
 have wC:AF Tryz.prog q8s [.p (.sl 1 (((bx s).take (IntKind.i64.wrap (24+(L:Int))).toNat).drop (24:Int).toNat))] [] (v8 (bA Y) []):=by
  rw[eY];exact w1m Y (by rw[hY,k2u,List.length_drop];omega)
 rw[← hY]at hbo
 generalize (U7 s 4 4:Int)=v at hbo
 generalize (U7 s 8 4:Int)=a at hbo
 generalize (U7 s 12 4:Int)=e' at hbo
 generalize (U7 s 16 4:Int)=q at hbo
 have hS:=y6w ⟨K,v,a,e',q,Y⟩
 have eO:=eO _ (Blk.sld ⟨K,v,a,e',q,Y⟩).1 (Blk.sld ⟨K,v,a,e',q,Y⟩).2 hbo rfl
 generalize Blk.sld ⟨K,v,a,e',q,Y⟩=Z at hS eO
 obtain⟨t,e⟩:=Z
 simp only at eO
 refine z7 ⟨⟨56,[(0,bA s),(2,.ref 0 0),(5,.ref 1 0)]⟩,[.cells Y3 q9i,.cells Y3 [i64 K,i64 v,i64 a,i64 e',i64 q,bA Y]]⟩ True (q9 hT ?_) (fun _=>?_)
 ·refine⟨⟨by omega,?_,?_⟩,?_⟩
  ·show 24≤IntKind.i64.wrap (24+(L:Int))
   rw[eW];omega
  ·show IntKind.i64.wrap (24+(L:Int))≤((bx s).length:Int)
   rw[eW,hbl];omega
  refine x7 (w7 wC _ rfl rfl) ?_
  exact⟨q7 [0,1] [0,2,5] rfl,trivial⟩
 refine z7 ⟨⟨56,[(2,.ref 0 0),(5,.ref 1 0)]⟩,[.cells Y3 q9i,.cells Y3 [i64 K,i64 v,i64 a,i64 e',i64 q,bA Y]]⟩ ((e != 0||!(s==t))=false) (q8 hT ?_) ?_
 ·refine x7 (w7 hS _ rfl rfl) ?_
  refine q8 hT ?_
  refine y4 (fun h1=>?_) (fun h1=>?_)
  ·have h1:(e != 0)=true:=h1
   rw[h1]at eO
   refine z4 ?_
   refine q8 hT ?_
   refine u6 (V0 0 [i64 0,i64 0,i64 0,i64 0,i64 0,bA []] rfl q1q) ?_
   refine y9 ?_
   rw[eO]
   exact z9 [] ⟨rfl,rfl⟩ rfl
  ·have h1:(e != 0)=false:=h1
   rw[h1]at eO
   refine x7 (w7 (y1j s t) _ rfl rfl) ?_
   refine z4 (y4 (fun h2=>?_) (fun h2=>?_))
   ·have h2:(!(s==t))=true:=h2
    rw[h2]at eO
    refine q8 hT ?_
    refine u6 (V0 0 [i64 0,i64 0,i64 0,i64 0,i64 0,bA []] rfl q1q) ?_
    refine y9 ?_
    rw[eO]
    exact z9 [] ⟨rfl,rfl⟩ rfl
   ·have h2:(!(s==t))=false:=h2
    exact z5 ⟨q7 [0,1] [2,5] rfl,by rw[h1,h2];rfl⟩
 intro h
 rw[h]at eO
 refine q8 hT ?_
 refine y9 ?_
 rw[eO]
 exact z9 [] ⟨rfl,rfl⟩ rfl
theorem w1r (n w:Nat)(hn:n<9000000000000000000)(hw:w≤8):AF Tryz.prog z0f [i64 n,i64 w] [] (v8 (.msl 0 1 0 (bx (leB w n)).length) [.row z1 1 (bx (leB w n))]):=by
 refine v6 hT x5f rfl rfl x5g rfl ?_
 refine q8 hT ?_
 refine q8 hT ?_
 refine u6 (Wk.trans (Q2 z1 1) (V6 5 0 1 0 rfl)) ?_
 refine z8 (q8 hT ?_)
 refine z3 ?_
 refine y7 (fun m s=>∃ (i:Nat) (j v:Int) (L:z6),m+i=w∧j=i∧v=((n / 256 ^ i:Nat):Int)∧L=leB i n∧s=⟨⟨21,[(0,i64 v),(1,i64 w),(5,.msl 0 1 0 (bx L).length),(6,i64 j)]⟩,[.row z1 1 (bx L)]⟩) w ⟨⟨21,_⟩,[_]⟩ (q7 [0] [0,1,5,6] rfl) ⟨0,0,_,[],rfl,rfl,by rw[Nat.pow_zero,Nat.div_one],rfl,rfl⟩ ?_
 rintro m s ⟨i,j,v,L,hmi,rfl,rfl,hL,rfl⟩
 have hLl:L.length=i:=by rw[hL,J1]
 have hbl:=w6 L
 refine z8 (q8 hT ?_)
 refine z4 (y4 (fun h=>?_) (fun h=>?_))
 ·have hi:i<w:=by
   have:=k0q (show decide ((i:Int)<(w:Int))=true from h)
   omega
  refine z5 ?_
  refine z7 ⟨⟨21,[(0,i64 ((n / 256 ^ (i+1):Nat):Int)),(1,i64 w),(5,.msl 0 1 0 (bx (L++[UInt8.ofNat (n / 256 ^ i)])).length),(6,i64 i)]⟩,[.row z1 1 (bx (L++[UInt8.ofNat (n / 256 ^ i)]))]⟩ True (z3 (z8 (X8 (fun k=>Nat.beq 4 k) hT ?_))) (fun _=>?_)
  ·refine⟨⟨rfl,rfl⟩,?_⟩
   refine⟨rfl,⟨?_,?_⟩,?_⟩
   ·show ((bx L).length+1)*1≤140737488355328
    omega
   ·show (bx L).length+1≤140737488355328
    omega
   refine q9 hT ?_
   have hq:n / 256 ^ i≤n:=Nat.div_le_self _ _
   rw[y3g,show u8 (UInt8.ofNat (n / 256 ^ i))=PV.raw (.int .u8 (IntKind.u8.wrap (((n / 256 ^ i:Nat):Int).tmod 256))) by rw[v7m],y3h,← z7w _ 256 (by omega)]
   exact⟨q7 [1] [0,1,5,6] rfl,trivial⟩
  ·refine q9 hT ?_
   refine⟨m - 1,by omega,_,q7 [0] [0,1,5,6] rfl,i+1,IntKind.i64.wrap ((i:Int)+1),_,_,by omega,?_,rfl,by rw[hL,z7y],rfl⟩
   rw[y8 _ (by omega) (by omega)];rfl
 ·have hi:¬ (i:Int)<(w:Int):=k0z h
  have hi4:i=w:=by omega
  subst hi4
  refine x6 ?_
  refine q8 hT ?_
  refine y9 ?_
  subst hL
  exact z9 [0] ⟨rfl,rfl⟩ rfl
theorem q7k (n w:Nat)(hn:n<9000000000000000000)(hw:w≤8):AF Tryz.prog z0f [i64 n,i64 w] [] (v8 (bA (leB w n)) []):=z9j (w1r n w hn hw) rfl
theorem w6h (s:z6)(i:Nat)(c:UInt8)(h:s[i]?=some c):q3n (s.take (i+1))=q3n (s.take i)+c.toNat*256 ^ i:=by
 induction s generalizing i with
 |nil=>simp at h
 |cons d r ih=>
  cases i with
  |zero=>
   simp only[List.getElem?_cons_zero,Option.some.injEq]at h
   subst h
   simp[q3n]
  |succ i=>
   simp only[List.getElem?_cons_succ]at h
   rw[List.take_succ_cons,List.take_succ_cons,q3n,q3n,ih i h,Nat.pow_succ,Nat.add_mul,Nat.mul_assoc];omega
theorem w6i (s:z6)(hs:s.length≤7):AF Tryz.prog z7i [bA s] [] (v8 (i64 (q3n s:Nat)) []):=by
 have hbl:=w6 s
 refine v6 hT x5n rfl rfl x5p rfl ?_
 refine q8 hT ?_
 refine q8 hT ?_
 refine q8 hT ?_
 refine z8 (q8 hT ?_)
 refine z3 ?_
 refine y7 (fun m st=>∃ (i:Nat) (j v p:Int),m+i=s.length∧j=i∧v=(q3n (s.take i):Nat)∧p=((256 ^ i:Nat):Int)∧st=⟨⟨24,[(0,bA s),(3,i64 v),(4,i64 p),(5,i64 j)]⟩,[]⟩) s.length ⟨⟨24,_⟩,[]⟩ (q7 [] [0,3,4,5] rfl) ⟨0,0,0,1,rfl,rfl,rfl,rfl,rfl⟩ ?_
 rintro m st ⟨i,j,v,p,hmi,rfl,hv,hp,rfl⟩
 refine z8 (q8 hT ?_)
 refine z4 (y4 (fun h=>?_) (fun h=>?_))
 ·have hi:i<s.length:=by
   have:=k0q (show decide ((i:Int)<((bx s).length:Int))=true from h)
   omega
  have hx:=k0x hi
  generalize s[i]=c at hx
  have hxp:(bx s)[((i:Nat):Int).toNat]?=some [u8 c]:=by rw[k0v];exact y0k hx
  have hc:=c.toNat_lt
  have hL:=w6h s i c hx
  have h1:q3n (s.take i)<256 ^ 7:=Nat.lt_of_lt_of_le (y6x _) (Nat.pow_le_pow_right (by omega) (by rw[k2u];omega))
  have h2:256 ^ i≤256 ^ 6:=Nat.pow_le_pow_right (by omega) (by omega)
  have h4:c.toNat*256 ^ i≤255*256 ^ 6:=Nat.mul_le_mul (by omega) h2
  refine z5 ?_
  obtain⟨V,hV⟩:∃ V:Int,V=IntKind.i64.wrap (v+IntKind.i64.wrap (IntKind.i64.wrap (c.toNat:Int)*p)):=⟨_,rfl⟩
  obtain⟨P,hP⟩:∃ P:Int,P=IntKind.i64.wrap (p*256):=⟨_,rfl⟩
  refine z7 ⟨⟨24,[(0,bA s),(3,i64 V),(4,i64 P),(5,i64 i)]⟩,[]⟩ True (z3 (q8 hT ?_)) (fun _=>?_)
  ·refine⟨k2w _,w9 hxp ?_⟩
   refine q9 hT ?_
   rw[hV,hP]
   exact⟨q7 [] [0,3,4,5] rfl,trivial⟩
  ·refine q9 hT ?_
   refine⟨m - 1,by omega,_,q7 [] [0,3,4,5] rfl,i+1,IntKind.i64.wrap ((i:Int)+1),V,P,by omega,?_,?_,?_,rfl⟩
   ·rw[y8 _ (by omega) (by omega)];rfl
   ·rw[hV,hv,hp,hL,y8 (c.toNat:Int) (by omega) (by omega),← Int.natCast_mul,y8 ((c.toNat*256 ^ i:Nat):Int) (by omega) (by omega),y8 _ (by omega) (by omega)]
    omega
   ·rw[hP,hp,Nat.pow_succ]
    generalize 256 ^ i=Q at h2
    rw[y8 _ (by omega) (by omega)]
    omega
 ·have hi:¬ (i:Int)<((bx s).length:Int):=k0z h
  have his:i=s.length:=by omega
  rw[his,List.take_length]at hv
  refine x6 ?_
  refine q8 hT ?_
  refine y9 ?_
  rw[hv]
  exact z9 [] ⟨rfl,rfl⟩ rfl
theorem q8u (b:Blk):AF Tryz.prog y2g [b.av] [] (v8 (bl b.nums) []):=by
 refine v6 hT y2h rfl rfl y2i rfl ?_
 refine q8 hT ?_
 refine u6 (Q4 0 b.pv rfl rfl) ?_
 have hk:∀ n:Int,Y2 n=(!(decide (n<0))&&!(decide (n > 4294967295))):=fun n=>by
  unfold Y2
  rw[← decide_not,← decide_not]
  congr 1
  ·exact decide_eq_decide.mpr (by omega)
  ·exact decide_eq_decide.mpr (by omega)
 unfold Blk.nums
 refine z8 (X8 (fun k=>Nat.beq 8 k) hT ?_)
 refine⟨⟨rfl,rfl⟩,?_⟩
 generalize hl:[b.vol,b.addr,b.epoch,b.seq]=l
 refine z7 ⟨⟨38,[(1,.p (.box b.pv))]⟩,[]⟩ (l.all Y2=true) ?_ ?_
 ·refine u6 (s2:=⟨⟨38,[(1,.p (.box b.pv)),(3,.p (.sl 1 (ix l)))]⟩,[]⟩) (by rw[← hl];exact q7 [] [1,3] rfl) ?_
  have hll:l.length=4:=by rw[← hl];rfl
  refine q8 hT ?_
  refine z3 ?_
  refine y7 (fun n s=>∃ (i:Nat) (j:Int),n+i=4∧j=i∧(l.take i).all Y2=true∧s=⟨⟨38,[(1,.p (.box b.pv)),(3,.p (.sl 1 (ix l))),(4,i64 j)]⟩,[]⟩) 4 ⟨⟨38,_⟩,[]⟩ (q7 [] [1,3,4] rfl) ⟨0,0,rfl,rfl,rfl,rfl⟩ ?_
  rintro n s ⟨i,j,hni,rfl,ht,rfl⟩
  refine z8 (q8 hT ?_)
  refine z4 (y4 (fun h=>?_) (fun h=>?_))
  ·have hi:i<l.length:=by
    have:=k0q (show decide ((i:Int)<4)=true from h)
    omega
   have hx:=k0x hi
   have hmem:=k1x hi
   have htk:l.take (i+1)=l.take i++[l[i]]:=by rw[k2t,hx];rfl
   generalize l[i]=c at hx htk hmem
   have hxp:(ix l)[((i:Nat):Int).toNat]?=some [.raw (.int .i64 c)]:=by rw[k0v];exact ixg hx
   have bad:Y2 c=false→l.all Y2=false:=fun h=>by
    rw[List.all_eq_false];exact⟨c,hmem,by rw[h];simp⟩
   refine z5 ?_
   refine z7 ⟨⟨38,[(1,.p (.box b.pv)),(3,.p (.sl 1 (ix l))),(4,i64 i)]⟩,[]⟩ (Y2 c=true) (z3 (q8 hT ?_)) ?_
   ·refine⟨k2w _,w9 hxp ?_⟩
    refine y4 (fun h2=>?_) (fun h2=>?_)
    ·have h2:decide (c<0)=true:=h2
     refine z4 ?_
     refine q8 hT ?_
     refine y9 ?_
     rw[bad (by rw[hk,h2];rfl),Bool.and_false]
     exact z9 [] ⟨rfl,rfl⟩ rfl
    ·have h2:decide (c<0)=false:=h2
     refine⟨k2w _,w9 hxp ?_⟩
     refine z4 (y4 (fun h3=>?_) (fun h3=>?_))
     ·have h3:decide (c > 4294967295)=true:=h3
      refine q8 hT ?_
      refine y9 ?_
      rw[bad (by rw[hk,h2,h3];rfl),Bool.and_false]
      exact z9 [] ⟨rfl,rfl⟩ rfl
     ·have h3:decide (c > 4294967295)=false:=h3
      exact z5 ⟨q7 [] [1,3,4] rfl,by rw[hk,h2,h3];rfl⟩
   ·intro hc
    refine q9 hT ?_
    refine⟨n - 1,by omega,_,q7 [] [1,3,4] rfl,i+1,IntKind.i64.wrap ((i:Int)+1),by omega,?_,?_,rfl⟩
    ·rw[y8 _ (by omega) (by omega)];rfl
    ·rw[htk,List.all_append,ht];simp[hc]
  ·have hi:¬ (i:Int)<4:=k0z h
   have hil:i=l.length:=by omega
   subst hil
   rw[List.take_length]at ht
   refine x6 ?_
   exact⟨q7 [] [1] rfl,ht⟩
 intro h
 rw[h,Bool.and_true]
 refine q8 hT ?_
 refine y4 (fun h1=>?_) (fun h1=>?_)
 ·rw[show decide (b.kind≥1)=true from h1]
  refine y9 ?_
  exact z9 [] ⟨rfl,rfl⟩ rfl
 ·rw[show decide (b.kind≥1)=false from h1]
  refine y9 ?_
  exact z9 [] ⟨rfl,rfl⟩ rfl
theorem x1r (w n:Nat)(l:List Nat):z4n w (n :: l)=leB w n++z4n w l:=rfl
theorem w1s (w:Nat):z4n w []=[]:=rfl
theorem y9t (k v a e q:Nat)(body:z6)(hn:(Blk.mk k v a e q body).nums=true)(hb:body.length≤228)(hv:v≤4294967295)(ha:a≤4294967295)(he:e≤4294967295)(hq:q≤4294967295) :
 AF Tryz.prog z6r [(Blk.mk k v a e q body).av] [] (v8 (.tup [bA (q0k (Blk.mk k v a e q body).all),i64 0]) []):=by
 have hbl:=w6 body
 have hall:=z3r (Blk.mk k v a e q body) hb
 refine v6 hT z0d rfl rfl z0e rfl ?_
 refine q8 hT ?_
 refine u6 (Q4 0 (Blk.mk k v a e q body).pv rfl rfl) ?_
 have wn:=q8u (Blk.mk k v a e q body)
 rw[hn]at wn
 refine q8 hT ?_
 refine x7 (w7 wn _ rfl rfl) ?_
 refine z8 (q8 hT ?_)
 refine z4 ?_
 refine z5 ?_
 refine z7 ⟨⟨59,[(1,.p (.box (Blk.mk k v a e q body).pv))]⟩,[]⟩ True (q8 hT ?_) (fun _=>?_)
 ·refine z4 (y4 (fun h=>?_) (fun h=>?_))
  ·have h:=k0q (show decide (((bx body).length:Int) > 228)=true from h)
   omega
  ·exact z5 ⟨q7 [] [1] rfl,trivial⟩
 have key:∀ (L:z6) (r:z6),L.length≤400→r.length≤400→((bx L).length+(bx r).length)*1≤140737488355328∧(bx L).length+(bx r).length≤140737488355328:=fun L r h1 h2=>by
  rw[w6,w6];omega
 generalize hL0:([81,77,UInt8.ofNat k,0]:z6)=L0
 have l0:L0.length=4:=by rw[← hL0];rfl
 have b0:[[u8 81],[u8 77],[PV.raw (.int .u8 (IntKind.u8.wrap (k:Int)))],[u8 0]]=bx L0:=by rw[← hL0,q0t];rfl
 have w1:=q7k v 4 (by omega) (by omega)
 have w2:=q7k a 4 (by omega) (by omega)
 have w3:=q7k e 4 (by omega) (by omega)
 have w4:=q7k q 4 (by omega) (by omega)
 have w5:AF Tryz.prog z0f [i64 (bx body).length,i64 2] [] (v8 (bA (leB 2 body.length)) []):=by rw[hbl];exact q7k body.length 2 (by omega) (by omega)
 have hhead:(Blk.mk k v a e q body).head=L0++leB 4 v++leB 4 a++leB 4 e++leB 4 q++leB 2 body.length++[0,0]:=by
  unfold Blk.head
  simp only[x1r,w1s,Int.toNat_natCast]
  rw[← hL0]
  simp only[List.append_assoc,List.append_nil]
  rfl
 have hA:(Blk.mk k v a e q body).all=L0++leB 4 v++leB 4 a++leB 4 e++leB 4 q++leB 2 body.length++[0,0]++body++List.replicate (228 - body.length) 0:=by
  unfold Blk.all
  rw[hhead]
 have n1:=J1 4 v
 have n2:=J1 4 a
 have n3:=J1 4 e
 have n4:=J1 4 q
 have n5:=J1 2 body.length
 generalize leB 4 v=c1 at w1 hA n1
 generalize leB 4 a=c2 at w2 hA n2
 generalize leB 4 e=c3 at w3 hA n3
 generalize leB 4 q=c4 at w4 hA n4
 generalize leB 2 body.length=c5 at w5 hA n5
 generalize hAA:(Blk.mk k v a e q body).all=A at hA hall
 clear hhead hn wn hL0
 refine z7 ⟨⟨59,[(1,.p (.box (Blk.mk k v a e q body).pv)),(5,.msl 0 1 0 (bx L0).length)]⟩,[.row z1 1 (bx L0)]⟩ True (q9 hT ?_) (fun _=>?_)
 ·rw[← b0]
  exact⟨q7 [0] [1,5] rfl,trivial⟩
 refine z7 ⟨⟨59,[(1,.p (.box (Blk.mk k v a e q body).pv)),(5,.msl 0 1 0 (bx (L0++c1)).length)]⟩,[.row z1 1 (bx (L0++c1))]⟩ True (q9 hT ?_) (fun _=>?_)
 ·refine x7 (w7 w1 _ rfl rfl) ?_
  refine⟨rfl,key L0 c1 (by omega) (by omega),?_⟩
  rw[Y9]
  exact⟨q7 [1] [1,5] rfl,trivial⟩
 generalize h1:L0++c1=L1 at hA
 have l1:L1.length=8:=by rw[← h1,k1z];omega
 refine z7 ⟨⟨59,[(1,.p (.box (Blk.mk k v a e q body).pv)),(5,.msl 0 1 0 (bx (L1++c2)).length)]⟩,[.row z1 1 (bx (L1++c2))]⟩ True (q9 hT ?_) (fun _=>?_)
 ·refine x7 (w7 w2 _ rfl rfl) ?_
  refine⟨rfl,key L1 c2 (by omega) (by omega),?_⟩
  rw[Y9]
  exact⟨q7 [1] [1,5] rfl,trivial⟩
 generalize h2:L1++c2=L2 at hA
 have l2:L2.length=12:=by rw[← h2,k1z];omega
 refine z7 ⟨⟨59,[(1,.p (.box (Blk.mk k v a e q body).pv)),(5,.msl 0 1 0 (bx (L2++c3)).length)]⟩,[.row z1 1 (bx (L2++c3))]⟩ True (q9 hT ?_) (fun _=>?_)
 ·refine x7 (w7 w3 _ rfl rfl) ?_
  refine⟨rfl,key L2 c3 (by omega) (by omega),?_⟩
  rw[Y9]
  exact⟨q7 [1] [1,5] rfl,trivial⟩
 generalize h3:L2++c3=L3 at hA
 have l3:L3.length=16:=by rw[← h3,k1z];omega
 refine z7 ⟨⟨59,[(1,.p (.box (Blk.mk k v a e q body).pv)),(5,.msl 0 1 0 (bx (L3++c4)).length)]⟩,[.row z1 1 (bx (L3++c4))]⟩ True (q9 hT ?_) (fun _=>?_)
 ·refine x7 (w7 w4 _ rfl rfl) ?_
  refine⟨rfl,key L3 c4 (by omega) (by omega),?_⟩
  rw[Y9]
  exact⟨q7 [1] [1,5] rfl,trivial⟩
 generalize h4:L3++c4=L4 at hA
 have l4:L4.length=20:=by rw[← h4,k1z];omega
 refine z7 ⟨⟨59,[(1,.p (.box (Blk.mk k v a e q body).pv)),(5,.msl 0 1 0 (bx (L4++c5)).length)]⟩,[.row z1 1 (bx (L4++c5))]⟩ True (q9 hT ?_) (fun _=>?_)
 ·refine x7 (w7 w5 _ rfl rfl) ?_
  refine⟨rfl,key L4 c5 (by omega) (by omega),?_⟩
  rw[Y9]
  exact⟨q7 [1] [1,5] rfl,trivial⟩
 generalize h5:L4++c5=L5 at hA
 have l5:L5.length=22:=by rw[← h5,k1z];omega
 refine z7 ⟨⟨59,[(1,.p (.box (Blk.mk k v a e q body).pv)),(5,.msl 0 1 0 (bx (L5++[0,0])).length)]⟩,[.row z1 1 (bx (L5++[0,0]))]⟩ True (X8 (fun k=>Nat.beq 1 k) hT ?_) (fun _=>?_)
 ·refine⟨⟨rfl,rfl⟩,?_⟩
  refine⟨rfl,key L5 [0,0] (by omega) (by decide),?_⟩
  rw[Y9]
  exact⟨q7 [1] [1,5] rfl,trivial⟩
 generalize h6:L5++[0,0]=L6 at hA
 have l6:L6.length=24:=by rw[← h6,k1z];simp;omega
 refine z7 ⟨⟨59,[(5,.msl 0 1 0 (bx (L6++body)).length)]⟩,[.row z1 1 (bx (L6++body))]⟩ True (q9 hT ?_) (fun _=>?_)
 ·refine⟨rfl,key L6 body (by omega) (by omega),?_⟩
  rw[Y9]
  exact⟨q7 [1] [5] rfl,trivial⟩
 generalize h7:L6++body=L7 at hA
 have l7:L7.length=24+body.length:=by rw[← h7,k1z];omega
 have l7':L7.length≤252:=by omega
 rw[show 228 - body.length=252 - L7.length by omega]at hA
 clear h1 h2 h3 h4 h5 h6 h7
 refine z7 ⟨⟨59,[(5,.p (.sl 1 (bx A)))]⟩,[]⟩ True (z3 ?_) (fun _=>?_)
 ·refine y7 (fun n s=>∃ L:z6,n+L.length=252∧A=L++List.replicate (252 - L.length) 0∧s=⟨⟨59,[(5,.msl 0 1 0 (bx L).length)]⟩,[.row z1 1 (bx L)]⟩) (252 - L7.length) ⟨⟨59,_⟩,[_]⟩ (q7 [0] [5] rfl) ⟨L7,by omega,hA,rfl⟩ ?_
  rintro n s ⟨L,hn,hAL,rfl⟩
  have hbL:=w6 L
  refine z8 (q8 hT ?_)
  refine z4 (y4 (fun h=>?_) (fun h=>?_))
  ·have h:=k0q (show decide (((bx L).length:Int)<252)=true from h)
   refine z5 ?_
   refine z3 (X8 (fun k=>Nat.beq 1 k) hT ?_)
   refine⟨⟨rfl,rfl⟩,?_⟩
   refine⟨rfl,key L [0] (by omega) (by decide),?_⟩
   refine⟨n - 1,by omega,_,q7 [1] [5] rfl,L++[0],by rw[k1z];simp;omega,?_,by rw[Y9];rfl⟩
   rw[hAL,List.append_assoc,k1z,show ([0]:z6).length=1 from rfl,show 252 - L.length=252 - (L.length+1)+1 by omega,List.replicate_succ];rfl
  ·have h:=k0z (show decide (((bx L).length:Int)<252)=false from h)
   have h252:L.length=252:=by omega
   rw[h252,Nat.sub_self,List.replicate_zero,List.append_nil]at hAL
   refine x6 ?_
   exact⟨Wk.trans (Z6 5 0 _ (by rw[hAL]) rfl rfl rfl) (q7 [] [5] rfl),trivial⟩
 refine q8 hT ?_
 refine x7 (w7 (w6f A (by omega)) _ rfl rfl) ?_
 refine y9 ?_
 exact z9 [] ⟨rfl,rfl⟩ rfl
theorem y6y (b:Blk):AF Tryz.prog z6r [b.av] [] (v8 (.tup [bA b.sld.1,i64 b.sld.2]) []):=by
 cases hn:b.nums with
 |true=>
  cases hl:decide (b.body.length > 228) with
  |false=>
   have hl:=k0z hl
   have e:b.sld=(q0k b.all,0):=by unfold Blk.sld;rw[hn,k1t hl]
   obtain⟨k,v,a,e',q,hb,_,_,hv,ha,he,hq⟩:=y6v hn
   rw[e]
   rw[hb]at hn ⊢
   exact y9t k v a e' q b.body hn (by omega) hv ha he hq
  |true=>
   have e:b.sld=([],2):=by unfold Blk.sld;rw[hn,hl]
   have hbl:=w6 b.body
   have hl:=k0q hl
   have wn:=q8u b
   rw[hn]at wn
   rw[e]
   refine v6 hT z0d rfl rfl z0e rfl ?_
   refine q8 hT ?_
   refine u6 (Q4 0 b.pv rfl rfl) ?_
   refine q8 hT ?_
   refine x7 (w7 wn _ rfl rfl) ?_
   refine z8 (q8 hT ?_)
   refine z4 ?_
   refine z5 ?_
   refine z8 (q8 hT ?_)
   refine z4 (y4 (fun h=>?_) (fun h=>?_))
   ·refine q8 hT ?_
    refine u6 (q1a 2 1 rfl) ?_
    refine y9 ?_
    exact z9 [] ⟨rfl,rfl⟩ rfl
   ·have h:=k0z (show decide (((bx b.body).length:Int) > 228)=false from h)
    omega
 |false=>
  have e:b.sld=([],1):=by unfold Blk.sld;rw[hn]
  have wn:=q8u b
  rw[hn]at wn
  rw[e]
  refine v6 hT z0d rfl rfl z0e rfl ?_
  refine q8 hT ?_
  refine u6 (Q4 0 b.pv rfl rfl) ?_
  refine q8 hT ?_
  refine x7 (w7 wn _ rfl rfl) ?_
  refine z8 (q8 hT ?_)
  refine z4 ?_
  refine q8 hT ?_
  refine u6 (q1a 2 1 rfl) ?_
  refine y9 ?_
  exact z9 [] ⟨rfl,rfl⟩ rfl
theorem q7m (l:z6):J8 (q0k l)=true:=by
 have h:=q9g l
 unfold J8
 rw[k1u (show 4≤(q0k l).length by omega)]
 rw[show (q0k l).length - 4=l.length by omega]
 show ((q0k l).drop l.length==leB 4 (sum ((q0k l).take l.length)).toNat)=true
 unfold q0k
 rw[List.drop_left,List.take_left]
 simp
theorem w6j {s:z6}{b:Blk}(h:(b.sld.2 != 0||!(s==b.sld.1))=false):J8 s=true:=by
 rw[Bool.or_eq_false_iff]at h
 have h2:s=b.sld.1:=by simpa using h.2
 have h1:b.sld.2=0:=by simpa using h.1
 unfold Blk.sld at h1 h2
 cases hn:b.nums with
 |false=>rw[hn]at h1;simp at h1
 |true=>
  cases hl:decide (b.body.length > 228) with
  |true=>rw[hn,hl]at h1;simp at h1
  |false=>
   rw[hn,hl]at h2
   rw[h2]
   exact q7m _
theorem v7q (s:z6)(h:s.length=256)(hl:decide ((U7 s 20 2:Int) > 228)=false):Y8 s=match (q5t s).sld.2 != 0||!(s==(q5t s).sld.1) with
 |true=>(Blk.zero,7)
 |false=>(q5t s,0):=by
 unfold Y8
 rw[k1u h,hl,Bool.or_false]
 cases hw:J8 s with
 |true=>rfl
 |false=>
  cases hh:((q5t s).sld.2 != 0||!(s==(q5t s).sld.1)) with
  |true=>rfl
  |false=>rw[w6j hh]at hw;cases hw
theorem w6k (s:z6)(hl:s.length≤1000000):AF Tryz.prog x4u [bA s] [] (v8 (.tup [(Y8 s).1.av,i64 (Y8 s).2]) []):=by
 have hbl:=w6 s
 refine v6 hT x4v rfl rfl x4w rfl ?_
 refine q8 hT ?_
 refine z7 ⟨⟨58,[(0,bA s),(2,.ref 0 0)]⟩,[.cells Y3 q9i]⟩ (s.length=256) (q8 hT ?_) ?_
 ·refine z4 (y4 (fun h=>?_) (fun h=>?_))
  ·have h:(((bx s).length:Int) != 256)=true:=h
   have hne:s.length≠256:=by rw[hbl]at h;intro e;rw[e]at h;simp at h
   have eo:Y8 s=(Blk.zero,1):=by unfold Y8;rw[k1t hne]
   refine q8 hT ?_
   refine u6 (V0 0 [i64 0,i64 0,i64 0,i64 0,i64 0,bA []] rfl q1q) ?_
   refine y9 ?_
   rw[eo]
   exact z9 [] ⟨rfl,rfl⟩ rfl
  ·have h:(((bx s).length:Int) != 256)=false:=h
   have he:s.length=256:=by
    rw[hbl]at h
    have:(s.length:Int)=256:=by simpa using h
    omega
   exact z5 ⟨q7 [0] [0,2] rfl,he⟩
 intro h256
 have rd:∀ (i j:Nat),i≤j→j≤24→j - i≤7→AF Tryz.prog z7i [.p (.sl 1 (((bx s).take j).drop i))] [] (v8 (i64 (U7 s i (j - i):Nat)) []):=fun i j h1 h2 h3=>by
  have w:=w6i ((s.drop i).take (j - i)) (by rw[k2u];omega)
  have e:((bx s).take j).drop i=bx ((s.drop i).take (j - i)):=by
   rw[z3q,z7z,List.drop_take]
  rw[e]
  exact w
 have w20:=rd 20 22 (by omega) (by omega) (by omega)
 have w4:=rd 4 8 (by omega) (by omega) (by omega)
 have w8:=rd 8 12 (by omega) (by omega) (by omega)
 have w12:=rd 12 16 (by omega) (by omega) (by omega)
 have w16:=rd 16 20 (by omega) (by omega) (by omega)
 have hin:∀ i j:Int,0≤i→i≤j→j≤24→(0≤i∧i≤j∧j≤((bx s).length:Int)):=fun i j a b c=>⟨a,b,by omega⟩
 refine q8 hT ?_
 refine⟨hin 20 22 (by omega) (by omega) (by omega),?_⟩
 refine x7 (w7 w20 _ rfl rfl) ?_
 refine z7 ⟨⟨58,[(0,bA s),(2,.ref 0 0),(4,i64 (U7 s 20 2:Nat))]⟩,[.cells Y3 q9i]⟩ (decide ((U7 s 20 2:Int) > 228)=false) (q8 hT ?_) ?_
 ·refine z4 (y4 (fun h=>?_) (fun h=>?_))
  ·have h:decide ((U7 s 20 2:Int) > 228)=true:=h
   have bad:Y8 s=(Blk.zero,7):=by unfold Y8;rw[k1u h256,h,Bool.or_true]
   refine q8 hT ?_
   refine u6 (V0 0 [i64 0,i64 0,i64 0,i64 0,i64 0,bA []] rfl q1q) ?_
   refine y9 ?_
   rw[bad]
   exact z9 [] ⟨rfl,rfl⟩ rfl
  ·have h:decide ((U7 s 20 2:Int) > 228)=false:=h
   exact z5 ⟨q7 [0] [0,2,4] rfl,h⟩
 intro hlong
 have eO:=v7q s h256 hlong
 obtain⟨c2,hc2⟩:∃ c,s[2]?=some c:=⟨_,k0x (by omega)⟩
 have hg2:(bx s)[(2:Int).toNat]?=some [u8 c2]:=y0k hc2
 obtain⟨K,hK⟩:∃ K:Int,K=IntKind.i64.wrap (c2.toNat:Int):=⟨_,rfl⟩
 refine z7 ⟨⟨58,[(0,bA s),(2,.ref 0 0),(4,i64 (U7 s 20 2:Nat)),(5,.ref 1 0)]⟩,[.cells Y3 q9i,.cells Y3 [i64 K,i64 (U7 s 4 4:Nat),i64 (U7 s 8 4:Nat),i64 (U7 s 12 4:Nat),i64 (U7 s 16 4:Nat),.p (.raw (.slice none 0 0))]]⟩ True ?_ (fun _=>?_)
 ·refine v7 [17,18] [] hT y5 (by rfl) ?_
  refine⟨by omega,w9 hg2 ?_⟩
  refine⟨hin 4 8 (by omega) (by omega) (by omega),?_⟩
  refine⟨_,w7 w4 _ rfl rfl,?_⟩
  refine⟨hin 8 12 (by omega) (by omega) (by omega),?_⟩
  refine⟨_,w7 w8 _ rfl rfl,?_⟩
  refine⟨hin 12 16 (by omega) (by omega) (by omega),?_⟩
  refine⟨_,w7 w12 _ rfl rfl,?_⟩
  refine⟨hin 16 20 (by omega) (by omega) (by omega),?_⟩
  refine⟨_,w7 w16 _ rfl rfl,?_⟩
  refine⟨rfl,?_⟩
  refine⟨rfl,?_⟩
  refine⟨⟨_,w7 w4 _ rfl rfl,rfl⟩,?_⟩
  refine⟨⟨_,w7 w8 _ rfl rfl,rfl⟩,?_⟩
  refine⟨⟨_,w7 w12 _ rfl rfl,rfl⟩,?_⟩
  refine⟨⟨_,w7 w16 _ rfl rfl,rfl⟩,?_⟩
  rw[hK]
  exact⟨q7 [0,1] [0,2,4,5] rfl,trivial⟩
 have hc:=c2.toNat_lt
 rw[y8 _ (by omega) (by omega)]at hK
 have hlong':=k0z hlong
 have hbo:q5t s=⟨K,(U7 s 4 4:Nat),(U7 s 8 4:Nat),(U7 s 12 4:Nat),(U7 s 16 4:Nat),(s.drop 24).take (U7 s 20 2)⟩:=by
  unfold q5t
  rw[k0w,hc2,hK];rfl
 have eO:∀ b t e,q5t s=b→b.sld=(t,e)→Y8 s=match e != 0||!(s==t) with|true=>(Blk.zero,7)|false=>(b,0):=fun b t e h1 h2=>by
  rw[eO,h1,h2]
 clear w20 w4 w8 w12 w16
 generalize hL:U7 s 20 2=L at hbo hlong'
 obtain⟨Y,hY⟩:∃ Y:z6,Y=(s.drop 24).take L:=⟨_,rfl⟩
 have eW:IntKind.i64.wrap (24+(L:Int))=((24+L:Nat):Int):=by rw[y8 _ (by omega) (by omega)];omega
 have eY:((bx s).take (IntKind.i64.wrap (24+(L:Int))).toNat).drop (24:Int).toNat=bx Y:=by
  rw[eW,k0v,hY,z3q,z7z,show (24:Int).toNat=24 from rfl,List.drop_take,Nat.add_sub_cancel_left]
 rw[← hY]at hbo
 have hYl:Y.length≤300:=by rw[hY,k2u,List.length_drop];omega
 have hYb:=w6 Y
 generalize (U7 s 4 4:Int)=v at hbo
 generalize (U7 s 8 4:Int)=a at hbo
 generalize (U7 s 12 4:Int)=e' at hbo
 generalize (U7 s 16 4:Int)=q at hbo
 have hS:=y6y ⟨K,v,a,e',q,Y⟩
 have eO:=eO _ (Blk.sld ⟨K,v,a,e',q,Y⟩).1 (Blk.sld ⟨K,v,a,e',q,Y⟩).2 hbo rfl
 generalize Blk.sld ⟨K,v,a,e',q,Y⟩=Z at hS eO
 obtain⟨t,e⟩:=Z
 simp only at eO
 refine z7 ⟨⟨58,[(0,bA s),(2,.ref 0 0),(5,.ref 1 0)]⟩,[.cells Y3 q9i,.cells Y3 [i64 K,i64 v,i64 a,i64 e',i64 q,bA Y]]⟩ True (X8 (fun k=>Nat.beq 4 k) hT ?_) (fun _=>?_)
 ·refine⟨⟨by omega,?_,?_⟩,?_⟩
  ·show 24≤IntKind.i64.wrap (24+(L:Int))
   rw[eW];omega
  ·show IntKind.i64.wrap (24+(L:Int))≤((bx s).length:Int)
   rw[eW,hbl];omega
  refine⟨⟨?_,?_⟩,?_⟩
  ·rw[eY,hYb];show Y.length*1≤_;omega
  ·rw[eY,hYb];omega
  refine⟨⟨rfl,rfl⟩,?_⟩
  show _∧True
  rw[show bA Y=.p (.sl 1 (((bx s).take (IntKind.i64.wrap (24+(L:Int))).toNat).drop (24:Int).toNat)) by rw[eY]]
  exact⟨q7 [0,1] [0,2,5] rfl,trivial⟩
 refine z7 ⟨⟨58,[(0,bA s),(2,.ref 0 0),(5,.ref 1 0),(6,bA t),(7,i64 e)]⟩,[.cells Y3 q9i,.cells Y3 [i64 K,i64 v,i64 a,i64 e',i64 q,bA Y]]⟩ True (q9 hT ?_) (fun _=>?_)
 ·refine x7 (w7 hS _ rfl rfl) ?_
  exact⟨q7 [0,1] [0,2,5,6,7] rfl,trivial⟩
 refine z7 ⟨⟨58,[(2,.ref 0 0),(5,.ref 1 0),(7,i64 e),(8,bl (s==t))]⟩,[.cells Y3 q9i,.cells Y3 [i64 K,i64 v,i64 a,i64 e',i64 q,bA Y]]⟩ True (q9 hT ?_) (fun _=>?_)
 ·refine x7 (w7 (y6n s t hl) _ rfl rfl) ?_
  exact⟨q7 [0,1] [2,5,7,8] rfl,trivial⟩
 refine z7 ⟨⟨58,[(2,.ref 0 0),(5,.ref 1 0)]⟩,[.cells Y3 q9i,.cells Y3 [i64 K,i64 v,i64 a,i64 e',i64 q,bA Y]]⟩ ((e != 0||!(s==t))=false) (q8 hT ?_) ?_
 ·skip
  refine y4 (fun h1=>?_) (fun h1=>?_)
  ·have h1:(e != 0)=true:=h1
   rw[h1]at eO
   refine z4 ?_
   refine q8 hT ?_
   refine u6 (V0 0 [i64 0,i64 0,i64 0,i64 0,i64 0,bA []] rfl q1q) ?_
   refine y9 ?_
   rw[eO]
   exact z9 [] ⟨rfl,rfl⟩ rfl
  ·have h1:(e != 0)=false:=h1
   rw[h1]at eO
   refine z4 (y4 (fun h2=>?_) (fun h2=>?_))
   ·have h2:(!(s==t))=true:=h2
    rw[h2]at eO
    refine q8 hT ?_
    refine u6 (V0 0 [i64 0,i64 0,i64 0,i64 0,i64 0,bA []] rfl q1q) ?_
    refine y9 ?_
    rw[eO]
    exact z9 [] ⟨rfl,rfl⟩ rfl
   ·have h2:(!(s==t))=false:=h2
    exact z5 ⟨q7 [0,1] [2,5] rfl,by rw[h1,h2];rfl⟩
 intro h
 rw[h]at eO
 refine q8 hT ?_
 refine y9 ?_
 rw[eO]
 exact z9 [] ⟨rfl,rfl⟩ rfl
end Go.Proofs.YtinfbclgkghgaaaGreat.AL
