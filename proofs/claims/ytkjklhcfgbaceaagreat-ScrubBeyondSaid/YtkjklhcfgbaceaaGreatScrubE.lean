/- A part of the proof. -/
import Derived.Test.YtkjklhcfgbaceaaGreatScrubD
open Option.some renaming inj→k0x
open List renaming getElem?_eq_getElem→k0w,getD_eq_getElem?_getD→k0v,getElem?_eq_some_iff→k0t,getElem?_append_left→k0s,getElem?_append_right→k1q,getElem?_map→k1z,getElem_mem→k1w,getElem?_set_self→k2y,mem_of_getElem?→k2x,getElem?_range→k2s,getElem?_set_ne→k3z
open Nat renaming le_refl→k1v
open Bool renaming and_eq_true→k1u
open Array renaming getD_eq_getD_getElem?→k2q
namespace Go.Proofs.YtkjklhcfgbaceaaGreat.AL
open Go Go.RowKit
abbrev i64 (n:Int):AV:=.p (.raw (.int .i64 n))
abbrev bl (b:Bool):AV:=.p (.raw (.bool b))
mutual
theorem y1f {n:Nat}{ρ:Nat→Nat}(hρ:∀ b,b<n→ρ b=b):∀ u:AV,U1 n u=true→u.ren ρ=u
 |.p _,_=>rfl
 |.agg l,h=>by rw[AV.ren,q2t hρ l h]
 |.tup l,h=>by rw[AV.ren,q2t hρ l h]
 |.ref b o,h=>by rw[AV.ren,hρ b (by simpa [U1,Nat.blt_eq] using h)]
 |.msl b s o k,h=>by rw[AV.ren,hρ b (by simpa [U1,Nat.blt_eq] using h)]
 |.elr b s i o,h=>by rw[AV.ren,hρ b (by simpa [U1,Nat.blt_eq] using h)]
 |.clo f l,h=>by rw[AV.ren,q2t hρ l h]
 |.mth f l,h=>by rw[AV.ren,q2t hρ l h]
 |.yld b,h=>by rw[AV.ren,hρ b (by simpa [U1,Nat.blt_eq] using h)]
 |.mp b,h=>by rw[AV.ren,hρ b (by simpa [U1,Nat.blt_eq] using h)]
 |.top,_=>rfl
theorem q2t {n:Nat}{ρ:Nat→Nat}(hρ:∀ b,b<n→ρ b=b):∀ l:List AV,J0 n l=true→q3c ρ l=l
 |[],_=>rfl
 |u :: r,h=>by
  simp only[J0,Bool.and_eq_true]at h
  rw[q3c,y1f hρ u h.1,q2t hρ r h.2]
end
theorem v8b {n:Nat}{ρ:Nat→Nat}(hρ:∀ b,b<n→ρ b=b)(k:ABlk)(h:x3f n k=true):k.ren ρ=k:=by
 cases k with
 |cells t l=>rw[ABlk.ren,q2t hρ l h]
 |lp q st pe l=>rw[ABlk.ren,q2t hρ l h]
 |_=>rfl
def q3s (l:List (Nat × AV)):List Nat→List (Nat × AV)
 |[]=>[]
 |t :: ks=>match W4 l t with
  |some u=>(t,u) :: q3s l ks
  |none=>q3s l ks
def q7e (n:Nat):List (Nat × AV)→Bool
 |[]=>true
 |(_,u) :: r=>U1 n u&&q7e n r
theorem y1g {n:Nat}{l:List (Nat × AV)}:∀ {ks:List Nat},q7e n (q3s l ks)=true→∀ {i:Nat} {u:AV},W4 (q3s l ks) i=some u→W4 l i=some u∧U1 n u=true
 |[],_,i,u,h=>by simp[q3s,W4]at h
 |t :: ks,hb,i,u,h=>by
  simp only[q3s]at hb h
  cases hl:W4 l t with
  |none=>rw[hl]at hb h;exact y1g hb h
  |some x=>
   rw[hl]at hb h
   simp only[q7e,Bool.and_eq_true]at hb
   by_cases e:t=i
   ·subst e;rw[U3]at h;obtain rfl:=k0x h;exact⟨hl,hb.1⟩
   ·rw[V4 _ _ e]at h;exact y1g hb.2 h
section
variable {P:Program} {T:J1} {m:Nat} {s s2:St} {Q:Exit→St→Prop}
theorem Q1 {f:FuncId}{args:List AV}{H:List ABlk}{K:AV→List ABlk→Prop}{r:AV}{H':List ABlk}(h:AF P f args H (Q9 r H'))(k:K r H'):w5a P f args H K:=
 v9u h (by rintro _ _ ⟨rfl,rfl⟩;exact k)
theorem Sel.range (H:List ABlk)(k:Nat)(hk:k≤H.length)(hb:q4k k (H.take k)=true):Sel (List.range k) H (H.take k):=by
 have hr:∀ b,b<k→rho H.length (List.range k) b=b:=fun b hb=>by simp[rho,List.getD_eq_getElem?_getD,hb]
 refine⟨by simp;omega,List.nodup_range,fun b x hx=>.inr ⟨b,?_,?_⟩⟩
 ·have:b<k:=by have:=(k0t.1 hx).1;simp at this;omega
  simp[this]
 ·have hlt:b<k:=by have:=(k0t.1 hx).1;simp at this;omega
  rw[v8b hr x (z6z hb b x hx)]
  rw[List.getElem?_take_of_lt hlt]at hx
  exact hx
/-- The last blocks are forgotten,and all slots but some. -/
theorem z8u (k:Nat)(ks:List Nat)(hm:Nat.ble m k=true)(hk:Nat.ble k s.H.length=true)(hf:q7e k (q3s s.fr.l ks)=true)(hb:q4k k (s.H.take k)=true) :
 Wk m s ⟨⟨s.fr.n,q3s s.fr.l ks⟩,s.H.take k⟩:=by
 have hm:=Nat.le_of_ble_eq_true hm
 have hk:=Nat.le_of_ble_eq_true hk
 refine w1z (List.range k) (Sel.range s.H k hk hb) (fun b hb=>by rw[k2s (by omega)]) rfl (fun i u2 hu=>?_)
 obtain⟨h1,h2⟩:=y1g hf hu
 refine⟨u2,h1,.inr (.inl ?_)⟩
 rw[y1f (fun b hb=>by simp[rho,List.getD_eq_getElem?_getD,hb]) u2 h2]
theorem Sel.single {H:List ABlk}{b:Nat}{t:TypeId}{sz:Nat}{xs:List (List PV)}(hb:H[b]?=some (.row t sz xs)):Sel [b] H [.row t sz xs]:=by
 refine⟨rfl,by simp,fun c k hc=>.inr ?_⟩
 cases c with
 |zero=>simp at hc;subst hc;exact⟨b,rfl,hb⟩
 |succ c=>simp at hc
theorem W8 (t:TypeId)(sz:Nat):Wk m s ⟨s.fr,s.H++[.row t sz []]⟩:=fun N w I ι a hs hm=>by
 obtain⟨h1,h2⟩:=hs.H.phantom t sz
 exact⟨I,ι,hs.turn hs.fr h1 (h2.less hm),h2.less hm⟩
theorem q3u (i b sz off:Nat)(h:W4 s.fr.l i=some (.p (.raw (.slice none 0 0)))):Wk m s ⟨⟨s.fr.n,(i,.msl b sz off 0) :: s.fr.l⟩,s.H⟩:=fun N w I ι a hs hm=>by
 refine⟨I,ι,hs.turn ⟨hs.fr.1,fun j u hu=>?_⟩ hs.H (Ex.refl hm),Ex.refl hm⟩
 by_cases e:i=j
 ·subst e
  rw[U3]at hu;obtain rfl:=k0x hu
  rw[Y9 (hs.fr.2 i _ h)];exact .msl0 b sz off none
 ·rw[V4 _ _ e]at hu;exact hs.fr.2 j u hu
def LessC (u u2:AV):Prop:=u2=u∨u2=.top∨(∃ b sz off,u=.p (.raw (.slice none 0 0))∧u2=.msl b sz off 0)∨(∃ sz,u=.p (.raw (.slice none 0 0))∧u2=.p (.sl sz []))
theorem LessC.rep {w:World}{I:Nat→Prop}{ι:Nat→Option Nat}{u u2:AV}{v:Value}(h:LessC u u2)(hu:ARep w I ι u v):ARep w I ι u2 v:=by
 rcases h with rfl|rfl|⟨b,sz,off,rfl,rfl⟩|⟨sz,rfl,rfl⟩
 ·exact hu
 ·exact .top v
 ·rw[Y9 hu];exact .msl0 b sz off none
 ·rw[Y9 hu];exact .p (x3q sz)
def LessCL:List AV→List AV→Prop
 |[],[]=>True
 |u :: r,u2 :: r2=>LessC u u2∧LessCL r r2
 |_,_=>False
theorem LessCL.get:∀ {l l2:List AV},LessCL l l2→l2.length=l.length∧∀ (i:Nat) (u2:AV),l2[i]?=some u2→∃ u,l[i]?=some u∧LessC u u2
 |[],[],_=>⟨rfl,fun i u h=>by simp at h⟩
 |[],_ :: _,h=>h.elim
 |_ :: _,[],h=>h.elim
 |u :: r,u2 :: r2,h=>by
  obtain⟨h1,h2⟩:=LessCL.get h.2
  refine⟨by simp[h1],fun i x hx=>?_⟩
  cases i with
  |zero=>simp at hx;subst hx;exact⟨u,rfl,h.1⟩
  |succ i=>exact h2 i x (by simpa using hx)
theorem U2 (b:Nat){t:TypeId}{l:List AV}(l2:List AV)(hb:s.H[b]?=some (.cells t l))(hl:LessCL l l2):Wk m s ⟨s.fr,s.H.set b (.cells t l2)⟩:=fun N w I ι a hs hm=>by
 obtain⟨h1,h2⟩:=hl.get
 have hlive:live s.H b:=⟨_,hb,rfl⟩
 have hlv:∀ c,live (s.H.set b (.cells t l2)) c→live s.H c:=fun c hc=>q2k hc hlive
 have hsim:SimH w I ι (s.H.set b (.cells t l2)):=by
  refine⟨fun c k hc=>?_,fun c c' B hc hc'=>hs.H.inj c c' B (hlv c hc) (hlv c' hc'),hs.H.Ilt,fun c hc=>hs.H.dom c (by simpa using hc),hs.H.rng⟩
  by_cases e:c=b
  ·subst e
   rw[k2y (J6 hlive)]at hc
   obtain rfl:=k0x hc
   obtain⟨B,cs,g1,g2,g3,g4,g5⟩:=hs.H.blk c _ hb
   refine⟨B,cs,g1,g2,g3,by omega,fun i u2 hu=>?_⟩
   obtain⟨u,hu',hle⟩:=h2 i u2 hu
   exact hle.rep (g5 i u hu')
  ·rw[k3z (by omega)]at hc
   exact hs.H.blk c k hc
 have hx:Ex m w I ι s.H w I ι (s.H.set b (.cells t l2)):=⟨⟨rfl,rfl,rfl,k1v _,Shape.refl w,fun _ h=>h,fun _ _ _=>rfl,fun _ h=>.inl h,fun c B hc h=>.inr ⟨c,hlv c hc,h⟩⟩,fun _ _=>rfl,by simpa using hm⟩
 exact⟨I,ι,hs.turn hs.fr hsim hx,hx⟩
theorem q0a (i sz:Nat)(h:W4 s.fr.l i=some (.p (.raw (.slice none 0 0)))):Wk m s ⟨⟨s.fr.n,(i,.p (.sl sz [])) :: s.fr.l⟩,s.H⟩:=fun N w I ι a hs hm=>by
 refine⟨I,ι,hs.turn ⟨hs.fr.1,fun j u hu=>?_⟩ hs.H (Ex.refl hm),Ex.refl hm⟩
 by_cases e:i=j
 ·subst e
  rw[U3]at hu;obtain rfl:=k0x hu
  rw[Y9 (hs.fr.2 i _ h)];exact .p (x3q sz)
 ·rw[V4 _ _ e]at hu;exact hs.fr.2 j u hu
def LessP (u u2:PV):Prop:=u2=u∨∃ sz,u=.raw (.slice none 0 0)∧u2=.sl sz []
theorem LessP.rep {w:World}{I:Nat→Prop}{u u2:PV}{v:Value}(h:LessP u u2)(hu:PRep w I u v):PRep w I u2 v:=by
 rcases h with rfl|⟨sz,rfl,rfl⟩
 ·exact hu
 ·cases hu;exact x3q sz
theorem v3g (b:Nat){t:TypeId}{sz:Nat}{xs:List (List PV)}(xs2:List (List PV))(hb:s.H[b]?=some (.row t sz xs))(hn:xs2.length=xs.length)
 (hl:∀ (j:Nat) (e2:List PV),xs2[j]?=some e2→∃ e,xs[j]?=some e∧e2.length=e.length∧∀ (i:Nat) (u2:PV),e2[i]?=some u2→∃ u,e[i]?=some u∧LessP u u2):Wk m s ⟨s.fr,s.H.set b (.row t sz xs2)⟩:=fun N w I ι a hs hm=>by
 have hlive:live s.H b:=⟨_,hb,rfl⟩
 have hlv:∀ c,live (s.H.set b (.row t sz xs2)) c→live s.H c:=fun c hc=>q2k hc hlive
 have hsim:SimH w I ι (s.H.set b (.row t sz xs2)):=by
  refine⟨fun c k hc=>?_,fun c c' B hc hc'=>hs.H.inj c c' B (hlv c hc) (hlv c' hc'),hs.H.Ilt,fun c hc=>hs.H.dom c (by simpa using hc),hs.H.rng⟩
  by_cases e:c=b
  ·subst e
   rw[k2y (J6 hlive)]at hc
   obtain rfl:=k0x hc
   rcases hs.H.blk c _ hb with ⟨g1,g2⟩|⟨B,cs,g1,g2,g3,g4,g5,g6⟩
   ·subst g1
    exact .inl ⟨List.length_eq_zero_iff.1 (by simpa using hn),g2⟩
   ·refine .inr ⟨B,cs,g1,g2,g3,by rw[hn];exact g4,by rw[hn];exact g5,fun j e2 hj=>?_⟩
    obtain⟨e,he,hle,hu⟩:=hl j e2 hj
    obtain⟨q1,q2⟩:=g6 j e he
    refine⟨hle.trans q1,fun i u2 hu2=>?_⟩
    obtain⟨u,hu1,hlp⟩:=hu i u2 hu2
    exact hlp.rep (q2 i u hu1)
  ·rw[k3z (by omega)]at hc
   exact hs.H.blk c k hc
 have hx:Ex m w I ι s.H w I ι (s.H.set b (.row t sz xs2)):=⟨⟨rfl,rfl,rfl,k1v _,Shape.refl w,fun _ h=>h,fun _ _ _=>rfl,fun _ h=>.inl h,fun c B hc h=>.inr ⟨c,hlv c hc,h⟩⟩,fun _ _=>rfl,by simpa using hm⟩
 exact⟨I,ι,hs.turn hs.fr hsim hx,hx⟩
def u2n (b:Nat)(cs:List PV)(u u2:AV):Prop:=u2=u∨∃ o,u=.ref b o∧u2=.p (.box (cs.drop o))
theorem u1a (b:Nat){t:TypeId}{l:List AV}{cs:List PV}(hb:s.H[b]?=some (.cells t l))(hl:l=cs.map .p)(hH:s2.H=s.H.set b .dead)(hn:s2.fr.n=s.fr.n)
 (hfr:∀ (i:Nat) (u2:AV),W4 s2.fr.l i=some u2→∃ u,W4 s.fr.l i=some u∧u2n b cs u u2):Wk m s s2:=fun N w I ι a hs hm=>by
 have hlive:live s.H b:=⟨_,hb,rfl⟩
 obtain⟨k1,k2⟩:=hs.H.freeze b hlive
 obtain⟨B,vs,g1,g2,g3,g4,g5⟩:=hs.H.blk b _ hb
 rw[← hH]at k1 k2
 refine⟨_,ι,hs.turn ⟨by rw[hs.fr.1,hn],fun i u2 hu2=>?_⟩ k1 (k2.less hm),k2.less hm⟩
 obtain⟨u,hu,hz⟩:=hfr i u2 hu2
 have hu:=hs.fr.2 i u hu
 rcases hz with rfl|⟨o,rfl,rfl⟩
 ·exact hu.move (fun _ _=>rfl) (fun _ h=>.inl h) (fun _ _ h=>h) (Shape.refl w)
 ·generalize a.tmps.getD i undef=v at hu
  cases hu with
  |ref _ _ B' hB=>
   rw[g1]at hB;obtain rfl:=k0x hB
   refine .p (.box _ B o (fun i=>vs.getD (o+i) undef) (.inr g1) (fun i hi=>?_) (fun i u hu=>?_))
   ·rw[cell_of_row w B _ vs t (0,0) g2]
    simp at hi
    have:o+i<vs.size:=by rw[hl]at g4;simp at g4;omega
    simp[Array.getD_eq_getD_getElem?,this]
   ·rw[List.getElem?_drop]at hu
    have:=g5 (o+i) (.p u) (by rw[hl,k1z,hu];rfl)
    cases this with
    |p h=>exact h.move (fun _ _=>rfl) (fun _ h=>.inl h)
def v3h (b:Nat)(cs:List PV):List (Nat × AV)→List (Nat × AV)
 |[]=>[]
 |(i,u) :: r=>(i,match u with
  |.ref b' o=>match b'==b with
   |true=>.p (.box (cs.drop o))
   |false=>u
  |_=>u) :: v3h b cs r
theorem x6n {b:Nat}{cs:List PV}:∀ {l:List (Nat × AV)} {i:Nat} {u2:AV},W4 (v3h b cs l) i=some u2→∃ u,W4 l i=some u∧u2n b cs u u2
 |[],i,u2,h=>by simp[v3h,W4]at h
 |(j,u) :: r,i,u2,h=>by
  unfold v3h at h
  by_cases e:j=i
  ·subst e
   rw[U3]at h
   refine⟨u,U3 _ _ _,?_⟩
   obtain rfl:=k0x h
   split
   ·split
    ·rename_i hb;exact .inr ⟨_,by rw[eq_of_beq hb],rfl⟩
    ·exact .inl rfl
   ·exact .inl rfl
  ·rw[V4 _ _ e]at h ⊢
   exact x6n h
theorem Z4 (b:Nat){t:TypeId}{l:List AV}(cs:List PV)(hb:s.H[b]?=some (.cells t l))(hl:l=cs.map .p):Wk m s ⟨⟨s.fr.n,v3h b cs s.fr.l⟩,s.H.set b .dead⟩:=
 u1a b hb hl rfl rfl fun _ _ h=>x6n h
theorem y4c (i b:Nat){t:TypeId}{sz off len:Nat}{xs:List (List PV)}(hb:s.H[b]?=some (.row t sz xs))(hi:W4 s.fr.l i=some (.msl b sz off len))(hle:off+len≤xs.length) :
 Wk m s ⟨⟨s.fr.n,(i,.p (.sl sz ((xs.drop off).take len))) :: s.fr.l⟩,s.H.set b .dead⟩:=
 x0q b hb rfl rfl fun j u2 hu=>by
  by_cases e:i=j
  ·subst e;rw[U3]at hu;obtain rfl:=k0x hu
   exact⟨_,hi,.inr (.inl ⟨off,len,rfl,hle,rfl⟩)⟩
  ·rw[V4 _ _ e]at hu;exact⟨u2,hu,.inl rfl⟩
theorem q1h {f:FuncId}{args:List AV}{r:AV}{B:List ABlk}(h:AF P f args [] (Q9 r B))(H:List ABlk)(hargs:J0 0 args=true) :
 AF P f args H (Q9 (r.ren (H.length + ·)) (H++B.map (ABlk.ren (H.length + ·)))):=by
 have hr:q1g H.length []=(H.length + ·):=by funext b;simp[q1g]
 refine v3f [] h ⟨rfl,by simp,fun b k hb=>by simp at hb⟩ (by simp) (q2t (fun b hb=>absurd hb (by omega)) args hargs).symm ?_
 rintro r1 H1' ⟨rfl,rfl⟩
 refine⟨_,⟨by simp,fun j p k hj=>by simp at hj,fun b hb _=>by rw[List.getElem?_append_left hb],fun d k hd=>?_⟩,by rw[hr],rfl⟩
 rw[k1q (by omega),hr]
 simp at hd
 simp[hd]
theorem Q5 {f:FuncId}{args:List AV}{r:AV}(h:AF P f args [] (Q9 r []))(H:List ABlk)(hargs:J0 0 args=true)(hr:U1 0 r=true):AF P f args H (Q9 r H):=by
 have:=q1h h H hargs
 rw[y1f (fun b hb=>absurd hb (by omega)) r hr]at this
 simpa using this
theorem z3q {f:FuncId}{args:List AV}{t:TypeId}{sz n:Nat}{xs:List (List PV)}(h:AF P f args [] (Q9 (.msl 0 sz 0 n) [.row t sz xs]))(hn:n=xs.length):AF P f args [] (Q9 (.p (.sl sz xs)) []):=by
 refine z5f h ?_
 rintro _ _ ⟨rfl,rfl⟩
 refine⟨_,_,?_,rfl,rfl⟩
 refine Wk.trans (y4c 0 0 (t:=t) (sz:=sz) (xs:=xs) rfl rfl (by omega)) (Wk.trans (z8u 0 [0] rfl rfl rfl rfl) ?_)
 subst hn
 simp only[List.drop_zero,List.take_length]
 exact Wk.refl _ _
end
def inv:List Nat→Nat→Nat
 |[],_=>0
 |p :: r,b=>match Nat.beq p b with
  |true=>0
  |false=>inv r b+1
def z2q (n:Nat):List Nat→Bool
 |[]=>true
 |p :: r=>Nat.blt p n&&z2q n r
def z8v:Nat→Nat→List Nat→Bool
 |0,_,_=>true
 |_+1,_,[]=>false
 |m+1,k,p :: r=>Nat.beq p k&&z8v m (k+1) r
theorem z5g:∀ {ps:List Nat} {b:Nat},z2z ps b=true→ps[inv ps b]?=some b
 |[],b,h=>by simp[z2z]at h
 |p :: r,b,h=>by
  unfold inv;unfold z2z at h
  cases e:Nat.beq p b with
  |true=>rw[Nat.eq_of_beq_eq_true e];rfl
  |false=>rw[e]at h;simpa using z5g h
theorem z3r {n:Nat}:∀ {ps:List Nat},z2q n ps=true→∀ p∈ps,p<n
 |[],_,p,hp=>by simp at hp
 |q :: r,h,p,hp=>by
  simp only[z2q,Bool.and_eq_true,Nat.blt_eq]at h
  rcases List.mem_cons.1 hp with rfl|hp
  ·exact h.1
  ·exact z3r h.2 p hp
theorem z5h:∀ {m k:Nat} {ps:List Nat},z8v m k ps=true→∀ b:Nat,b<m→ps[b]?=some (k+b)
 |0,_,_,_,b,hb=>absurd hb (by omega)
 |m+1,k,[],h,b,hb=>by simp[z8v]at h
 |m+1,k,p :: r,h,b,hb=>by
  simp only[z8v,Bool.and_eq_true]at h
  cases b with
  |zero=>simp[Nat.eq_of_beq_eq_true h.1]
  |succ b=>rw[List.getElem?_cons_succ,z5h h.2 b (by omega)];congr 1;omega
mutual
def inB (ps:List Nat):AV→Bool
 |.p _=>true
 |.agg l=>inL ps l
 |.tup l=>inL ps l
 |.ref b _=>z2z ps b
 |.msl b _ _ _=>z2z ps b
 |.elr b _ _ _=>z2z ps b
 |.clo _ l=>inL ps l
 |.mth _ l=>inL ps l
 |.yld b=>z2z ps b
 |.mp b=>z2z ps b
 |.top=>true
def inL (ps:List Nat):List AV→Bool
 |[]=>true
 |u :: r=>inB ps u&&inL ps r
end
mutual
theorem y5t {n:Nat}{ps:List Nat}:∀ u:AV,inB ps u=true→(u.ren (inv ps)).ren (rho n ps)=u
 |.p _,_=>rfl
 |.agg l,h=>by rw[AV.ren,AV.ren,q2e l h]
 |.tup l,h=>by rw[AV.ren,AV.ren,q2e l h]
 |.ref b o,h=>by rw[AV.ren,AV.ren,rho,k0v,z5g h];rfl
 |.msl b s o k,h=>by rw[AV.ren,AV.ren,rho,k0v,z5g h];rfl
 |.elr b s i o,h=>by rw[AV.ren,AV.ren,rho,k0v,z5g h];rfl
 |.clo f l,h=>by rw[AV.ren,AV.ren,q2e l h]
 |.mth f l,h=>by rw[AV.ren,AV.ren,q2e l h]
 |.yld b,h=>by rw[AV.ren,AV.ren,rho,k0v,z5g h];rfl
 |.mp b,h=>by rw[AV.ren,AV.ren,rho,k0v,z5g h];rfl
 |.top,_=>rfl
theorem q2e {n:Nat}{ps:List Nat}:∀ l:List AV,inL ps l=true→q3c (rho n ps) (q3c (inv ps) l)=l
 |[],_=>rfl
 |u :: r,h=>by
  simp only[inL,Bool.and_eq_true]at h
  rw[q3c,q3c,y5t u h.1,q2e r h.2]
end
def inK (ps:List Nat):ABlk→Bool
 |.cells _ l=>inL ps l
 |.lp _ _ _ l=>inL ps l
 |_=>true
def q8y (H:List ABlk)(qs:List Nat):List Nat→List ABlk
 |[]=>[]
 |p :: r=>(H.getD p .dead).ren (inv qs) :: q8y H qs r
def z1i (H:List ABlk)(qs:List Nat):List Nat→Bool
 |[]=>true
 |p :: r=>inK qs (H.getD p .dead)&&z1i H qs r
def q1v (l:List (Nat × AV))(qs:List Nat):List Nat→List (Nat × AV)
 |[]=>[]
 |t :: ks=>match W4 l t with
  |some u=>(t,u.ren (inv qs)) :: q1v l qs ks
  |none=>q1v l qs ks
def q8z (l:List (Nat × AV))(qs:List Nat):List Nat→Bool
 |[]=>true
 |t :: ks=>match W4 l t with
  |some u=>inB qs u&&q8z l qs ks
  |none=>q8z l qs ks
theorem z5i {H:List ABlk}{qs:List Nat}:∀ ps:List Nat,(q8y H qs ps).length=ps.length
 |[]=>rfl
 |p :: r=>by simp[q8y,z5i r]
theorem z5j {H:List ABlk}{qs:List Nat}{n:Nat}:∀ {ps:List Nat},z1i H qs ps=true→∀ (b:Nat) (k:ABlk),(q8y H qs ps)[b]?=some k→∃ p:Nat,ps[b]?=some p∧H.getD p .dead=k.ren (rho n qs)
 |[],_,b,k,hb=>by simp[q8y]at hb
 |p :: r,h,b,k,hb=>by
  simp only[z1i,Bool.and_eq_true]at h
  cases b with
  |zero=>
   simp only[q8y,List.getElem?_cons_zero,Option.some.injEq]at hb
   refine⟨p,rfl,?_⟩
   subst hb
   generalize H.getD p .dead=k at h
   cases k with
   |cells t l=>simp only[ABlk.ren];rw[q2e l h.1]
   |lp q st pe l=>simp only[ABlk.ren];rw[q2e l h.1]
   |_=>rfl
  |succ b=>
   obtain⟨p',h1,h2⟩:=z5j (n:=n) h.2 b k (by simpa [q8y] using hb)
   exact⟨p',by simpa using h1,h2⟩
theorem z0d {l:List (Nat × AV)}{qs:List Nat}{n:Nat}:∀ {ks:List Nat},q8z l qs ks=true→∀ (i:Nat) (u2:AV),W4 (q1v l qs ks) i=some u2→∃ u,W4 l i=some u∧u=u2.ren (rho n qs)
 |[],_,i,u2,h=>by simp[q1v,W4]at h
 |t :: ks,hk,i,u2,h=>by
  simp only[q1v]at h
  simp only[q8z]at hk
  cases hl:W4 l t with
  |none=>rw[hl]at hk h;exact z0d hk i u2 h
  |some x=>
   rw[hl]at hk h
   simp only[Bool.and_eq_true]at hk
   by_cases e:t=i
   ·subst e
    rw[U3]at h;obtain rfl:=k0x h
    exact⟨x,hl,(y5t x hk.1).symm⟩
   ·rw[V4 _ _ e]at h;exact z0d hk.2 i u2 h
section
variable {P:Program} {T:J1} {m:Nat} {s s2:St} {Q:Exit→St→Prop}
theorem z8 (ps ks:List Nat)(h:(z8v m 0 ps&&q4i ps&&z2q s.H.length ps&&z1i s.H ps ps&&q8z s.fr.l ps ks)=true) :
 Wk m s ⟨⟨s.fr.n,q1v s.fr.l ps ks⟩,q8y s.H ps ps⟩:=by
 simp only[Bool.and_eq_true]at h
 obtain⟨⟨⟨⟨h1,h2⟩,h3⟩,h4⟩,h5⟩:=h
 refine w1z ps ⟨z5i ps,q6q h2,fun b k hb=>.inr ?_⟩ (fun b hb=>by rw[z5h h1 b hb];congr 1;omega) rfl (fun i u2 hu=>?_)
 ·obtain⟨p,hp,hk⟩:=z5j (n:=s.H.length) h4 b k hb
  refine⟨p,hp,?_⟩
  have hlt:=z3r h3 p (k2x hp)
  rw[← hk,k0v,k0w hlt];rfl
 ·obtain⟨u,hu1,hu2⟩:=z0d (n:=s.H.length) h5 i u2 hu
  exact⟨u,hu1,.inr (.inl hu2)⟩
theorem x8 {u:AV}{H:List ABlk}{R:AV→List ABlk→Prop}{m:Nat}(ps:List Nat)(h:R (u.ren (inv ps)) (q8y H ps ps))(hok:(z8v m 0 ps&&q4i ps&&z2q H.length ps&&z1i H ps ps&&inB ps u)=true) :
 ∃ u2 H2,Wk m ⟨⟨1,[(0,u)]⟩,H⟩ ⟨⟨1,[(0,u2)]⟩,H2⟩∧R u2 H2:=by
 refine⟨_,_,z8 (s:=⟨⟨1,[(0,u)]⟩,H⟩) ps [0] ?_,h⟩
 simpa [q8z,W4] using hok
theorem x3r {H:List ABlk}{R:AV→List ABlk→Prop}(t:TypeId)(sz:Nat)(h:R (.msl 0 sz 0 0) [.row t sz []]) :
 ∃ u2 H2,Wk 0 ⟨⟨1,[(0,.p (.raw (.slice none 0 0)))]⟩,H⟩ ⟨⟨1,[(0,u2)]⟩,H2⟩∧R u2 H2:=by
 refine⟨_,_,Wk.trans (z8u 0 [0] rfl (by simp) rfl (by simp[q4k])) (Wk.trans (W8 t sz) (Wk.trans (q3u 0 0 sz 0 rfl) (z8 [0] [0] rfl))),h⟩
end
end Go.Proofs.YtkjklhcfgbaceaaGreat.AL
namespace Go.Proofs.YtkjklhcfgbaceaaGreat.AL
open Go Go.RowKit
mutual
def z3s:AV→Bool
 |.p (.raw _)=>true
 |.p _=>false
 |.agg l=>z6j l
 |.tup l=>z6j l
 |.clo _ l=>z6j l
 |.mth _ l=>z6j l
 |_=>true
def z6j:List AV→Bool
 |[]=>true
 |u :: r=>z3s u&&z6j r
end
def u2p:PV→Prop
 |.raw _=>True
 |_=>False
def u2q:ABlk→Prop
 |.dead=>True
 |.cells _ l=>z6j l=true
 |.row _ _ xs=>∀ e∈xs,∀ u∈e,u2p u
 |.obj _=>True
 |.lp _ _ _ l=>z6j l=true
def v3i (H:List ABlk):Prop:=∀ k∈H,u2q k
theorem w5m {w:World}{I I':Nat→Prop}{u:PV}{v:Value}(h:PRep w I u v)(hu:u2p u):PRep w I' u v:=by
 cases h with
 |raw v h1=>exact .raw v h1
 |sl=>exact hu.elim
 |box=>exact hu.elim
theorem q6a:∀ {l:List AV} {i:Nat} {u:AV},z6j l=true→l[i]?=some u→z3s u=true
 |[],i,u,_,h=>by simp at h
 |x :: r,0,u,hl,h=>by simp only[z6j,Bool.and_eq_true]at hl;simp at h;subst h;exact hl.1
 |x :: r,i+1,u,hl,h=>by simp only[z6j,Bool.and_eq_true]at hl;exact q6a hl.2 (by simpa using h)
theorem y5u {w:World}{I I':Nat→Prop}{ι:Nat→Option Nat}{u:AV}{v:Value}(h:ARep w I ι u v)(hu:z3s u=true):ARep w I' ι u v:=by
 induction h with
 |@p x v h=>
  cases x with
  |raw y=>exact .p (w5m h trivial)
  |sl _ _=>simp[z3s]at hu
  |box _=>simp[z3s]at hu
 |top v=>exact .top v
 |agg l vs hn _ ih=>exact .agg l vs hn fun i u hi=>ih i u hi (q6a (by simpa [z3s] using hu) hi)
 |tup l vs hn _ ih=>exact .tup l vs hn fun i u hi=>ih i u hi (q6a (by simpa [z3s] using hu) hi)
 |ref b off B h=>exact .ref b off B h
 |msl b sz off len B c h hc hs=>exact .msl b sz off len B c h hc hs
 |msl0 b sz off A=>exact .msl0 b sz off A
 |elr b sz i off B h=>exact .elr b sz i off B h
 |clo fn caps vs hn _ ih=>exact .clo fn caps vs hn fun i u hi=>ih i u hi (q6a (by simpa [z3s] using hu) hi)
 |mth fn caps vs hn _ ih=>exact .mth fn caps vs hn fun i u hi=>ih i u hi (q6a (by simpa [z3s] using hu) hi)
 |yld b B h=>exact .yld b B h
 |mp b B h=>exact .mp b B h
theorem q8a {n:Nat}:∀ {l:List AV} {i:Nat} {u:AV},J0 n l=true→l[i]?=some u→U1 n u=true
 |[],i,u,_,h=>by simp at h
 |x :: r,0,u,hl,h=>by simp only[J0,Bool.and_eq_true]at hl;simp at h;subst h;exact hl.1
 |x :: r,i+1,u,hl,h=>by simp only[J0,Bool.and_eq_true]at hl;exact q8a hl.2 (by simpa using h)
theorem w7r {w:World}{I:Nat→Prop}{ι ι':Nat→Option Nat}{u:AV}{v:Value}(h:ARep w I ι u v)(hu:U1 0 u=true):ARep w I ι' u v:=by
 induction h with
 |p h=>exact .p h
 |top v=>exact .top v
 |agg l vs hn _ ih=>exact .agg l vs hn fun i u hi=>ih i u hi (q8a (by simpa [U1] using hu) hi)
 |tup l vs hn _ ih=>exact .tup l vs hn fun i u hi=>ih i u hi (q8a (by simpa [U1] using hu) hi)
 |ref b off B h=>simp[U1,Nat.blt_eq]at hu
 |msl b sz off len B c h hc hs=>simp[U1,Nat.blt_eq]at hu
 |msl0 b sz off A=>exact .msl0 b sz off A
 |elr b sz i off B h=>simp[U1,Nat.blt_eq]at hu
 |clo fn caps vs hn _ ih=>exact .clo fn caps vs hn fun i u hi=>ih i u hi (q8a (by simpa [U1] using hu) hi)
 |mth fn caps vs hn _ ih=>exact .mth fn caps vs hn fun i u hi=>ih i u hi (q8a (by simpa [U1] using hu) hi)
 |yld b B h=>simp[U1,Nat.blt_eq]at hu
 |mp b B h=>simp[U1,Nat.blt_eq]at hu
def u2r (sz:Nat)(xs:List (List PV))(u u1:AV):Prop:=(u1=u∧U1 0 u=true)∨∃ off len,u=.msl 0 sz off len∧off+len≤xs.length∧u1=.p (.sl sz ((xs.drop off).take len))
theorem v8c {P:Program}{f:FuncId}{args args1:List AV}{t:TypeId}{sz:Nat}{xs:List (List PV)}{R:AV→List ABlk→Prop}(h:AF P f args1 [] R)(hlen:args.length=args1.length)
 (hargs:∀ (i:Nat) (u1:AV),args1[i]?=some u1→∃ u,args[i]?=some u∧u2r sz xs u u1) (hflat:∀ r H',R r H'→z3s r=true∧v3i H') :
 AF P f args [.row t sz xs] (fun r H'=>∃ r1 H1,R r1 H1∧r=r1.ren (1 + ·)∧H'=.row t sz xs :: H1.map (ABlk.ren (1 + ·))):=by
 refine⟨h.1,fun w I ι vals hn ha hs=>?_⟩
 have hlive:live [ABlk.row t sz xs] 0:=⟨_,rfl,rfl⟩
 have hblk:=hs.blk 0 _ rfl
 have hlt0:∀ b,live [ABlk.row t sz xs] b→b=0:=fun b hb=>by have:=J6 hb;simp at this;exact this
 have hs1:SimH w (fun C=>I C∨ι 0=some C) (fun _=>none) []:=⟨fun b k hb=>by simp at hb,fun b b' B hb=>by obtain⟨k,hk,_⟩:=hb;simp at hk,fun C hC=>by
  rcases hC with hC|hC
  ·exact hs.Ilt C hC
  ·exact hs.rng 0 C hC,fun _ _=>rfl,fun b B hb=>by simp at hb⟩
 refine(h.2 w _ _ vals (by omega) (fun i u1 hu1=>?_) hs1).mono ?_
 ·obtain⟨u,hu,hl⟩:=hargs i u1 hu1
  have hr:=ha i u hu
  rcases hl with ⟨rfl,hb⟩|⟨off,len,rfl,hle,rfl⟩
  ·have:ARep w (fun C=>I C∨ι 0=some C) ι u1 (vals.getD i undef):=hr.move (fun _ _=>rfl) (fun _ h=>.inl h) (fun _ _ h=>h) (Shape.refl w)
   exact w7r this hb
  ·generalize vals.getD i undef=v at hr
   cases hr with
   |msl _ _ _ _ B c hB hc hsz=>
    rcases hblk with ⟨_,g1⟩|⟨B',cs,g1,g2,g3,g4,gl,g6⟩
    ·rw[g1]at hB;exact absurd hB (by simp)
    ·rw[g1]at hB;obtain rfl:=k0x hB
     exact .p (x3g (fun _ h=>.inl h) (.inr g1) g2 g4 gl g6 hle hc)
   |msl0 _ _ _ A=>
    have:=PRep.sl (w:=w) (I:=fun C=>I C∨ι 0=some C) sz [] A 0 (fun _ _=>undef) (by simp) (by simp) (.inl rfl) (fun j e i u h=>by simp at h)
    simp only[List.take_zero]
    exact .p this
 ·rintro e w' ⟨v,r1,H1,I',ι1,he,h1,h2,h3,h4⟩
  obtain⟨hf1,hf2⟩:=hflat r1 H1 h1
  have x:=h4.ext
  have hnol:∀ b,¬ live ([]:List ABlk) b:=fun b hb=>by obtain⟨k,hk,_⟩:=hb;simp at hk
  have hframe:∀ B,B<w.heap.size→w'.heap[B]?=w.heap[B]?:=fun B hB=>x.frame B hB fun⟨b,hb,_⟩=>hnol b hb
  have hown:∀ b B,live H1 b→ι1 b=some B→w.heap.size≤B:=fun b B hb hB=>by
   rcases x.own b B hb hB with h|⟨b0,h0,_⟩
   ·exact h
   ·exact absurd h0 (hnol b0)
  have hInew:∀ B,I' B→(I B∨ι 0=some B)∨w.heap.size≤B:=fun B hB=>by
   rcases x.Inew B hB with h|h|⟨b,hb,_⟩
   ·exact .inl h
   ·exact .inr h
   ·exact absurd hb (hnol b)
  let ι':Nat→Option Nat:=fun b=>if b=0 then ι 0 else ι1 (b - 1)
  let I3:Nat→Prop:=fun C=>I' C∧ι 0≠some C
  have hIsub:∀ C,I C→I3 C:=fun C hC=>⟨x.Isub C (.inl hC),fun hC'=>hs.notI hlive hC' hC⟩
  have hι1:ι1=fun b=>ι' (1+b):=by
   funext b
   simp only[ι']
   rw[if_neg (by omega)];congr 1;omega
  have hsz:=x.size
  have hrow:z8i w' I3 ι' 0 (.row t sz xs):=by
   rcases hblk with ⟨g1,g2⟩|⟨B,cs,g1,g2,g3,g4,g5,g6⟩
   ·exact .inl ⟨g1,g2⟩
   ·refine .inr ⟨B,cs,g1,by rw[hframe B (hs.rng 0 B g1)];exact g2,fun hc=>hc.2 g1,g4,g5,fun j e hj=>⟨(g6 j e hj).1,fun i u hu=>((g6 j e hj).2 i u hu).move (fun C hC=>hframe C (hs.Ilt C hC)) hIsub⟩⟩
  have hb1:∀ b k,H1[b]?=some k→z8i w' I3 ι' (1+b) (k.ren (1 + ·)):=fun b k hk=>by
   have h0:=h3.blk b k hk
   have hfk:=hf2 k (k2x hk)
   have e1:ι' (1+b)=ι1 b:=by rw[hι1]
   cases k with
   |dead=>trivial
   |cells t l=>
    obtain⟨B,cs,g1,g2,g3,g4,g5⟩:=h0
    refine⟨B,cs,by rw[e1];exact g1,g2,fun hc=>g3 hc.1,by rw[X7];simpa using g4,fun i u hu=>?_⟩
    rw[X7,k1z,Option.map_eq_some_iff]at hu
    obtain⟨y,hy,rfl⟩:=hu
    have:=y5u (I':=I3) (g5 i y hy) (q6a hfk hy)
    rw[hι1]at this
    exact this.ren_of
   |lp q st pe l=>
    obtain⟨B,cs,g1,g2,g3,g4,g5⟩:=h0
    refine⟨B,cs,by rw[e1];exact g1,g2,fun hc=>g3 hc.1,by rw[X7];simpa using g4,fun i u hu=>?_⟩
    rw[X7,k1z,Option.map_eq_some_iff]at hu
    obtain⟨y,hy,rfl⟩:=hu
    have:=y5u (I':=I3) (g5 i y hy) (q6a hfk hy)
    rw[hι1]at this
    exact this.ren_of
   |row t sz xs=>
    rcases h0 with ⟨g1,g2⟩|⟨B,cs,g1,g2,g3,g4,g5,g6⟩
    ·exact .inl ⟨g1,by rw[e1];exact g2⟩
    ·exact .inr ⟨B,cs,by rw[e1];exact g1,g2,fun hc=>g3 hc.1,g4,g5,fun j e hj=>⟨(g6 j e hj).1,fun i u hu=>w5m ((g6 j e hj).2 i u hu) (hfk e (k2x hj) u (k2x hu))⟩⟩
   |obj o=>
    obtain⟨g0,B,g1,g2,g3⟩:=h0
    exact⟨g0,B,by rw[e1];exact g1,g2,fun hc=>g3 hc.1⟩
  have hlive1:∀ b,live H1 b∨¬ live H1 b:=fun b=>Classical.em _
  have hget:∀ b,(ABlk.row t sz xs :: H1.map (ABlk.ren (1 + ·)))[1+b]?=(H1[b]?).map (ABlk.ren (1 + ·)):=fun b=>by
   rw[Nat.add_comm,List.getElem?_cons_succ,k1z]
  have hlv:∀ b,live (ABlk.row t sz xs :: H1.map (ABlk.ren (1 + ·))) (1+b)→live H1 b:=fun b hb=>by
   obtain⟨k,hk,hl⟩:=hb
   rw[hget,Option.map_eq_some_iff]at hk
   obtain⟨k1,hk1,rfl⟩:=hk
   exact⟨k1,hk1,by cases k1 <;> first|exact hl|rfl⟩
  refine⟨v,_,_,I3,ι',he,⟨r1,H1,h1,rfl,rfl⟩,?_,⟨fun b k hk=>?_,fun b b' B hb hb' e1 e2=>?_,fun B hB=>h3.Ilt B hB.1,fun b hb=>?_,fun b B hb=>?_⟩,⟨⟨x.os,x.tape,x.output,x.size,x.shape,hIsub,fun C hC _=>hframe C hC,fun C hC=>?_,fun b B hb hB=>?_⟩,fun b hb=>?_,by simp⟩⟩
  ·have:=y5u (I':=I3) h2 hf1
   rw[hι1]at this
   exact this.ren_of
  ·rcases Nat.eq_zero_or_pos b with rfl|hpos
   ·simp at hk;subst hk;exact hrow
   ·obtain⟨d,rfl⟩:∃ d,b=1+d:=⟨b - 1,by omega⟩
    rw[hget,Option.map_eq_some_iff]at hk
    obtain⟨k1,hk1,rfl⟩:=hk
    exact hb1 d k1 hk1
  ·have hz:∀ B,ι' 0=some B→B<w.heap.size:=fun B hB=>hs.rng 0 B hB
   have hp:∀ d B,live (ABlk.row t sz xs :: H1.map (ABlk.ren (1 + ·))) (1+d)→ι' (1+d)=some B→w.heap.size≤B:=fun d B hd hB=>by
    rw[← congrFun hι1 d]at hB
    exact hown d B (hlv d hd) hB
   rcases Nat.eq_zero_or_pos b with rfl|hpos <;> rcases Nat.eq_zero_or_pos b' with rfl|hpos'
   ·rfl
   ·obtain⟨d,rfl⟩:∃ d,b'=1+d:=⟨b' - 1,by omega⟩
    have h1:=hz B e1;have h2:=hp d B hb' e2;omega
   ·obtain⟨d,rfl⟩:∃ d,b=1+d:=⟨b - 1,by omega⟩
    have h1:=hz B e2;have h2:=hp d B hb e1;omega
   ·obtain⟨d,rfl⟩:∃ d,b=1+d:=⟨b - 1,by omega⟩
    obtain⟨d',rfl⟩:∃ d,b'=1+d:=⟨b' - 1,by omega⟩
    rw[← congrFun hι1 d]at e1
    rw[← congrFun hι1 d']at e2
    rw[h3.inj d d' B (hlv d hb) (hlv d' hb') e1 e2]
  ·have hb:1+H1.length≤b:=by simpa [Nat.add_comm] using hb
   simp only[ι'];rw[if_neg (by omega)]
   exact h3.dom _ (by omega)
  ·simp only[ι']at hb
   split at hb
   ·have:=hs.rng 0 B hb;omega
   ·exact h3.rng _ B hb
  ·rcases hInew C hC.1 with (h|h)|h
   ·exact .inl h
   ·exact absurd h hC.2
   ·exact .inr (.inl h)
  ·rcases Nat.eq_zero_or_pos b with rfl|hpos
   ·exact .inr ⟨0,hlive,hB⟩
   ·obtain⟨d,rfl⟩:∃ d,b=1+d:=⟨b - 1,by omega⟩
    rw[← congrFun hι1 d]at hB
    exact .inl (hown d B (hlv d hb) hB)
  ·have:b=0:=by simp at hb;exact hb
   subst this;rfl
mutual
theorem x6p (ρ ρ':Nat→Nat):∀ u:AV,(u.ren ρ).ren ρ'=u.ren (fun b=>ρ' (ρ b))
 |.p _=>rfl
 |.agg l=>by rw[AV.ren,AV.ren,AV.ren,q3m ρ ρ' l]
 |.tup l=>by rw[AV.ren,AV.ren,AV.ren,q3m ρ ρ' l]
 |.ref b o=>rfl
 |.msl b s o k=>rfl
 |.elr b s i o=>rfl
 |.clo f l=>by rw[AV.ren,AV.ren,AV.ren,q3m ρ ρ' l]
 |.mth f l=>by rw[AV.ren,AV.ren,AV.ren,q3m ρ ρ' l]
 |.yld b=>rfl
 |.mp b=>rfl
 |.top=>rfl
theorem q3m (ρ ρ':Nat→Nat):∀ l:List AV,q3c ρ' (q3c ρ l)=q3c (fun b=>ρ' (ρ b)) l
 |[]=>rfl
 |u :: r=>by rw[q3c,q3c,q3c,x6p ρ ρ' u,q3m ρ ρ' r]
end
theorem w7s (ρ ρ':Nat→Nat)(k:ABlk):(k.ren ρ).ren ρ'=k.ren (fun b=>ρ' (ρ b)):=by
 cases k with
 |cells t l=>rw[ABlk.ren,ABlk.ren,ABlk.ren,q3m]
 |lp q st pe l=>rw[ABlk.ren,ABlk.ren,ABlk.ren,q3m]
 |_=>rfl
def LendL (b sz:Nat)(xs:List (List PV)):List AV→List AV→Prop
 |[],[]=>True
 |u :: r,u1 :: r1=>((u1=u∧U1 0 u=true)∨(u=.msl b sz 0 xs.length∧u1=.p (.sl sz xs))∨∃ off len,u=.msl b sz off len∧off+len≤xs.length∧u1=.p (.sl sz ((xs.drop off).take len)))∧LendL b sz xs r r1
 |_,_=>False
theorem LendL.zero {b sz:Nat}{xs:List (List PV)}:∀ {l l1:List AV},LendL b sz xs l l1→LendL 0 sz xs (q3c (fun _=>0) l) l1∧l=q3c (fun _=>b) (q3c (fun _=>0) l)
 |[],[],_=>⟨trivial,rfl⟩
 |[],_ :: _,h=>h.elim
 |_ :: _,[],h=>h.elim
 |u :: r,u1 :: r1,h=>by
  obtain⟨h1,h2⟩:=h
  obtain⟨k1,k2⟩:=LendL.zero h2
  refine⟨⟨?_,k1⟩,?_⟩
  ·rcases h1 with ⟨rfl,hb⟩|⟨rfl,rfl⟩|⟨off,len,rfl,hle,rfl⟩
   ·have:=y1f (ρ:=fun _=>0) (fun b hb=>absurd hb (by omega)) u1 hb
    exact .inl ⟨this.symm,by rw[this];exact hb⟩
   ·exact .inr (.inl ⟨rfl,rfl⟩)
   ·exact .inr (.inr ⟨off,len,rfl,hle,rfl⟩)
  ·rw[q3c,q3c]
   congr 1
   ·rcases h1 with ⟨rfl,hb⟩|⟨rfl,rfl⟩|⟨off,len,rfl,hle,rfl⟩
    ·rw[y1f (ρ:=fun _=>0) (fun b hb=>absurd hb (by omega)) u1 hb,y1f (ρ:=fun _=>b) (fun b hb=>absurd hb (by omega)) u1 hb]
    ·rfl
    ·rfl
theorem LendL.get {sz:Nat}{xs:List (List PV)}:∀ {l l1:List AV},LendL 0 sz xs l l1→l.length=l1.length∧∀ (i:Nat) (u1:AV),l1[i]?=some u1→∃ u,l[i]?=some u∧u2r sz xs u u1
 |[],[],_=>⟨rfl,fun i u1 h=>by simp at h⟩
 |[],_ :: _,h=>h.elim
 |_ :: _,[],h=>h.elim
 |u :: r,u1 :: r1,h=>by
  obtain⟨h1,h2⟩:=h
  obtain⟨k1,k2⟩:=LendL.get h2
  refine⟨by simp[k1],fun i v hv=>?_⟩
  cases i with
  |zero=>
   simp at hv;subst hv
   refine⟨u,rfl,?_⟩
   rcases h1 with h|⟨rfl,rfl⟩|h
   ·exact .inl h
   ·exact .inr ⟨0,xs.length,rfl,by omega,by simp⟩
   ·exact .inr h
  |succ i=>exact k2 i v (by simpa using hv)
theorem z5k {P:Program}{f:FuncId}{args args1:List AV}{r:AV}{B H:List ABlk}(h:AF P f args1 [] (Q9 r B))(b:Nat){t:TypeId}{sz:Nat}{xs:List (List PV)}(hb:H[b]?=some (.row t sz xs))(hargs:LendL b sz xs args args1)
 (hf1:z3s r=true) (hf2:v3i B):AF P f args H (Q9 (r.ren (H.length + ·)) (H++B.map (ABlk.ren (H.length + ·)))):=by
 obtain⟨k1,k2⟩:=hargs.zero
 obtain⟨k3,k4⟩:=k1.get
 have hlt:b<H.length:=(k0t.1 hb).1
 have h1:=v8c (t:=t) (sz:=sz) (xs:=xs) h k3 k4 (by rintro _ _ ⟨rfl,rfl⟩;exact⟨hf1,hf2⟩)
 have hrho:q1g H.length [b] 0=b:=rfl
 have hrho':(fun c=>q1g H.length [b] (1+c))=(H.length + ·):=by
  funext c
  unfold q1g
  rw[if_neg (by simp)];simp
 refine v3f [b] h1 (Sel.single hb) (by simpa using hlt) ?_ ?_
 ·refine k2.trans ?_
  rw[q3m,q3m];rfl
 ·rintro _ _ ⟨r1,H1,⟨rfl,rfl⟩,rfl,rfl⟩
  refine⟨H++H1.map (ABlk.ren (H.length + ·)),⟨by simp,fun j p k hj hk=>?_,fun c hc _=>by rw[List.getElem?_append_left hc],fun d k hd=>?_⟩,?_,rfl⟩
  ·cases j with
   |zero=>
    simp at hj hk;subst hj;subst hk
    rw[k0s hlt,hb];rfl
   |succ j=>simp at hj
  ·rw[k1q (by omega)]
   simp only[List.length_cons,List.length_nil,Nat.zero_add]at hd
   rw[Nat.add_comm,List.getElem?_cons_succ,k1z,Option.map_eq_some_iff]at hd
   obtain⟨k1,hk1,rfl⟩:=hd
   rw[w7s,hrho',show H.length+d - H.length=d by omega,k1z,hk1];rfl
  ·rw[x6p,hrho']
theorem u0 {P:Program}{ro:Option Nat}{m:Nat}{x y:Code}{s:St}{Q:Exit→St→Prop}(s1:St)(C:Prop)(h1:AW P ro m x s (z8j (fun s'=>Wk m s' s1∧C) Q))(h2:C→AW P ro m y s1 Q):AW P ro m (.seq x y) s Q:=
 u6 (h1.mono fun e s h=>by
  cases e with
  |normal=>exact Z3 h.1 (h2 h.2)
  |_=>exact h)
theorem Q4 {P:Program}{ro:Option Nat}{m:Nat}{x y:Code}{s:St}{Q:Exit→St→Prop}(J:St→Prop)(h1:AW P ro m x s (z8j (fun s'=>∃ s1,Wk m s' s1∧J s1) Q))(h2:∀ s1,J s1→AW P ro m y s1 Q):AW P ro m (.seq x y) s Q:=
 u6 (h1.mono fun e s h=>by
  cases e with
  |normal=>obtain⟨s1,h3,h4⟩:=h;exact Z3 h3 (h2 s1 h4)
  |_=>exact h)
theorem y4d {P:Program}{f:FuncId}{args:List AV}{t:TypeId}{sz n:Nat}{xs:List (List PV)}{v:AV}(h:AF P f args [] (Q9 (.tup [.msl 0 sz 0 n,v]) [.row t sz xs]))(hn:n=xs.length)(hv:U1 0 v=true):AF P f args [] (Q9 (.tup [.p (.sl sz xs),v]) []):=by
 refine z5f h ?_
 rintro _ _ ⟨rfl,rfl⟩
 refine⟨_,_,?_,rfl,rfl⟩
 subst hn
 refine Wk.trans (x0q (s2:=⟨⟨1,[(0,.tup [.p (.sl sz xs),v])]⟩,[.dead]⟩) 0 (t:=t) (sz:=sz) (xs:=xs) rfl rfl rfl (fun i u2 hu=>?_)) (z8u 0 [0] rfl rfl (by simp[q3s,W4,q7e,U1,J0,hv]) rfl)
 by_cases e:0=i
 ·subst e
  rw[U3]at hu;obtain rfl:=k0x hu
  exact⟨_,U3 _ _ _,.inr (.inr ⟨0,xs.length,v,rfl,by omega,by simp⟩)⟩
 ·rw[V4 _ _ e]at hu;simp[W4]at hu
def ArgL:List AV→List AV→Prop
 |[],[]=>True
 |u :: r,u1 :: r1=>(u1=u∨(u=.p (.raw (.slice none 0 0))∧∃ sz,u1=.p (.sl sz [])))∧ArgL r r1
 |_,_=>False
theorem ArgL.get:∀ {l l1:List AV},ArgL l l1→l.length=l1.length∧∀ (i:Nat) (u1:AV),l1[i]?=some u1→∃ u,l[i]?=some u∧(u1=u∨(u=.p (.raw (.slice none 0 0))∧∃ sz,u1=.p (.sl sz [])))
 |[],[],_=>⟨rfl,fun i u1 h=>by simp at h⟩
 |[],_ :: _,h=>h.elim
 |_ :: _,[],h=>h.elim
 |u :: r,u1 :: r1,h=>by
  obtain⟨h1,h2⟩:=h
  obtain⟨k1,k2⟩:=ArgL.get h2
  refine⟨by simp[k1],fun i v hv=>?_⟩
  cases i with
  |zero=>simp at hv;subst hv;exact⟨u,rfl,h1⟩
  |succ i=>exact k2 i v (by simpa using hv)
end Go.Proofs.YtkjklhcfgbaceaaGreat.AL
namespace Go.Proofs.YtkjklhcfgbaceaaGreat.AL
open Go Go.RowKit
def AFm (P:Program)(m:Nat)(f:FuncId)(args:List AV)(H:List ABlk)(R:AV→List ABlk→Prop):Prop:=
 (∃ fn,P.funcs[f]?=some fn∧fn.body.isNone=false∧(fn.name == "runtime.NumGoroutine")=false) ∧
 ∀ (w:World) (I:Nat→Prop) (ι:Nat→Option Nat) (vals:Array Value),vals.size=args.length→(∀ i u,args[i]?=some u→ARep w I ι u (vals.getD i undef))→SimH w I ι H →
  Calls P f vals w (fun e w'=>∃ v r H' I' ι',e=.returned v∧R r H'∧ARep w' I' ι' r v∧SimH w' I' ι' H'∧Ex m w I ι H w' I' ι' H')
def AYm (P:Program)(m b:Nat)(args:List AV)(H:List ABlk)(R:AV→List ABlk→Prop):Prop:=
 ∀ (w:World) (I:Nat→Prop) (ι:Nat→Option Nat) (vals:Array Value) (B:Nat),vals.size=args.length→(∀ i u,args[i]?=some u→ARep w I ι u (vals.getD i undef))→SimH w I ι H→ι b=some B →
  ∃ fn tmps assign body,(Instr.yield B vals).run P w=.ok (.round B fn tmps assign body) w ∧
   RoundIn Fence.wide 0 P B fn tmps assign body w (fun e w'=>∃ v r H' I' ι',e=.returned v∧R r H'∧ARep w' I' ι' r v∧SimH w' I' ι' H'∧Ex m w I ι H w' I' ι' H')
section
variable {P:Program} {T:J1} {m:Nat} {s s2:St} {Q:Exit→St→Prop}
theorem AFm.mono {f:FuncId}{args:List AV}{H:List ABlk}{R R':AV→List ABlk→Prop}(h:AFm P m f args H R)(hR:∀ r H',R r H'→R' r H'):AFm P m f args H R':=
 ⟨h.1,fun w I ι vals hn ha hs=>(h.2 w I ι vals hn ha hs).mono fun _ _ ⟨v,r,H',I',ι',e,hr,k⟩=>⟨v,r,H',I',ι',e,hR _ _ hr,k⟩⟩
theorem Z6 (m:Nat)(hT:TOk P T){f:FuncId}{fn:Func}{c:Code}{args:List AV}{H:List ABlk}{R:AV→List ABlk→Prop}{n:Nat}(hf:P.funcs[f]?=some fn)(hb:fn.body=some c) (hname:(fn.name == "runtime.NumGoroutine")=false) (hn0:fn.ntmps=n) (hn1:Nat.ble args.length n=true) (hmH:Nat.ble m H.length=true)
 (h:AW P none m c ⟨⟨n,z3p 0 args⟩,H⟩ (w5k T m fn R)):AFm P m f args H R:=by
 have hn1:=Nat.le_of_ble_eq_true hn1
 have hmH:=Nat.le_of_ble_eq_true hmH
 refine⟨⟨fn,hf,by rw[hb];rfl,hname⟩,fun w I ι vals hn ha hs=>(callsIn_wide (n:=0)).1 (callsIn_of_wp_marks hf hb trivial ?_ rfl)⟩
 have hsim:Sim w.heap.size w I ι ⟨⟨n,z3p 0 args⟩,H⟩ { tmps:=vals++Array.replicate (fn.ntmps - vals.size) undef,defers:=[] }:=by
  refine⟨⟨by simp[hn,hn0];omega,fun i u hu=>?_⟩,hs,k1v _,fun d hd=>by simp at hd,List.Pairwise.nil⟩
  rw[y1d,if_pos (Nat.zero_le _),Nat.sub_zero]at hu
  have hlt:i<args.length:=(k0t.1 hu).1
  have:=ha i u hu
  rw[k2q]at this ⊢
  rw[Array.getElem?_append_left (by omega)]
  exact this
 refine wpIn_mono (h _ w I ι _ hsim hmH) ?_
 rintro e a' w' ⟨s',I',ι',hq,h1,h2⟩
 cases e with
 |normal=>exact q5d hT _ _ _ _ _ h1.fr h1.H h1.d h1.nd h2 hq
 |ret=>exact q5d hT _ _ _ _ _ h1.fr h1.H h1.d h1.nd h2 hq
 |exit id=>exact hq.elim
 |goto l=>exact hq.elim
 |panic ch=>exact hq.elim
 |outgrown=>exact hq.elim
structure PadOk (ps:List Nat) (m:Nat) (H H1' H':List ABlk):Prop where
 len:H'.length=H.length+(H1'.length - m)
 old:∀ (j p:Nat) (k:ABlk),j<m→ps[j]?=some p→H1'[j]?=some k→H'[p]?=some (k.ren (q1g H.length (ps.take m)))
 gone:∀ (j p:Nat),m≤j→ps[j]?=some p→H'[p]?=some .dead
 other:∀ b:Nat,b<H.length→b ∉ ps→H'[b]?=H[b]?
 new:∀ (d:Nat) (k:ABlk),H1'[m+d]?=some k→H'[H.length+d]?=some (k.ren (q1g H.length (ps.take m)))
theorem x0r {m:Nat}{w w':World}{I I':Nat→Prop}{ι ι1:Nat→Option Nat}{H H1 H1' H':List ABlk}{ps:List Nat}{r1:AV}{v:Value}(hs:SimH w I ι H)(hsel:Sel ps H H1)(hlt:∀ p∈ps,p<H.length)(hmp:m≤ps.length)
 (h2:ARep w' I' ι1 r1 v) (h3:SimH w' I' ι1 H1') (h4:Ex m w I (fun b=>ι (rho H.length ps b)) H1 w' I' ι1 H1') (hm:PadOk ps m H H1' H') :
 ∃ ι',ARep w' I' ι' (r1.ren (q1g H.length (ps.take m))) v∧SimH w' I' ι' H'∧Ex H.length w I ι H w' I' ι' H':=by
 have hs1:=hsel.sim hs
 have x:=h4.ext
 have hlen1:H1.length=ps.length:=hsel.len
 have hl1:m≤H1'.length:=h4.len
 have htl:(ps.take m).length=m:=by simp;omega
 have htg:∀ b,b<m→(ps.take m)[b]?=ps[b]?:=fun b hb=>by rw[List.getElem?_take_of_lt hb]
 let ι':Nat→Option Nat:=fun b=>if b<H.length then ι b else ι1 (m+(b - H.length))
 have hrho:∀ b p,ps[b]?=some p→rho H.length ps b=p:=fun b p hb=>by simp[rho,List.getD_eq_getElem?_getD,hb]
 have hkey:∀ b,ι1 b=ι' (q1g H.length (ps.take m) b):=by
  intro b
  unfold q1g
  rw[htl]
  split
  ·rename_i hb
   have hb':b<ps.length:=by omega
   have hp:ps[b]?=some ps[b]:=k0w hb'
   have hpl:=hlt _ (k1w hb')
   rw[k0v,htg b hb,hp]
   simp only[Option.getD_some,ι']
   rw[if_pos hpl,h4.keep b hb]
   show ι (rho H.length ps b)=_
   rw[hrho b _ hp]
  ·rename_i hb
   simp only[ι']
   rw[if_neg (by omega)]
   congr 1;omega
 have hkey':ι1=fun b=>ι' (q1g H.length (ps.take m) b):=funext hkey
 have hold:∀ b B,ι b=some B→ι' b=some B:=fun b B hb=>by
  have:b<H.length:=by
   rcases Nat.lt_or_ge b H.length with h|h
   ·exact h
   ·rw[hs.dom b h]at hb;exact absurd hb (by simp)
  simp only[ι'];rw[if_pos this];exact hb
 have hlive1:∀ b,live H1 b→live H (rho H.length ps b):=fun b hb=>hsel.live hb
 have hcase:∀ (b:Nat) (k:ABlk),H'[b]?=some k→(∃ j k1,H1'[j]?=some k1∧b=q1g H.length (ps.take m) j∧k=k1.ren (q1g H.length (ps.take m)))∨k=.dead∨(b<H.length∧b ∉ ps∧H[b]?=some k):=by
  intro b k hk
  rcases Nat.lt_or_ge b H.length with hb|hb
  ·by_cases hbp:b∈ps
   ·obtain⟨j,hj⟩:=List.getElem?_of_mem hbp
    have hjl:j<ps.length:=(k0t.1 hj).1
    rcases Nat.lt_or_ge j m with hjm|hjm
    ·have hj1:H1'[j]?=some H1'[j]:=k0w (by omega)
     have:=hm.old j b _ hjm hj hj1
     rw[hk]at this
     refine .inl ⟨j,_,hj1,?_,k0x this⟩
     unfold q1g;rw[htl,if_pos hjm,k0v,htg j hjm,hj];rfl
    ·have:=hm.gone j b hjm hj
     rw[hk]at this
     exact .inr (.inl (k0x this))
   ·rw[hm.other b hb hbp]at hk
    exact .inr (.inr ⟨hb,hbp,hk⟩)
  ·have hbl:b<H'.length:=(k0t.1 hk).1
   have hml:=hm.len
   obtain⟨d,rfl⟩:∃ d,b=H.length+d:=⟨b - H.length,by omega⟩
   have hd:m+d<H1'.length:=by omega
   have hj1:H1'[m+d]?=some H1'[m+d]:=k0w hd
   have:=hm.new d _ hj1
   rw[hk]at this
   refine .inl ⟨m+d,_,hj1,?_,k0x this⟩
   unfold q1g;rw[htl,if_neg (by omega)];omega
 have hlive':∀ b,live H' b→(∃ j,live H1' j∧b=q1g H.length (ps.take m) j)∨(b<H.length∧b ∉ ps∧live H b):=by
  rintro b ⟨k,hk,hl⟩
  rcases hcase b k hk with ⟨j,k1,h1,h2,h3⟩|rfl|⟨h1,h2,h3⟩
  ·exact .inl ⟨j,⟨k1,h1,by subst h3;cases k1 <;> first|exact hl|rfl⟩,h2⟩
  ·simp[ABlk.live]at hl
  ·exact .inr ⟨h1,h2,k,h3,hl⟩
 have hunp:∀ b B,b<H.length→b ∉ ps→live H b→ι b=some B→(¬ ∃ b1,live H1 b1∧ι (rho H.length ps b1)=some B):=by
  rintro b B hb hbp hl hB ⟨b1,hl1,hB1⟩
  have:=hs.inj _ _ B (hlive1 b1 hl1) hl hB1 hB
  have hb1:b1<ps.length:=by rw[← hlen1];exact J6 hl1
  have hp:ps[b1]?=some ps[b1]:=k0w hb1
  rw[hrho b1 _ hp]at this
  exact hbp (this ▸ k1w hb1)
 have hImv:∀ C,I C→w'.heap[C]?=w.heap[C]?:=x.keepsI hs1
 refine⟨ι',?_,⟨fun b k hk=>?_,fun b b' B hb hb' e1 e2=>?_,h3.Ilt,fun b hb=>?_,fun b B hb=>?_⟩,⟨⟨x.os,x.tape,x.output,x.size,x.shape,x.Isub,fun C hC hn=>?_,fun C hC=>?_,fun b B hb hB=>?_⟩,fun b hb=>?_,?_⟩⟩
 ·rw[hkey']at h2;exact h2.ren_of
 ·rcases hcase b k hk with ⟨j,k1,h1,rfl,rfl⟩|rfl|⟨hb,hbp,hk0⟩
  ·have h0:=h3.blk j k1 h1
   cases k1 with
   |dead=>trivial
   |cells t l=>
    obtain⟨B,cs,g1,g2,g3,g4,g5⟩:=h0
    refine⟨B,cs,by rw[← hkey];exact g1,g2,g3,by rw[X7];simpa using g4,fun i u hu=>?_⟩
    rw[X7,k1z,Option.map_eq_some_iff]at hu
    obtain⟨y,hy,rfl⟩:=hu
    have:=g5 i y hy
    rw[hkey']at this
    exact this.ren_of
   |lp q st pe l=>
    obtain⟨B,cs,g1,g2,g3,g4,g5⟩:=h0
    refine⟨B,cs,by rw[← hkey];exact g1,g2,g3,by rw[X7];simpa using g4,fun i u hu=>?_⟩
    rw[X7,k1z,Option.map_eq_some_iff]at hu
    obtain⟨y,hy,rfl⟩:=hu
    have:=g5 i y hy
    rw[hkey']at this
    exact this.ren_of
   |row t sz xs=>
    rcases h0 with ⟨g1,g2⟩|⟨B,cs,g1,g2⟩
    ·exact .inl ⟨g1,by rw[← hkey];exact g2⟩
    ·exact .inr ⟨B,cs,by rw[← hkey];exact g1,g2⟩
   |obj o=>
    obtain⟨g0,B,g1,g2⟩:=h0
    exact⟨g0,B,by rw[← hkey];exact g1,g2⟩
  ·trivial
  ·have h0:=hs.blk b k hk0
   have hI':∀ B,live H b→ι b=some B→B<w.heap.size→¬ I' B:=fun B hl hB hBl hI=>by
    rcases x.Inew B hI with h|h|h
    ·exact hs.notI hl hB h
    ·omega
    ·exact hunp b B hb hbp hl hB h
   cases k with
   |dead=>trivial
   |cells t l=>
    obtain⟨B,cs,g1,g2,g3,g4,g5⟩:=h0
    have hl:live H b:=⟨_,hk0,rfl⟩
    refine⟨B,cs,hold b B g1,by rw[x.frame B (hs.rng b B g1) (hunp b B hb hbp hl g1)];exact g2,hI' B hl g1 (hs.rng b B g1),g4,fun i u hu=>(g5 i u hu).move hImv x.Isub hold x.shape⟩
   |lp q st pe l=>
    obtain⟨B,cs,g1,g2,g3,g4,g5⟩:=h0
    have hl:live H b:=⟨_,hk0,rfl⟩
    refine⟨B,cs,hold b B g1,by rw[x.frame B (hs.rng b B g1) (hunp b B hb hbp hl g1)];exact g2,hI' B hl g1 (hs.rng b B g1),g4,fun i u hu=>(g5 i u hu).move hImv x.Isub hold x.shape⟩
   |row t sz xs=>
    rcases h0 with ⟨g1,g2⟩|⟨B,cs,g1,g2,g3,g4,g5,g6⟩
    ·exact .inl ⟨g1,by simp only[ι'];rw[if_pos hb];exact g2⟩
    ·have hl:live H b:=⟨_,hk0,rfl⟩
     exact .inr ⟨B,cs,hold b B g1,by rw[x.frame B (hs.rng b B g1) (hunp b B hb hbp hl g1)];exact g2,hI' B hl g1 (hs.rng b B g1),g4,g5,fun j e hj=>⟨(g6 j e hj).1,fun i u hu=>((g6 j e hj).2 i u hu).move hImv x.Isub⟩⟩
   |obj o=>
    obtain⟨g0,B,g1,g2,g3⟩:=h0
    have hl:live H b:=⟨_,hk0,rfl⟩
    exact⟨g0,B,hold b B g1,by rw[x.frame B (hs.rng b B g1) (hunp b B hb hbp hl g1)];exact g2,hI' B hl g1 (hs.rng b B g1)⟩
 ·rcases hlive' b hb with ⟨j,hj,rfl⟩|⟨q1,q2,q3⟩ <;> rcases hlive' b' hb' with ⟨j',hj',rfl⟩|⟨q1',q2',q3'⟩
  ·rw[← hkey]at e1 e2
   rw[h3.inj j j' B hj hj' e1 e2]
  ·rw[← hkey]at e1
   simp only[ι']at e2;rw[if_pos q1']at e2
   rcases x.own j B hj e1 with h|h
   ·have:=hs.rng b' B e2;omega
   ·exact absurd h (hunp b' B q1' q2' q3' e2)
  ·rw[← hkey]at e2
   simp only[ι']at e1;rw[if_pos q1]at e1
   rcases x.own j' B hj' e2 with h|h
   ·have:=hs.rng b B e1;omega
   ·exact absurd h (hunp b B q1 q2 q3 e1)
  ·simp only[ι']at e1 e2;rw[if_pos q1]at e1;rw[if_pos q1']at e2
   exact hs.inj b b' B q3 q3' e1 e2
 ·have hml:=hm.len
  simp only[ι'];rw[if_neg (by omega)]
  exact h3.dom _ (by omega)
 ·simp only[ι']at hb
  split at hb
  ·have:=hs.rng b B hb;have:=x.size;omega
  ·exact h3.rng _ B hb
 ·refine x.frame C hC ?_
  rintro⟨b1,hl1,hB1⟩
  exact hn ⟨_,hlive1 b1 hl1,hB1⟩
 ·rcases x.Inew C hC with h|h|⟨b1,hl1,hB1⟩
  ·exact .inl h
  ·exact .inr (.inl h)
  ·exact .inr (.inr ⟨_,hlive1 b1 hl1,hB1⟩)
 ·rcases hlive' b hb with ⟨j,hj,rfl⟩|⟨q1,q2,q3⟩
  ·rw[← hkey]at hB
   rcases x.own j B hj hB with h|⟨b1,hl1,hB1⟩
   ·exact .inl h
   ·exact .inr ⟨_,hlive1 b1 hl1,hB1⟩
  ·simp only[ι']at hB;rw[if_pos q1]at hB
   exact .inr ⟨b,q3,hB⟩
 ·simp only[ι'];rw[if_pos hb]
 ·have hml:=hm.len;omega
def y3k (H H1':List ABlk)(ρ:Nat→Nat):Nat→Nat→List Nat→List ABlk
 |_,_,[]=>H
 |m,j,p :: r=>(y3k H H1' ρ m (j+1) r).set p (match Nat.blt j m with|true=>(H1'.getD j .dead).ren ρ|false=>.dead)
theorem q6s {H H1':List ABlk}{ρ:Nat→Nat}{m:Nat}:∀ {ps:List Nat} {j:Nat},(y3k H H1' ρ m j ps).length=H.length
 |[],_=>rfl
 |p :: r,j=>by simp[y3k,q6s (ps:=r)]
theorem x6q {H H1':List ABlk}{ρ:Nat→Nat}{m:Nat}:∀ {ps:List Nat} {j:Nat},ps.Nodup→(∀ p∈ps,p<H.length) →
 (∀ i p,ps[i]?=some p→(y3k H H1' ρ m j ps)[p]?=some (match Nat.blt (j+i) m with|true=>(H1'.getD (j+i) .dead).ren ρ|false=>.dead))∧(∀ b,b ∉ ps→(y3k H H1' ρ m j ps)[b]?=H[b]?)
 |[],j,_,_=>⟨fun i p h=>by simp at h,fun b _=>rfl⟩
 |p :: r,j,hn,hl=>by
  rw[List.nodup_cons]at hn
  obtain⟨h1,h2⟩:=x6q (m:=m) (j:=j+1) hn.2 (fun q hq=>hl q (List.mem_cons_of_mem _ hq))
  have hpl:=hl p List.mem_cons_self
  constructor
  ·intro i q hq
   cases i with
   |zero=>
    simp only[List.getElem?_cons_zero,Option.some.injEq]at hq
    subst hq
    simp only[y3k,Nat.add_zero]
    rw[k2y (by rw[q6s];exact hpl)]
   |succ i=>
    have hq:r[i]?=some q:=by simpa using hq
    have hne:p≠q:=fun e=>hn.1 (e ▸ k2x hq)
    simp only[y3k]
    rw[k3z hne,h1 i q hq,show j+1+i=j+(i+1) by omega]
  ·intro b hb
   rw[List.mem_cons,not_or]at hb
   simp only[y3k]
   rw[k3z (fun e=>hb.1 e.symm)]
   exact h2 b hb.2
theorem v3j {ps:List Nat}{H H1':List ABlk}(hn:ps.Nodup)(hl:∀ p∈ps,p<H.length)(_hm1:m≤H1'.length) :
 PadOk ps m H H1' (y3k H H1' (q1g H.length (ps.take m)) m 0 ps++(H1'.drop m).map (ABlk.ren (q1g H.length (ps.take m)))):=by
 obtain⟨h1,h2⟩:=x6q (H1':=H1') (ρ:=q1g H.length (ps.take m)) (m:=m) (j:=0) hn hl
 refine⟨by simp[q6s],fun j p k hj hp hk=>?_,fun j p hj hp=>?_,fun b hb hbp=>?_,fun d k hk=>?_⟩
 ·rw[k0s (by rw[q6s];exact hl p (k2x hp)),h1 j p hp]
  rw[show Nat.blt (0+j) m=true by simpa [Nat.blt_eq] using hj,Nat.zero_add,k0v,hk];rfl
 ·rw[k0s (by rw[q6s];exact hl p (k2x hp)),h1 j p hp]
  rw[show Nat.blt (0+j) m=false from Bool.eq_false_iff.2 (fun h=>by rw[Nat.blt_eq]at h;omega)]
 ·rw[k0s (by rw[q6s];exact hb)]
  exact h2 b hbp
 ·rw[k1q (by rw[q6s];omega),q6s,Nat.add_sub_cancel_left,k1z,List.getElem?_drop,hk];rfl
theorem u1b {f:FuncId}{args args1:List AV}{H H1 H1':List ABlk}{r1:AV}(ps:List Nat)(h:AFm P m f args1 H1 (Q9 r1 H1'))(hsel:Sel ps H H1)(hlt:∀ p∈ps,p<H.length)(hmp:m≤ps.length)(hm1:m≤H1'.length)(hargs:args=q3c (rho H.length ps) args1) :
 AF P f args H (Q9 (r1.ren (q1g H.length (ps.take m))) (y3k H H1' (q1g H.length (ps.take m)) m 0 ps++(H1'.drop m).map (ABlk.ren (q1g H.length (ps.take m))))):=by
 refine⟨h.1,fun w I ι vals hn ha hs=>?_⟩
 have hs1:=hsel.sim hs
 rw[X7]at hargs
 subst hargs
 refine(h.2 w I (fun b=>ι (rho H.length ps b)) vals (by simpa using hn) (fun i u hu=>q8x u (ha i _ (by rw[List.getElem?_map,hu];rfl))) hs1).mono ?_
 rintro e w' ⟨v,r1,H1',I',ι1,he,⟨rfl,rfl⟩,h2,h3,h4⟩
 obtain⟨ι',k1,k2,k3⟩:=x0r hs hsel hlt hmp h2 h3 h4 (v3j hsel.nodup hlt hm1)
 exact⟨v,_,_,I',ι',he,⟨rfl,rfl⟩,k1,k2,k3⟩
theorem v3k {b1 b:Nat}{args args1:List AV}{H H1:List ABlk}{R:AV→List ABlk→Prop}{R':AV→List ABlk→Prop}(ps:List Nat)(h:AYm P m b1 args1 H1 R)(hsel:Sel ps H H1)(hlt:∀ p∈ps,p<H.length)(hmp:m≤ps.length)(hb:b=rho H.length ps b1)(hargs:args=q3c (rho H.length ps) args1)
 (hR:∀ r1 H1',R r1 H1'→m≤H1'.length∧R' (r1.ren (q1g H.length (ps.take m))) (y3k H H1' (q1g H.length (ps.take m)) m 0 ps++(H1'.drop m).map (ABlk.ren (q1g H.length (ps.take m))))):AY P b args H R':=by
 intro w I ι vals B hn ha hs hB
 have hs1:=hsel.sim hs
 rw[X7]at hargs
 subst hargs
 subst hb
 obtain⟨fn,tmps,assign,body,k1,k2⟩:=h w I (fun b=>ι (rho H.length ps b)) vals B (by simpa using hn) (fun i u hu=>q8x u (ha i _ (by rw[List.getElem?_map,hu];rfl))) hs1 hB
 refine⟨fn,tmps,assign,body,k1,k2.mono ?_⟩
 rintro e w' ⟨v,r1,H1',I',ι1,he,h1,h2,h3,h4⟩
 obtain⟨hm1,hR'⟩:=hR r1 H1' h1
 obtain⟨ι',k1,k2,k3⟩:=x0r hs hsel hlt hmp h2 h3 h4 (v3j hsel.nodup hlt hm1)
 exact⟨v,_,_,I',ι',he,hR',k1,k2,k3⟩
theorem Sel.pick {H:List ABlk}{ps:List Nat}(h:(q4i ps&&z2q H.length ps&&z1i H ps ps)=true):Sel ps H (q8y H ps ps):=by
 simp only[Bool.and_eq_true]at h
 obtain⟨⟨h2,h3⟩,h4⟩:=h
 refine⟨z5i ps,q6q h2,fun b k hb=>.inr ?_⟩
 obtain⟨p,hp,hk⟩:=z5j (n:=H.length) h4 b k hb
 refine⟨p,hp,?_⟩
 have hlt:=z3r h3 p (k2x hp)
 rw[← hk,k0v,k0w hlt];rfl
theorem Z7 {f:FuncId}{args args1:List AV}{H H1 H1':List ABlk}{r1:AV}(ps:List Nat)(h:AFm P m f args1 H1 (Q9 r1 H1'))(hH:q8y H ps ps=H1)(hok:(q4i ps&&z2q H.length ps&&z1i H ps ps&&Nat.ble m ps.length&&Nat.ble m H1'.length&&inL ps args)=true)(hargs:q3c (inv ps) args=args1) :
 AF P f args H (Q9 (r1.ren (q1g H.length (ps.take m))) (y3k H H1' (q1g H.length (ps.take m)) m 0 ps++(H1'.drop m).map (ABlk.ren (q1g H.length (ps.take m))))):=by
 rw[k1u,k1u,k1u]at hok
 obtain⟨⟨⟨h1,h2⟩,h3⟩,h4⟩:=hok
 have hsel:=Sel.pick h1
 simp only[Bool.and_eq_true]at h1
 subst hH hargs
 exact u1b ps h hsel (z3r h1.1.2) (Nat.le_of_ble_eq_true h2) (Nat.le_of_ble_eq_true h3) (q2e args h4).symm
def U8 (n:Nat)(l:List (Nat × AV)):List AV:=(List.range n).map fun t=>(W4 l t).getD .top
theorem x0s (n:Nat)(l:List (Nat × AV)):(U8 n l).length=n:=by simp[U8]
theorem w7t {w:World}{I:Nat→Prop}{ι:Nat→Option Nat}{n:Nat}{l:List (Nat × AV)}{tmps:Array Value}(h:FrOk w I ι ⟨n,l⟩ tmps):∀ i u,(U8 n l)[i]?=some u→ARep w I ι u (tmps.getD i undef):=by
 intro i u hu
 simp only[U8,List.getElem?_map,Option.map_eq_some_iff]at hu
 obtain⟨t,ht,rfl⟩:=hu
 have hti:t=i:=by
  have:=(k0t.1 ht)
  obtain⟨hlt,he⟩:=this
  simpa using he.symm
 subst hti
 cases hl:W4 l t with
 |none=>exact .top _
 |some x=>exact h.2 t x hl
theorem v3m {w:World}{I:Nat→Prop}{ι:Nat→Option Nat}{n:Nat}{l:List (Nat × AV)}{tmps:Array Value}(hn:tmps.size=n)(h:∀ i u,(U8 n l)[i]?=some u→ARep w I ι u (tmps.getD i undef))(hl:∀ t u,W4 l t=some u→t<n):FrOk w I ι ⟨n,l⟩ tmps:=by
 refine⟨hn,fun t u hu=>h t u ?_⟩
 simp[U8,hl t u hu,hu]
def z8w (l:List (Nat × AV)):List Nat→List AV→List (Nat × AV)
 |p :: ps,x :: xs=>z8w ((p,x) :: l) ps xs
 |_,_=>l
theorem x6r {w:World}{I:Nat→Prop}{ι:Nat→Option Nat}{n:Nat}:∀ {ps:List Nat} {xs:List AV} {vs:List Value} {l:List (Nat × AV)} {tmps:Array Value},FrOk w I ι ⟨n,l⟩ tmps→xs.length=vs.length→(∀ i u,xs[i]?=some u→ARep w I ι u (vs.getD i undef))→(∀ p∈ps,p<n)→ps.length=xs.length →
 FrOk w I ι ⟨n,z8w l ps xs⟩ ((ps.zip vs).foldl (fun tmps (t,a)=>tmps.setIfInBounds t a) tmps)
 |[],[],vs,l,tmps,h,_,_,_,_=>by simpa [z8w] using h
 |[],_ :: _,_,_,_,_,_,_,_,hl=>by simp at hl
 |_ :: _,[],_,_,_,_,_,_,_,hl=>by simp at hl
 |p :: ps,x :: xs,[],l,tmps,h,hn,_,_,_=>by simp at hn
 |p :: ps,x :: xs,v :: vs,l,tmps,h,hn,hr,hp,hl=>by
  simp only[List.zip_cons_cons,List.foldl_cons,z8w]
  refine x6r ?_ (by simpa using hn) (fun i u hu=>by have:=hr (i+1) u (by simpa using hu);simpa using this) (fun q hq=>hp q (List.mem_cons_of_mem _ hq)) (by simpa using hl)
  refine⟨by simp[h.1],fun t u hu=>?_⟩
  by_cases e:p=t
  ·subst e
   rw[U3]at hu
   obtain rfl:=k0x hu
   rw[k2q,Array.getElem?_setIfInBounds_self_of_lt (by rw[h.1];exact hp p List.mem_cons_self)]
   exact hr 0 x rfl
  ·rw[V4 _ _ e]at hu
   rw[k2q,Array.getElem?_setIfInBounds_ne e,← k2q]
   exact h.2 t u hu
theorem z1j (r:Loop):(Obj.loop r).noCells:=fun _ _ _ h=>by cases h
theorem x6s {w:World}{I:Nat→Prop}{ι:Nat→Option Nat}{H:List ABlk}{b B:Nat}{q:RecK}{st st':LoopState}{pe pe':Option Code}{l:List AV}(hs:SimH w I ι H)(hb:H[b]?=some (.lp q st pe l))(hι:ι b=some B) :
 ∃ r,w.heap[B]?=some (.loop r)∧v9s q st pe l.length r ∧
  SimH (w.putObj B (.loop { r with state:=st',pending:=pe' })) I ι (H.set b (.lp q st' pe' l))∧Ex H.length w I ι H (w.putObj B (.loop { r with state:=st',pending:=pe' })) I ι (H.set b (.lp q st' pe' l)):=by
 obtain⟨B',r,h1,h2,h3,h4,h5⟩:=hs.blk b _ hb
 rw[hι]at h1;obtain rfl:=k0x h1
 refine⟨r,h2,h4,?_⟩
 have hlt:=(Array.getElem?_eq_some_iff.1 h2).1
 have hsh:Shape w (w.putObj B (.loop { r with state:=st',pending:=pe' })):=fun C cs t fr h=>by
  by_cases e:C=B
  ·subst e;rw[h2]at h;exact absurd (k0x h) (z1j r cs t fr)
  ·exact⟨cs,by rw[World.putObj_heap_other e];exact h,rfl⟩
 refine(z1g w B _).simO hs ⟨_,hb,rfl⟩ hι h2 (z1j r) _ ⟨B,_,hι,World.putObj_heap_same hlt,h3,?_,fun i u hu=>?_⟩
 ·obtain⟨_,_,g3,g4,g5,g6⟩:=h4
  exact⟨rfl,rfl,g3,g4,g5,g6⟩
 ·exact(h5 i u hu).move (fun C hC=>World.putObj_heap_other (fun e=>h3 (by rw[← e];exact hC))) (fun _ h=>h) (fun _ _ h=>h) hsh
def w2c {α β:Type}(M:Nat)(J:ABlk→α→List ABlk)(Z:ABlk→β→List ABlk)(Lb:ABlk)(Rnd:α→Prop)(Stp:Code→β→Prop):Exit→St→Prop
 |.normal,s=>∃ a fr2,Rnd a∧Wk (M+1) s ⟨fr2,J Lb a⟩
 |.ret,s=>∃ z fr2,Stp .ret z∧Wk (M+1) s ⟨fr2,Z Lb z⟩
 |.exit id,s=>∃ z fr2,Stp (.exit id) z∧Wk (M+1) s ⟨fr2,Z Lb z⟩
 |_,_=>False
theorem v3n {α β:Type}{M n:Nat}{q:RecK}{lf:List (Nat × AV)}{args:List AV}{J:ABlk→α→List ABlk}{Z:ABlk→β→List ABlk}{a:α}{Rnd:α→Prop}{Stp:Code→β→Prop}
 (hJ:∀ L a,(J L a)[M]?=some L∧∀ L',(J L a).set M L'=J L' a) (hZ:∀ L z,(Z L z)[M]?=some L∧∀ L',(Z L z).set M L'=Z L' z)
 (hlf:∀ t u,W4 lf t=some u→t<n) (hps:∀ p∈q.ps.toList,p<n) (hpa:q.ps.size=args.length)
 (hround:∀ B,AW P (some B) (M+1) q.assign ⟨⟨n,z8w lf q.ps.toList args⟩,J (.lp q .ready none (U8 n lf)) a⟩
  (z8j (fun s1=>s1.H[M]?=some (.lp q .ready none (U8 n lf))∧AW P (some B) (M+1) q.body ⟨s1.fr,s1.H.set M (.lp q .busy none (U8 n lf))⟩ (w2c M J Z (.lp q .busy none (U8 n lf)) Rnd Stp)) (fun _ _=>False))) :
 AYm P (M+1) M args (J (.lp q .ready none (U8 n lf)) a) (fun r H'=>(r=.p (.raw (.bool true))∧∃ a',Rnd a'∧H'=J (.lp q .ready none (U8 n lf)) a')∨(r=.p (.raw (.bool false))∧∃ c z,Stp c z∧H'=Z (.lp q .done (some c) (U8 n lf)) z)):=by
 intro w I ι vals B hn ha hs hB
 obtain⟨B',r,h1,h2,h3,h4,h5⟩:=hs.blk M _ (hJ _ a).1
 rw[hB]at h1;obtain rfl:=k0x h1
 have hrec:=h4
 obtain⟨g1,g2,g3,g4,g5,g6⟩:=h4
 have hsz:vals.size=r.params.size:=by rw[hn,g3,hpa]
 refine⟨r.fn,_,r.assign,r.body,run_yield h2 hsz,?_⟩
 rw[x0s]at g6
 have hMl:M+1≤(J (.lp q .ready none (U8 n lf)) a).length:=(k0t.1 (hJ _ a).1).1
 have hfr:FrOk w I ι ⟨n,z8w lf q.ps.toList args⟩ ((r.params.zip vals).foldl (fun tmps (t,a)=>tmps.setIfInBounds t a) r.tmps):=by
  have:=x6r (vs:=vals.toList) (v3m g6.symm h5 hlf) (by rw[Array.length_toList];exact hn.symm) (fun i u hu=>by rw[← U7];exact ha i u hu) hps (by rw[Array.length_toList];exact hpa)
  rw[g3,← Array.foldl_toList,Array.toList_zip]
  exact this
 have hsim:Sim w.heap.size w I ι ⟨⟨n,z8w lf q.ps.toList args⟩,J (.lp q .ready none (U8 n lf)) a⟩ { tmps:=(r.params.zip vals).foldl (fun tmps (t,a)=>tmps.setIfInBounds t a) r.tmps,defers:=[] }:=
  ⟨hfr,hs,k1v _,fun d hd=>by simp at hd,List.Pairwise.nil⟩
 rw[g4,g5]
 refine roundIn_of_wpIn (F:=Fence.wide) trivial ?_
 refine wpIn_mono (hround B _ w I ι _ hsim hMl) ?_
 rintro e a1 w1 ⟨s1,I1,ι1,hq,k1,k2⟩
 cases e <;> try exact hq.elim
 obtain⟨hL,hbody⟩:=hq
 have hB1:ι1 M=some B:=by rw[k2.keep M (by omega)];exact hB
 obtain⟨r1,u1,u2,u3,u4⟩:=x6s (st':=.busy) (pe':=none) k1.H hL hB1
 refine⟨_,run_beginRound u1 u2.1,?_⟩
 have e1:({ r1 with state:=.busy }:Loop) = { r1 with state:=.busy,pending:=none }:=by rw[← u2.2.1]
 rw[e1]
 generalize w1.putObj B (.loop { r1 with state:=.busy,pending:=none })=W1 at u3 u4 ⊢
 have hsim1:Sim w.heap.size W1 I1 ι1 ⟨s1.fr,s1.H.set M (.lp q .busy none (U8 n lf))⟩ a1:=
  ⟨k1.fr.move k1.H u4,u3,Nat.le_trans k1.hN u4.ext.size,fun d hd=>(k1.d d hd).move u4.ext,k1.nd⟩
 refine wpIn_mono (hbody _ _ I1 ι1 a1 hsim1 (by rw[List.length_set];exact k2.len)) ?_
 have hx1:=k2.trans (u4.less k2.len)
 have fin:∀ (w2:World) (s2:St) (I2:Nat→Prop) (ι2:Nat→Option Nat) (a2:Act) (X:List ABlk) (fr2:Fr) (jump:Option Code) (X':List ABlk),Sim w.heap.size w2 I2 ι2 s2 a2→Ex (M+1) W1 I1 ι1 (s1.H.set M (.lp q .busy none (U8 n lf))) w2 I2 ι2 s2.H→Wk (M+1) s2 ⟨fr2,X⟩→X[M]?=some (.lp q .busy none (U8 n lf)) →
  X.set M (.lp q (if jump.isNone then .ready else .done) jump (U8 n lf))=X' →
  ∃ v w',(Instr.endRound B jump).run P w2=.ok v w'∧∃ v' r H' I' ι',Ending.returned v=.returned v'∧(r=.p (.raw (.bool jump.isNone))∧H'=X')∧ARep w' I' ι' r v'∧SimH w' I' ι' H'∧Ex (M+1) w I ι (J (.lp q .ready none (U8 n lf)) a) w' I' ι' H':=by
  intro w2 s2 I2 ι2 a2 X fr2 jump X' m1 m2 hwk hX hX'
  obtain⟨I3,ι3,n1,n2⟩:=hwk _ w2 I2 ι2 a2 m1 m2.len
  have hx2:=(hx1.trans m2).trans n2
  have hB3:ι3 M=some B:=by rw[hx2.keep M (by omega)];exact hB
  obtain⟨r3,v1,v2,v3,v4⟩:=x6s (st':=if jump.isNone then .ready else .done) (pe':=jump) n1.H hX hB3
  refine⟨_,_,run_endRound jump v1,_,_,_,I3,ι3,rfl,⟨rfl,rfl⟩,.p (.raw _ rfl),?_,?_⟩
  ·rw[← hX'];exact v3
  ·rw[← hX'];exact hx2.trans (v4.less hx2.len)
 rintro e a2 w2 ⟨s2,I2,ι2,hq,m1,m2⟩
 cases e with
 |normal=>
  obtain⟨a',fr2,hR,hwk⟩:=hq
  obtain⟨v,w',f1,v',r',H',I',ι',f2,⟨rfl,rfl⟩,f4⟩:=fin w2 s2 I2 ι2 a2 _ fr2 none _ m1 m2 hwk (hJ _ a').1 ((hJ _ a').2 _)
  exact⟨v,w',f1,v',_,_,I',ι',f2,.inl ⟨rfl,a',hR,rfl⟩,f4⟩
 |ret=>
  obtain⟨z,fr2,hR,hwk⟩:=hq
  obtain⟨v,w',f1,v',r',H',I',ι',f2,⟨rfl,rfl⟩,f4⟩:=fin w2 s2 I2 ι2 a2 _ fr2 (some .ret) _ m1 m2 hwk (hZ _ z).1 ((hZ _ z).2 _)
  exact⟨v,w',f1,v',_,_,I',ι',f2,.inr ⟨rfl,.ret,z,hR,rfl⟩,f4⟩
 |exit id=>
  obtain⟨z,fr2,hR,hwk⟩:=hq
  obtain⟨v,w',f1,v',r',H',I',ι',f2,⟨rfl,rfl⟩,f4⟩:=fin w2 s2 I2 ι2 a2 _ fr2 (some (.exit id)) _ m1 m2 hwk (hZ _ z).1 ((hZ _ z).2 _)
  exact⟨v,w',f1,v',_,_,I',ι',f2,.inr ⟨rfl,.exit id,z,hR,rfl⟩,f4⟩
 |goto l=>exact hq.elim
 |panic ch=>exact hq.elim
 |outgrown=>exact hq.elim
theorem v3p {w w':World}{I:Nat→Prop}{ι:Nat→Option Nat}{H:List ABlk}{o:Obj}(g:Grew w w' o)(hs:SimH w I ι H):SimH w' I ι H∧Ex H.length w I ι H w' I ι H:=by
 have hI:∀ B,I B→w'.heap[B]?=w.heap[B]?:=fun B hB=>g.old B (hs.Ilt B hB)
 have hsz:=g.size
 refine⟨⟨fun b k hb=>?_,hs.inj,fun B hB=>by have:=hs.Ilt B hB;omega,hs.dom,fun b B hb=>by have:=hs.rng b B hb;omega⟩,⟨⟨g.os,g.tape,g.output,by omega,g.shape,fun _ h=>h,fun B hB _=>g.old B hB,fun B hB=>.inl hB,fun b B hb h=>.inr ⟨b,hb,h⟩⟩,fun _ _=>rfl,k1v _⟩⟩
 have h:=hs.blk b k hb
 cases k with
 |dead=>trivial
 |cells t l=>
  obtain⟨B,cs,g1,g2,g3,g4,g5⟩:=h
  exact⟨B,cs,g1,by rw[g.old B (hs.rng b B g1)];exact g2,g3,g4,fun i u hu=>(g5 i u hu).move hI (fun _ h=>h) (fun _ _ h=>h) g.shape⟩
 |lp q st pe l=>
  obtain⟨B,cs,g1,g2,g3,g4,g5⟩:=h
  exact⟨B,cs,g1,by rw[g.old B (hs.rng b B g1)];exact g2,g3,g4,fun i u hu=>(g5 i u hu).move hI (fun _ h=>h) (fun _ _ h=>h) g.shape⟩
 |row t sz xs=>
  rcases h with g0|⟨B,cs,g1,g2,g3,g4,g5,g6⟩
  ·exact .inl g0
  ·exact .inr ⟨B,cs,g1,by rw[g.old B (hs.rng b B g1)];exact g2,g3,g4,g5,fun j e hj=>⟨(g6 j e hj).1,fun i u hu=>((g6 j e hj).2 i u hu).move hI (fun _ h=>h)⟩⟩
 |obj o=>
  obtain⟨g0,B,g1,g2,g3⟩:=h
  exact⟨g0,B,g1,by rw[g.old B (hs.rng b B g1)];exact g2,g3⟩
theorem q5e {l:List (Nat × AV)}:∀ {ks:List Nat} {i:Nat} {u:AV},W4 (q3s l ks) i=some u→W4 l i=some u
 |[],i,u,h=>by simp[q3s,W4]at h
 |t :: ks,i,u,h=>by
  simp only[q3s]at h
  cases hl:W4 l t with
  |none=>rw[hl]at h;exact q5e h
  |some x=>
   rw[hl]at h
   by_cases e:t=i
   ·subst e;rw[U3]at h;rw[← h];exact hl
   ·rw[V4 _ _ e]at h;exact q5e h
def v3q (m M n:Nat)(s:St)(ps ks:List Nat)(L:ABlk):Bool:=
 z8v m 0 ps&&q4i ps&&z2q (s.H.length+1) ps&&z1i (s.H++[L]) ps ps&&q8z s.fr.l ps ks&&Nat.ble m M&&Nat.beq (ps.getD M 0) s.H.length&&Nat.blt M ps.length&&Nat.beq s.fr.n n &&
  q7e M (q1v s.fr.l ps ks)&&z2q n ks
theorem z3t {n:Nat}:∀ {l:List (Nat × AV)} {i:Nat} {u:AV},q7e n l=true→W4 l i=some u→U1 n u=true
 |[],i,u,_,h=>by simp[W4]at h
 |(k,x) :: r,i,u,hb,h=>by
  simp only[q7e,Bool.and_eq_true]at hb
  by_cases e:k=i
  ·subst e;rw[U3]at h;obtain rfl:=k0x h;exact hb.1
  ·rw[V4 _ _ e]at h;exact z3t hb.2 h
theorem z3u {l:List (Nat × AV)}{qs:List Nat}{n:Nat}:∀ {ks:List Nat},z2q n ks=true→∀ {i:Nat} {u:AV},W4 (q1v l qs ks) i=some u→i<n
 |[],_,i,u,h=>by simp[q1v,W4]at h
 |t :: ks,hk,i,u,h=>by
  simp only[z2q,Bool.and_eq_true,Nat.blt_eq]at hk
  simp only[q1v]at h
  cases hl:W4 l t with
  |none=>rw[hl]at h;exact z3u hk.2 h
  |some x=>
   rw[hl]at h
   by_cases e:t=i
   ·subst e;exact hk.1
   ·rw[V4 _ _ e]at h;exact z3u hk.2 h
theorem z1k {α β:Type}{g:Operand}{pa:Array Tmp}{assign body:Code}(M n:Nat)(ps ks:List Nat)(J:ABlk→α→List ABlk)(Z:ABlk→β→List ABlk)(a0:α)(End:α→Prop)(Stp:Code→β→Prop){k:FuncId}{caps:List AV}
 (hok:v3q m M n s ps ks (.lp ⟨pa,assign,body⟩ .ready none (U8 n (q3s s.fr.l ks)))=true)
 (hJ0:q8y (s.H++[.lp ⟨pa,assign,body⟩ .ready none (U8 n (q3s s.fr.l ks))]) ps ps=J (.lp ⟨pa,assign,body⟩ .ready none (U8 n (q1v s.fr.l ps ks))) a0)
 (hJ:∀ L a,(J L a)[M]?=some L∧∀ L',(J L a).set M L'=J L' a) (hZ:∀ L z,(Z L z)[M]?=some L∧∀ L',(Z L z).set M L'=Z L' z)
 (hg:evX ⟨n,q1v s.fr.l ps ks⟩ g=some (.clo (.func k) caps))
 (hseq:AFm P (M+1) k (.yld M :: caps) (J (.lp ⟨pa,assign,body⟩ .ready none (U8 n (q1v s.fr.l ps ks))) a0)
  (fun _ H'=>(∃ a,End a∧H'=J (.lp ⟨pa,assign,body⟩ .ready none (U8 n (q1v s.fr.l ps ks))) a)∨(∃ c z,Stp c z∧H'=Z (.lp ⟨pa,assign,body⟩ .done (some c) (U8 n (q1v s.fr.l ps ks))) z)))
 (hdone:∀ a,End a→Q .normal ⟨⟨n,q1v s.fr.l ps ks⟩,J .dead a⟩)
 (hstop:∀ c z,Stp c z→AW P none m c ⟨⟨n,q1v s.fr.l ps ks⟩,Z .dead z⟩ Q):AW P none m (.rangeFunc g pa assign body) s Q:=by
 intro N w I ι a hs hm
 simp only[v3q,Bool.and_eq_true,Nat.beq_eq,Nat.ble_eq,Nat.blt_eq]at hok
 obtain⟨⟨⟨⟨⟨⟨⟨⟨⟨⟨o1,o2⟩,o3⟩,o4⟩,o5⟩,o6⟩,o7⟩,o8⟩,o9⟩,o10⟩,o11⟩:=hok
 obtain⟨fr,H⟩:=s
 simp only at *
 subst o9
 have g1:=q4j w (.deferred (some []))
 obtain⟨s1,x1⟩:=v3p g1 hs.H
 generalize hw1:w.alloc (.deferred (some []))=w1 at g1 s1 x1
 have hsz1:w1.heap.size=w.heap.size+1:=g1.size
 have hfr1:FrOk w1 I ι fr a.tmps:=hs.fr.move hs.H x1
 let R0:Loop:={ state:=.ready,pending:=none,fn:=0,tmps:=a.tmps,params:=pa,assign:=assign,body:=body,defers:=w.heap.size }
 refine wpIn_rangeFunc ?_
 intro fn _
 have g2:=q4j w1 (.loop { R0 with fn:=fn })
 have hkeep:FrOk w1 I ι ⟨fr.n,q3s fr.l ks⟩ a.tmps:=⟨hfr1.1,fun t u hu=>hfr1.2 t u (q5e hu)⟩
 have hmv1:∀ {u v},ARep w1 I ι u v→ARep (w1.alloc (.loop { R0 with fn:=fn })) I (upd ι H.length w1.heap.size) u v:=fun h=>h.move (fun B hB=>g2.old B (s1.Ilt B hB)) (fun _ h=>h) (fun b B hb=>by
  have hlt:b<H.length:=by
   rcases Nat.lt_or_ge b H.length with h|h
   ·exact h
   ·rw[s1.dom b h]at hb;exact absurd hb (by simp)
  unfold upd;rw[if_neg (by omega)];exact hb) g2.shape
 obtain⟨s2,x2⟩:=g2.sim s1 (.lp ⟨pa,assign,body⟩ .ready none (U8 fr.n (q3s fr.l ks))) ⟨w1.heap.size,{ R0 with fn:=fn },by simp[upd],g2.new,fun h=>by have:=s1.Ilt _ h;omega,⟨rfl,rfl,rfl,rfl,rfl,by rw[x0s];exact hs.fr.1.symm⟩,fun i u hu=>hmv1 (w7t hkeep i u hu)⟩
 generalize hw2:w1.alloc (.loop { R0 with fn:=fn })=w2 at g2 s2 x2 hmv1
 have hlen2:(H++[ABlk.lp ⟨pa,assign,body⟩ .ready none (U8 fr.n (q3s fr.l ks))]).length=H.length+1:=by simp
 have hsel:=Sel.pick (H:=H++[ABlk.lp ⟨pa,assign,body⟩ .ready none (U8 fr.n (q3s fr.l ks))]) (ps:=ps) (by simp only[Bool.and_eq_true];rw[hlen2];exact⟨⟨o2,o3⟩,o4⟩)
 rw[hJ0]at hsel
 have s3:=hsel.sim s2
 rw[hlen2]at s3
 generalize hι3:(fun b=>upd ι H.length w1.heap.size (rho (H.length+1) ps b))=ι3 at s3
 have hpsM:ps[M]?=some H.length:=by
  rw[k0v,k0w o8]at o7
  rw[k0w o8];simpa using o7
 have hM3:ι3 M=some w1.heap.size:=by
  rw[← hι3]
  simp[rho,List.getD_eq_getElem?_getD,hpsM,upd]
 have hx3:∀ b,b<m→ι3 b=ι b:=fun b hb=>by
  rw[← hι3]
  have:=z5h o1 b hb
  rw[Nat.zero_add]at this
  simp only[rho,List.getD_eq_getElem?_getD,this,Option.getD_some]
  unfold upd;rw[if_neg (by omega)]
 have hfr3:FrOk w2 I ι3 ⟨fr.n,q1v fr.l ps ks⟩ a.tmps:=⟨hs.fr.1,fun t u2 hu=>by
  obtain⟨u,hu1,hu2⟩:=z0d (n:=H.length+1) o5 t u2 hu
  have:=hmv1 (hfr1.2 t u hu1)
  rw[hu2]at this
  rw[← hι3]
  exact q8x u2 this⟩
 have hlen3:m≤(J (.lp ⟨pa,assign,body⟩ .ready none (U8 fr.n (q1v fr.l ps ks))) a0).length:=by
  have:=(k0t.1 (hJ (.lp ⟨pa,assign,body⟩ .ready none (U8 fr.n (q1v fr.l ps ks))) a0).1).1
  omega
 have hext3:Ext w2 I (upd ι H.length w1.heap.size) (H++[ABlk.lp ⟨pa,assign,body⟩ .ready none (U8 fr.n (q3s fr.l ks))]) w2 I ι3 (J (.lp ⟨pa,assign,body⟩ .ready none (U8 fr.n (q1v fr.l ps ks))) a0):=
  ⟨rfl,rfl,rfl,k1v _,Shape.refl _,fun _ h=>h,fun _ _ _=>rfl,fun _ h=>.inl h,fun b B hb hB=>.inr ⟨_,hsel.live hb,by rw[← hι3]at hB;rw[hlen2];exact hB⟩⟩
 have hx03:Ex m w I ι H w2 I ι3 (J (.lp ⟨pa,assign,body⟩ .ready none (U8 fr.n (q1v fr.l ps ks))) a0):=
  ⟨(x1.ext.trans x2.ext).trans hext3,hx3,hlen3⟩
 have hD1:w1.heap[w.heap.size]?=some (.deferred (some [])):=g1.new
 have hD2:w2.heap[w.heap.size]?=some (.deferred (some [])):=by rw[g2.old _ (by omega)];exact hD1
 have hmark:Mark N w2 I ι3 (J (.lp ⟨pa,assign,body⟩ .ready none (U8 fr.n (q1v fr.l ps ks))) a0) { target:=.collected w.heap.size,args:=#[] }:=by
  refine Mark.move hext3 ⟨w.heap.size,rfl,hs.hN,hD2,fun h=>by have:=hs.H.Ilt _ h;omega,fun b hb hB=>?_⟩
  unfold upd at hB
  split at hB
  ·have:=k0x hB;omega
  ·have:=hs.H.rng b _ hB;omega
 have hmarks:(∀ d∈([{ target:=.collected w.heap.size,args:=#[] }]++a.defers:List Deferred),Mark N w2 I ι3 (J (.lp ⟨pa,assign,body⟩ .ready none (U8 fr.n (q1v fr.l ps ks))) a0) d):=fun d hd=>by
  rcases List.mem_append.1 hd with hd|hd
  ·rw[List.mem_singleton]at hd;subst hd;exact hmark
  ·exact(hs.d d hd).move ((x1.ext.trans x2.ext).trans hext3)
 have hnd:([{ target:=.collected w.heap.size,args:=#[] }]++a.defers:List Deferred).Pairwise (fun x y=>x.target≠y.target):=by
  rw[List.singleton_append,List.pairwise_cons]
  refine⟨fun d hd e=>?_,hs.nd⟩
  obtain⟨D,rfl,_,hh,_⟩:=hs.d d hd
  have hlt:=(Array.getElem?_eq_some_iff.1 hh).1
  simp only[Target.collected.injEq]at e
  omega
 have hgv:∃ vs:Array Value,a.eval g=.func (.func k) #[] vs∧vs.size=caps.length∧∀ i u,caps[i]?=some u→ARep w2 I ι3 u (vs.getD i undef):=by
  have he:=y4u hfr3 g
  unfold z2m at he
  rw[hg,Option.getD_some]at he
  generalize a.eval g=v at he
  cases he with
  |clo _ _ vs hn hr=>exact⟨vs,rfl,hn,hr⟩
 obtain⟨vs,hgv,hgn,hgr⟩:=hgv
 obtain⟨⟨kfn,kf,kb,kname⟩,hcall⟩:=hseq
 have hkb:kfn.body≠none:=by intro h0;simp[h0]at kb
 have hkn:kfn.name ≠ "runtime.NumGoroutine":=by simpa using kname
 refine⟨w1.heap.size,[{ target:=.collected w.heap.size,args:=#[] }],w2,{ target:=.fn (.func k) vs,args:=#[.func (.yield w1.heap.size) #[] #[]] },w2,k,
  #[.func (.yield w1.heap.size) #[] #[]]++vs,w2,?_,?_,fun _ _=>trivial,?_,fun e=>by rw[y0r]at e;exact absurd e (by simp),?_⟩
 ·have:=run_enterLoop_outer (P:=P) (w:=w) fn a.tmps pa assign body
  rw[hw1]at this
  rw[← hw2,hsz1];exact this
 ·simp only[resolve,hgv]
  simp[go_sem]
 ·simp[invoke,callFunc,kf,hkb,hkn]
 ·refine(callsIn_wide (n:=0 - 1)).2 ?_
  have hL:Says w2 I ι3 (.yld M :: caps) (#[.func (.yield w1.heap.size) #[] #[]]++vs):=by
   have h1:Says w2 I ι3 [AV.yld M] #[.func (.yield w1.heap.size) #[] #[]]:=⟨rfl,fun i u hu=>by
    cases i with
    |zero=>simp at hu;subst hu;exact .yld M _ hM3
    |succ i=>simp at hu⟩
   exact h1.append ⟨hgn,hgr⟩
  refine(hcall w2 I ι3 _ hL.1 hL.2 s3).mono ?_
  rintro e w3 ⟨v,r,H3,I4,ι4,rfl,hend,_,s4,x4⟩
  have hM4:ι4 M=some w1.heap.size:=by rw[x4.keep M (by omega)];exact hM3
  have hfr4:FrOk w3 I4 ι4 ⟨fr.n,q1v fr.l ps ks⟩ a.tmps:=⟨hs.fr.1,fun t u hu=>by
   have h0:=hfr3.2 t u hu
   have hb:=z3t o10 hu
   have h1:ARep w2 I (fun b=>if b<M then ι3 b else none) u (a.tmps.getD t undef):=z7a (fun b hb=>by simp[hb]) u hb h0
   have h2:ARep w3 I4 (fun b=>if b<M then ι4 b else none) u (a.tmps.getD t undef):=h1.move (x4.ext.keepsI s3) x4.ext.Isub (fun b B hbB=>by
    split at hbB
    ·rename_i hlt
     rw[if_pos hlt,x4.keep b (by omega)];exact hbB
    ·exact absurd hbB (by simp)) x4.ext.shape
   exact z7a (fun b hb=>by simp[hb]) u hb h2⟩
  have shut:∀ (X:List ABlk) (st:LoopState) (pe:Option Code),H3=X→X[M]?=some (.lp ⟨pa,assign,body⟩ st pe (U8 fr.n (q1v fr.l ps ks)))→st≠.busy →
   ∃ w4,(Instr.endLoop w1.heap.size).run P w3=.ok pe w4∧SimH w4 I4 ι4 (X.set M .dead)∧Ex X.length w3 I4 ι4 X w4 I4 ι4 (X.set M .dead):=by
   intro X st pe hX hXM hst
   subst hX
   obtain⟨B',r,q1,q2,q3,q4,q5⟩:=s4.blk M _ hXM
   rw[hM4]at q1;obtain rfl:=k0x q1
   have:=run_endLoop (P:=P) q2 (by rw[q4.1];exact hst)
   rw[q4.2.1]at this
   exact⟨_,this,(z1g w3 _ _).simO s4 ⟨_,hXM,rfl⟩ hM4 q2 (z1j r) .dead trivial⟩
  have fin:∀ (X:List ABlk) (w4:World),H3=X→SimH w4 I4 ι4 (X.set M .dead)→Ex X.length w3 I4 ι4 X w4 I4 ι4 (X.set M .dead) →
   Sim N w4 I4 ι4 ⟨⟨fr.n,q1v fr.l ps ks⟩,X.set M .dead⟩ { a with defers:=[{ target:=.collected w.heap.size,args:=#[] }]++a.defers }∧Ex m w I ι H w4 I4 ι4 (X.set M .dead):=by
   intro X w4 hX s5 x5
   subst hX
   have x45:Ext w2 I ι3 _ w4 I4 ι4 _:=x4.ext.trans x5.ext
   refine⟨⟨⟨hs.fr.1,fun t u hu=>(hfr4.2 t u hu).move (x5.ext.keepsI s4) x5.ext.Isub (fun b B hb=>by
    rw[x5.keep b];exact hb
    rcases Nat.lt_or_ge b H3.length with h|h
    ·exact h
    ·rw[s4.dom b h]at hb;exact absurd hb (by simp)) x5.ext.shape⟩,s5,?_,fun d hd=>(hmarks d hd).move x45,hnd⟩,(hx03.trans (x4.less (by omega))).trans (x5.less ?_)⟩
   ·exact Nat.le_trans hs.hN (Nat.le_trans hx03.ext.size x45.size)
   ·have:=x4.len;omega
  rcases hend with ⟨a1,hE,rfl⟩|⟨c,z,hS,rfl⟩
  ·obtain⟨w4,e1,e2,e3⟩:=shut _ _ _ rfl (hJ _ a1).1 (by simp)
   obtain⟨f1,f2⟩:=fin _ w4 rfl e2 e3
   rw[(hJ _ a1).2]at f1 f2
   exact⟨none,w4,e1,_,I4,ι4,hdone a1 hE,f1,f2⟩
  ·obtain⟨w4,e1,e2,e3⟩:=shut _ _ _ rfl (hZ _ z).1 (by simp)
   obtain⟨f1,f2⟩:=fin _ w4 rfl e2 e3
   rw[(hZ _ z).2]at f1 f2
   refine⟨some c,w4,e1,?_⟩
   exact wpIn_mono (hstop c z hS N w4 I4 ι4 _ f1 f2.len) fun _ _ _ hh=>hh.step f2
end
end Go.Proofs.YtkjklhcfgbaceaaGreat.AL
