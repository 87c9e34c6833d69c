/- A part of the proof. -/
import Derived.ProofKit
import Derived.OpenShut
import Derived.ChangeOld
import Derived.Below
import Derived.SizedLaws
import Derived.Deep.Slices
import Derived.Lib.SmallJoins
import Derived.Laws.IdiomArrays
import Derived.Test.YtkjklhcfgbaceaaGreatRows
import Derived.JoinedOf
import Derived.Test.YtkjklhcfgbaceaaGreatScrubP
open Go.Proofs.Tryz renaming prog→k0q
open List renaming getElem?_eq_getElem→k0w,getD_eq_getElem?_getD→k0v,getElem?_eq_some_iff→k0t,getElem?_append_left→k0s,getElem?_append_right→k1q,getElem?_map→k1z,length_append→k1y,length_map→k1x,getElem_mem→k1w,mem_of_getElem?→k2x
open Int renaming toNat_natCast→k0u
open Nat renaming le_refl→k1v
open Bool renaming and_eq_true→k1u
set_option maxHeartbeats 8000000
set_option maxRecDepth 20000
namespace Go.Proofs.YtkjklhcfgbaceaaGreat.AL
open Go Go.Proofs Go.Proofs.YtkjklhcfgbaceaaGreat.AL.Crc
structure Plan where
 g:GeoV
 start:Int
 txs:List x9
 snap:x9
 area:Int
def Plan.rest (p:Plan):Bool:=!decide (p.g.s > 3)&&(!decide (p.g.k > 4)&&(!decide (p.g.m > 3)&&(!decide (p.area<0)&&(!decide (p.area > 1)&&(!decide (p.start<0)&&(!decide (p.start > 1000)&&(!decide ((p.txs.length:Int) > 9)&&!decide ((p.snap.length:Int) > IntKind.i64.wrap (IntKind.i64.wrap (p.g.s*p.g.k)*228)))))))))
def Plan.ok (p:Plan):Bool:=q9q 7 p.g&&p.rest
def Plan.sup (p:Plan):Sup:=⟨7,3,2,p.area,4,p.snap.length,p.start,5,p.g⟩
def Plan.ring (p:Plan):Rg:=u2d 7 p.g 2 p.start p.start 5
/-- Transactions are appended,as far as may be. -/
def apT (l:List x9)(R:Rg)(D:Dev):Nat→Rg × Dev
 |0=>(R,D)
 |k+1=>match l[k]? with
  |some s=>match decide ((s.length:Int)≤1500) with
   |true=>((apT l R D k).1.append (apT l R D k).2 s).2
   |false=>apT l R D k
  |none=>apT l R D k
theorem v1a {x:Sup}(hm:x.may=true){D:Dev}{N b:Nat}(h:CleanP D N b)(hN:4≤N) :
 ∃ E,D.install x=(0,E)∧CleanP E N (b+4)∧(∀ k:Nat,k<4→E.cells[k]?=some (q7q (x.sector k).1))∧∀ a,4≤a→E.cells[a]?=D.cells[a]?:=by
 have hl:∀ k:Nat,k<4→(x.sector k).1.length=256:=fun k hk=>by
  rw[(z5z hm (show (0:Int)≤(k:Int) by omega) (by omega)).1]
  show (J5 _).length=256
  rw[q3p,q6m _ (x5h hm (show (0:Int)≤(k:Int) by omega) (by omega)).2]
 have hp:x.puts=(List.range 4).map (y0p fun k=>(x.sector k).1):=rfl
 obtain⟨E,e1,e2,e3⟩:=y8w x.puts (N:=N) (by
  intro q hq
  rw[hp,List.mem_map]at hq
  obtain⟨k,hk,rfl⟩:=hq
  rw[List.mem_range]at hk
  exact⟨by show (0:Int)≤(k:Int);omega,by show (k:Int)<_;omega,hl k hk⟩) h
 have ha:=y8y (fun k:Nat=>(x.sector k).1) (List.range 4) D.cells (fun a ha=>by rw[List.mem_range]at ha;rw[h.len];omega)
 rw[← hp,← e3]at ha
 refine⟨E,by unfold Dev.install;rw[hm];exact e1,e2,fun k hk=>by rw[ha k,if_pos (List.mem_range.mpr hk)],fun a h4=>by rw[ha a,if_neg (fun hm=>by rw[List.mem_range]at hm;omega)]⟩
theorem w0v (n:Int)(hn:n≤64):∀ (l:List x9) (i:Int) (R:Rg) (D:Dev) (b:Nat),R.Ok→CleanP D R.g.secs b→0≤i→i+l.length≤n→(∀ s∈l,s.length≤200)→R.next+l.length≤4294967295 →
 ∀ a:Nat,((a:Int)<4∨4+2*R.g.w≤(a:Int))→(z6f n l i R D).2.2.cells[a]?=D.cells[a]?
 |[],i,R,D,b,hR,h,_,_,_,_,a,ha=>rfl
 |x :: r,i,R,D,b,hR,h,h0,hi,hl,hx,a,ha=>by
  rw[List.length_cons]at hi hx
  have hp:=y4q hR (i:=i) (n:=n) (b:=x) h0 (by omega) hn (hl x (by simp))
  obtain⟨E,e1,e2,e3⟩:=z8d hR h hp
  have hw:=z5w R.vol R.g (pcR R i n x)
  obtain⟨s0,s1⟩:=z9y hR.g (Pc.of_may hp).1.1
  obtain⟨o1,o2,o3,o4,o5,o6,o7⟩:=hR
  have ok:(nxR R (pcR R i n x)).Ok:=by
   refine⟨o1,o2,o3,⟨o4.1,?_⟩,⟨o5.1,?_⟩,?_,hw⟩
   ·show R.frm≤R.next+1;omega
   ·show R.start≤R.next+1;omega
   ·show R.next+1≤_;omega
  have ih:=w0v n hn r (i+1) (nxR R (pcR R i n x)) E (b+2) ok e2 (by omega) (by omega) (fun s hs=>hl s (by simp[hs])) (by show R.next+1+_≤_;omega) a ha
  show (match (q2z R D (pcR R i n x)).1 != 0 with
   |true=>q2z R D (pcR R i n x)
   |false=>z6f n r (i+1) (q2z R D (pcR R i n x)).2.1 (q2z R D (pcR R i n x)).2.2).2.2.cells[a]?=_
  rw[e1]
  refine ih.trans ?_
  rw[e3]
  show ((D.cells.set (q0j R.g 0 ((pcR R i n x).seq.tmod R.g.w)).toNat _).set (q0j R.g 1 ((pcR R i n x).seq.tmod R.g.w)).toNat _)[a]?=_
  rw[y0i,y0j,List.getElem?_set,if_neg (by omega),List.getElem?_set,if_neg (by omega)]
theorem v7e {s0 c0:Int}(h1000:s0≤1000):∀ (l:List x9) (R:Rg) (D:Dev) (b:Nat) (P:List Pc),LogP R D b s0 c0 P→R.start=s0→∀ k,k≤l.length →
 ∃ P',LogP (apT l R D k).1 (apT l R D k).2 (b+16*k) s0 c0 P'∧(apT l R D k).1.start=s0∧(apT l R D k).1.g=R.g∧(apT l R D k).1.vol=R.vol∧∀ a:Nat,((a:Int)<4∨4+2*R.g.w≤(a:Int))→(apT l R D k).2.cells[a]?=D.cells[a]?
 |l,R,D,b,P,h,hs,0,_=>⟨P,h,hs,rfl,rfl,fun _ _=>rfl⟩
 |l,R,D,b,P,h,hs,k+1,hk=>by
  obtain⟨P',i1,i2,i3,i4,i5⟩:=v7e h1000 l R D b P h hs k (by omega)
  have hx:=k0w (show k<l.length by omega)
  generalize l[k]=s at hx
  unfold apT
  rw[hx]
  generalize apT l R D k=Y at i1 i2 i3 i4 i5
  obtain⟨R1,D1⟩:=Y
  have i1:LogP R1 D1 (b+16*k) s0 c0 P':=i1
  have i2:R1.start=s0:=i2
  have i3:R1.g=R.g:=i3
  have i4:R1.vol=R.vol:=i4
  have i5:∀ a:Nat,((a:Int)<4∨4+2*R.g.w≤(a:Int))→D1.cells[a]?=D.cells[a]?:=i5
  obtain⟨w1,w2,_⟩:=R1.g.of_may i1.ok.g
  have hlen:=i1.len
  have hnx:=i1.next
  show ∃ P'',LogP (match decide ((s.length:Int)≤1500) with|true=>(R1.append D1 s).2|false=>(R1,D1)).1 (match decide ((s.length:Int)≤1500) with|true=>(R1.append D1 s).2|false=>(R1,D1)).2 (b+16*(k+1)) s0 c0 P''∧(match decide ((s.length:Int)≤1500) with|true=>(R1.append D1 s).2|false=>(R1,D1)).1.start=s0∧(match decide ((s.length:Int)≤1500) with|true=>(R1.append D1 s).2|false=>(R1,D1)).1.g=R.g∧(match decide ((s.length:Int)≤1500) with|true=>(R1.append D1 s).2|false=>(R1,D1)).1.vol=R.vol∧∀ a:Nat,((a:Int)<4∨4+2*R.g.w≤(a:Int))→(match decide ((s.length:Int)≤1500) with|true=>(R1.append D1 s).2|false=>(R1,D1)).2.cells[a]?=D.cells[a]?
  have stay:LogP R1 D1 (b+16*(k+1)) s0 c0 P':=⟨i1.ok,i1.clean.mono (by omega),i1.cells,i1.chain,i1.next,i1.sum,i1.zero,i1.len⟩
  cases hd:decide ((s.length:Int)≤1500) with
  |false=>exact⟨P',stay,i2,i3,i4,i5⟩
  |true=>
   have hd:=k0z hd
   have hnum:=w4i s
   have h8:(X9 s).length≤8:=by
    rw[hnum]
    split
    ·omega
    ·omega
   obtain⟨_,a2,_⟩:=x5e i1.ok i1.clean s rfl
   by_cases hw:R1.next+(X9 s).length - R1.start > R1.g.w
   ·have e:=a2 (by omega) (.inl hw)
    show ∃ P'',LogP (R1.append D1 s).2.1 (R1.append D1 s).2.2 (b+16*(k+1)) s0 c0 P''∧(R1.append D1 s).2.1.start=s0∧(R1.append D1 s).2.1.g=R.g∧(R1.append D1 s).2.1.vol=R.vol∧∀ a:Nat,_→(R1.append D1 s).2.2.cells[a]?=_
    rw[e]
    exact⟨P',stay,i2,i3,i4,i5⟩
   ·obtain⟨E,e1,e2⟩:=v6v i1 i2 s (by omega) (by omega) (by omega)
    obtain⟨j1,j2,j3,j4,j5,j6⟩:=x5d (X9 s).length (X9 s) 0 R1
    have out:=w0v (X9 s).length (by omega) (X9 s) 0 R1 D1 (b+16*k) i1.ok i1.clean (Int.le_refl _) (by omega) (z2h s) (by omega)
    have ea:R1.append D1 s=z6f (X9 s).length (X9 s) 0 R1 D1:=by
     unfold Rg.append
     rw[k1s (show ¬ (X9 s).length > 64 by omega)]
     simp only
     rw[k1s hw,k1s (show ¬ R1.next+((X9 s).length:Int) > 4294967295 by omega)]
     rfl
    rw[← ea,e1]at out
    show ∃ P'',LogP (R1.append D1 s).2.1 (R1.append D1 s).2.2 (b+16*(k+1)) s0 c0 P''∧(R1.append D1 s).2.1.start=s0∧(R1.append D1 s).2.1.g=R.g∧(R1.append D1 s).2.1.vol=R.vol∧∀ a:Nat,_→(R1.append D1 s).2.2.cells[a]?=_
    rw[e1]
    refine⟨_,⟨e2.ok,e2.clean.mono (by omega),e2.cells,e2.chain,e2.next,e2.sum,e2.zero,e2.len⟩,j5.trans i2,j1.trans i3,j2.trans i4,fun a ha=>?_⟩
    rw[i3]at out
    exact(out a ha).trans (i5 a ha)
theorem w6w {p:Plan}(h:p.ok=true):(p.g.may=true∧p.g.w≤16)∧p.g.s≤3∧p.g.k≤4∧p.g.m≤3∧(0≤p.area∧p.area≤1)∧(0≤p.start∧p.start≤1000)∧p.txs.length≤9∧(p.snap.length:Int)≤p.g.s*p.g.k*228:=by
 unfold Plan.ok Plan.rest q9q at h
 simp only[Bool.and_eq_true,Bool.not_eq_true',decide_eq_false_iff_not]at h
 obtain⟨⟨h1,h2,_⟩,h3,h4,h5,h6,h7,h8,h9,h10,h11⟩:=h
 obtain⟨g1,g2,g3,g4,g5,g6,g7,g8⟩:=p.g.of_may h1
 have q1:p.g.s*p.g.k≤3*4:=Int.mul_le_mul (by omega) (by omega) (by omega) (by omega)
 have q0:0≤p.g.s*p.g.k:=Int.mul_nonneg (by omega) (by omega)
 rw[Q0 (p.g.s*p.g.k) (by omega) (by omega),Q0 _ (by omega) (by omega)]at h11
 exact⟨⟨h1,by omega⟩,by omega,by omega,by omega,⟨by omega,by omega⟩,⟨by omega,by omega⟩,by omega,by omega⟩
theorem u3y {a b c d:Prop}(h:a∧b∧c)(hd:d):a∧b∧c∧d:=⟨h.1,h.2.1,h.2.2,hd⟩
theorem w4s {p:Plan}(h:p.ok=true):∃ (D1 D2:Dev) (w k m S:Nat) (P:List Pc) (B:x9),
 (q5t 7 p.g).install p.sup=(0,D1)∧D1.snapWrite 7 p.g p.area 0 4 p.snap=(0,D2)∧y8f 7 p.g 2 p.start p.start 5=true∧p.ring.Ok∧(q5t 7 p.g).Ok 4096∧D1.Ok 5000∧D2.Ok 6000∧w≤16∧k≤4∧m≤3∧S≤3 ∧
 LaidP p.sup (apT p.txs p.ring D2 p.txs.length).1.next w k m S P B (apT p.txs p.ring D2 p.txs.length).2∧CleanP (apT p.txs p.ring D2 p.txs.length).2 p.g.secs 7000∧(apT p.txs p.ring D2 p.txs.length).1.start=p.start∧∀ k,k≤p.txs.length→(apT p.txs p.ring D2 k).1.Ok∧(apT p.txs p.ring D2 k).2.Ok 7000:=by
 obtain⟨⟨g1,g2⟩,g3,g4,g5,⟨a0,a1⟩,⟨s0,s1⟩,ht,hsn⟩:=w6w h
 obtain⟨w1,w2,w3,w4,w5,w6,w7,w8⟩:=p.g.of_may g1
 have hw7:X2 7=true:=by decide
 obtain⟨c0,b0⟩:=u2e 7 hw7 p.g g1
 obtain⟨z1,z2,z3⟩:=q9p g1
 have room:p.g.room=p.g.s*p.g.k*228:=by unfold GeoV.room;rw[g1]
 have ws:X2 p.start=true:=by unfold X2;simp only[Bool.and_eq_true,decide_eq_true_eq];omega
 have xm:p.sup.may=true:=by
  unfold Sup.may Sup.words
  show ([(7:Int),3,2,4,p.start,5].all X2&&decide ((3:Int)≥1)&&decide (p.area≥0)&&decide (p.area<2)&&p.g.may&&decide ((p.snap.length:Int)≥0)&&decide ((p.snap.length:Int)≤p.g.room))=true
  simp only[List.all_cons,List.all_nil,ws,g1,room]
  rw[k1t (show p.area≥0 from a0),k1t (show p.area<2 by omega),k1t (show (p.snap.length:Int)≥0 by omega),k1t hsn]
  decide
 obtain⟨D1,e1,c1,d1,f1⟩:=v1a xm c0 (by omega)
 have G:SnapG 7 p.g p.area 0 4 p.g.k.toNat p.g.m.toNat p.g.s.toNat:=⟨g1,by omega,by omega,by omega,a0,a1,by decide⟩
 have hN:GeoN p.g p.g.w.toNat (p.g.k.toNat+p.g.m.toNat) p.g.s.toNat:=⟨g1,by omega,by omega,by omega⟩
 have hsl:p.snap.length≤228*(p.g.s.toNat*p.g.k.toNat):=by
  have:(p.g.s*p.g.k:Int)=((p.g.s.toNat*p.g.k.toNat:Nat):Int):=by
   rw[Int.natCast_mul,Int.toNat_of_nonneg (by omega),Int.toNat_of_nonneg (by omega)]
  rw[this]at hsn
  omega
 obtain⟨D2,e2,c2,wr,f2⟩:=w0j G hsl c1
 obtain⟨n1,n2,n3,n4,n5,n6⟩:=G.nat
 have hsz:p.g.s.toNat*(p.g.k.toNat+p.g.m.toNat)≤3*7:=Nat.mul_le_mul (by omega) (by omega)
 obtain⟨A,hA⟩:∃ A:Nat,p.area=A:=⟨p.area.toNat,by omega⟩
 have bA:=z1c hN hA
 have bO:=z1c (area:=1 - p.area) hN (A:=1 - A) (by omega)
 have hsec:p.g.secs=4+2*p.g.w.toNat+2*(p.g.s.toNat*(p.g.k.toNat+p.g.m.toNat)):=by
  obtain⟨_,_,_,_,_,_,e7,_⟩:=hN.le
  rw[e7,Nat.mul_assoc]
 have hbl:4+2*p.g.w.toNat≤p.g.base p.area:=by rw[bA];omega
 have hnew:y8f 7 p.g 2 p.start p.start 5=true:=by
  unfold y8f
  rw[g1,k1s (show ¬ p.start<p.start by omega),k1s (show ¬ p.start - p.start > p.g.w by omega)]
  simp only[List.all_cons,List.all_nil,ws]
  decide
 have rok:=v7d hnew
 have L0:LogP p.ring D2 (p.g.secs+4+p.g.s.toNat*(p.g.k.toNat+p.g.m.toNat)) p.start 5 []:=by
  refine⟨rok,c2,⟨fun i q hi=>by simp at hi,fun kk mm k0 k1 hm _=>?_⟩,⟨fun i q hi=>by simp at hi⟩,(Int.add_zero _).symm,rfl,s0,by show (0:Int)≤p.g.w;omega⟩
  have k1:kk<p.g.w:=k1
  have hlt:4≤(q0j p.g mm kk).toNat∧(q0j p.g mm kk).toNat<4+2*p.g.w.toNat:=by
   rcases hm with rfl|rfl
   ·rw[y0i];omega
   ·rw[y0j];omega
  show D2.cells[(q0j p.g mm kk).toNat]?=_
  rw[f2 _ (.inl (by omega)),f1 _ hlt.1]
  exact b0 _ (by omega)
 have hall:∀ k,k≤p.txs.length→(apT p.txs p.ring D2 k).1.Ok∧(apT p.txs p.ring D2 k).2.Ok 7000:=fun k hk=>by
  obtain⟨P,i1,_⟩:=v7e s1 p.txs p.ring D2 _ [] L0 rfl k hk
  exact⟨i1.ok,i1.clean.ok.mono (by omega)⟩
 obtain⟨P,i1,i2,i3,i4,i5⟩:=v7e s1 p.txs p.ring D2 _ [] L0 rfl p.txs.length (k1v _)
 have i3:(apT p.txs p.ring D2 p.txs.length).1.g=p.g:=i3
 have i4:(apT p.txs p.ring D2 p.txs.length).1.vol=7:=i4
 have i5:∀ a:Nat,((a:Int)<4∨4+2*p.g.w≤(a:Int))→(apT p.txs p.ring D2 p.txs.length).2.cells[a]?=D2.cells[a]?:=i5
 refine⟨D1,D2,p.g.w.toNat,p.g.k.toNat,p.g.m.toNat,p.g.s.toNat,P,z6e (228*(p.g.s.toNat*p.g.k.toNat)) p.snap,e1,e2,hnew,rok,c0.ok.mono (by omega),c1.ok.mono (by omega),c2.ok.mono (by omega),by omega,by omega,by omega,by omega,?_⟩
 refine u3y ?_ hall
 generalize apT p.txs p.ring D2 p.txs.length=Y at i1 i2 i3 i4 i5 ⊢
 obtain⟨R,E⟩:=Y
 have i1:LogP R E (p.g.secs+4+p.g.s.toNat*(p.g.k.toNat+p.g.m.toNat)+16*p.txs.length) p.start 5 P:=i1
 have i3:R.g=p.g:=i3
 have i4:R.vol=7:=i4
 have hcl:=i1.clean
 have hcc:=i1.cells
 have hll:=i1.len
 rw[i3]at hcl hcc hll
 rw[i4]at hcc
 have hnx:=i1.next
 refine⟨?_,hcl.mono (by omega),i2⟩
 refine⟨xm,G,hN.hw,fun i hi=>?_,hcc,fun i q hq=>⟨(i1.chain.may i q hq).1,(i1.chain.may i q hq).2.1⟩,by omega,hnx,by show R.next≤_;omega,⟨fun s i hs hi=>?_⟩,y0d hsl,fun a h0 h1=>?_⟩
 ·show E.cells[i]?=_
  rw[i5 i (.inl (by omega)),f2 i (.inl (by omega))]
  exact d1 i hi
 ·have hlt:=z8e hs hi
  show E.cells[p.g.base p.area+_]?=_
  rw[i5 _ (.inr (by omega))]
  exact wr.there s i hs hi
 ·have h0:p.g.base (1 - p.area)≤a:=h0
  have h1:a<p.g.base (1 - p.area)+p.g.s.toNat*(p.g.k.toNat+p.g.m.toNat):=h1
  show E.cells[a]?=some (q7q (q0d 7 a))
  have hA1:A=0∨A=1:=by omega
  have hra:4+2*p.g.w.toNat≤a∧a<p.g.secs∧(a<p.g.base p.area∨p.g.base p.area+p.g.s.toNat*(p.g.k.toNat+p.g.m.toNat)≤a):=by
   rw[bO]at h0 h1
   rw[bA,hsec]
   rcases hA1 with rfl|rfl <;> omega
  rw[i5 a (.inr (by omega)),f2 a hra.2.2,f1 a (by omega)]
  exact b0 a hra.2.1
end Go.Proofs.YtkjklhcfgbaceaaGreat.AL
namespace Go.Proofs.YtkjklhcfgbaceaaGreat.AL
open Go Go.Proofs
theorem w4t (R:Rg)(D:Dev):AFm k0q 5 y1i [.ref 2 0] (rgH R D) (Q9 (i64 R.next) (rgH R D)):=by
 refine Z6 5 hT Tryz.func35 rfl rfl Tryz.ntmps35 rfl rfl ?_
 refine y6 hT ?_
 refine u6 (y6 hT ?_)
 refine y8 ?_
 refine x7 ?_
 refine y6 hT ?_
 refine u5 ?_
 exact x8 [0,1,2,3,4] ⟨rfl,rfl⟩ rfl
abbrev Plan.pv (p:Plan):List PV:=[.raw (.int .i64 p.g.w),.raw (.int .i64 p.g.s),.raw (.int .i64 p.g.k),.raw (.int .i64 p.g.m),.raw (.int .i64 p.start),.sl 1 (w9 p.txs),bP p.snap,.raw (.int .i64 p.area)]
abbrev Plan.av (p:Plan):AV:=.agg [i64 p.g.w,i64 p.g.s,i64 p.g.k,i64 p.g.m,i64 p.start,.p (.sl 1 (w9 p.txs)),bA p.snap,i64 p.area]
abbrev q5v (x:Sup):ABlk:=.cells y2v x.cv
abbrev Sup.nul:Sup:=⟨0,0,0,0,0,0,0,0,⟨0,0,0,0⟩⟩
theorem z6w {p:Plan}(h:p.ok=false):AF k0q z1m [p.av] [] (Q9 (.tup [x9p,Sup.nul.av,i64 0]) []):=by
 refine Q8 hT Tryz.func9 rfl rfl Tryz.ntmps9 rfl ?_
 refine u0 ⟨⟨144,[(1,.p (.box p.pv)),(3,.ref 0 0)]⟩,[q5v Sup.nul]⟩ True (y7 hT ?_) (fun _=>?_)
 ·exact⟨Wk.trans (Z4 0 p.pv rfl rfl) (z8 [1] [1,3] rfl),trivial⟩
 unfold Plan.ok at h
 cases hb:q9q 7 p.g with
 |false=>
  refine u0 ⟨⟨144,[(1,.p (.box p.pv)),(3,.ref 0 0),(5,x9p)]⟩,[q5v Sup.nul]⟩ True (y7 hT ?_) (fun _=>?_)
  ·refine Q1 (Q5 (y8j 7 p.g hb) _ rfl rfl) ?_
   exact⟨z8 [0] [1,3,5] rfl,trivial⟩
  refine u6 (y6 hT ?_)
  refine y8 ?_
  refine y6 hT ?_
  refine u5 ?_
  exact x8 [] ⟨rfl,rfl⟩ rfl
 |true=>
  rw[hb]at h
  unfold Plan.rest at h
  simp only[Bool.true_and]at h
  have wB:=y3c 7 p.g hb
  generalize q5t 7 p.g=D0 at wB
  refine u0 ⟨⟨144,[(1,.p (.box p.pv)),(3,.ref 0 0),(5,.ref 1 0)]⟩,q5v Sup.nul :: [q2x D0 2 3,.row Y7 4 (cx D0.cells),.row Y4 2 (wx D0.waits)]⟩ True (y7 hT ?_) (fun _=>?_)
  ·refine Q1 (q1h wB _ rfl) ?_
   exact⟨z8 [0,1,2,3] [1,3,5] rfl,trivial⟩
  have hcl:=Y6 p.txs
  have hbl:(bx p.snap).length=p.snap.length:=by simp[bx]
  rw[← hcl,← hbl]at h
  refine u6 (y6 hT ?_)
  refine u9 (fun c0=>?_) (fun c0=>?_)
  ·refine y8 ?_
   refine y6 hT ?_
   refine u5 ?_
   exact x8 [] ⟨rfl,rfl⟩ rfl
  rw[show decide (p.g.s > 3)=false from c0]at h
  refine u9 (fun c1=>?_) (fun c1=>?_)
  ·refine y8 ?_
   refine y6 hT ?_
   refine u5 ?_
   exact x8 [] ⟨rfl,rfl⟩ rfl
  rw[show decide (p.g.k > 4)=false from c1]at h
  refine u9 (fun c2=>?_) (fun c2=>?_)
  ·refine y8 ?_
   refine y6 hT ?_
   refine u5 ?_
   exact x8 [] ⟨rfl,rfl⟩ rfl
  rw[show decide (p.g.m > 3)=false from c2]at h
  refine u9 (fun c3=>?_) (fun c3=>?_)
  ·refine y8 ?_
   refine y6 hT ?_
   refine u5 ?_
   exact x8 [] ⟨rfl,rfl⟩ rfl
  rw[show decide (p.area<0)=false from c3]at h
  refine u9 (fun c4=>?_) (fun c4=>?_)
  ·refine y8 ?_
   refine y6 hT ?_
   refine u5 ?_
   exact x8 [] ⟨rfl,rfl⟩ rfl
  rw[show decide (p.area > 1)=false from c4]at h
  refine u9 (fun c5=>?_) (fun c5=>?_)
  ·refine y8 ?_
   refine y6 hT ?_
   refine u5 ?_
   exact x8 [] ⟨rfl,rfl⟩ rfl
  rw[show decide (p.start<0)=false from c5]at h
  refine u9 (fun c6=>?_) (fun c6=>?_)
  ·refine y8 ?_
   refine y6 hT ?_
   refine u5 ?_
   exact x8 [] ⟨rfl,rfl⟩ rfl
  rw[show decide (p.start > 1000)=false from c6]at h
  refine u9 (fun c7=>?_) (fun c7=>?_)
  ·refine y8 ?_
   refine y6 hT ?_
   refine u5 ?_
   exact x8 [] ⟨rfl,rfl⟩ rfl
  rw[show decide ((((w9 p.txs).length:Nat):Int) > 9)=false from c7]at h
  refine y8 (u9 (fun c8=>?_) (fun c8=>?_))
  ·refine y6 hT ?_
   refine u5 ?_
   exact x8 [] ⟨rfl,rfl⟩ rfl
  rw[show decide ((((bx p.snap).length:Nat):Int) > IntKind.i64.wrap (IntKind.i64.wrap (p.g.s*p.g.k)*228))=false from c8]at h
  exact absurd h (by decide)
abbrev Plan.supB (p:Plan):Sup:=⟨7,3,2,p.area,4,((bx p.snap).length:Nat),p.start,5,p.g⟩
abbrev Sup.pvs (x:Sup):List PV:=[.raw (.int .i64 x.vol),.raw (.int .i64 x.gen),.raw (.int .i64 x.epoch),.raw (.int .i64 x.area),.raw (.int .i64 x.snap),.raw (.int .i64 x.long),.raw (.int .i64 x.start),.raw (.int .i64 x.chain),.raw (.int .i64 x.g.w),.raw (.int .i64 x.g.s),.raw (.int .i64 x.g.k),.raw (.int .i64 x.g.m)]
theorem z8g {p:Plan}(h:p.ok=true):∃ (w k m S:Nat) (P:List Pc) (B:x9) (D:Dev) (next:Int),
 LaidP p.sup next w k m S P B D∧CleanP D p.g.secs 7000∧(w≤16∧k≤4∧m≤3∧S≤3)∧AF k0q z1m [p.av] [] (Q9 (.tup [.ref 0 0,p.sup.av,i64 next]) (Y3 D)):=by
 obtain⟨D1,D2,w,k,m,S,P,B,e1,e2,hnew,rok,o0,o1,o2,hw,hk,hm,hS,hL,hC,hst,hall⟩:=w4s h
 refine⟨w,k,m,S,P,B,_,_,hL,hC,⟨hw,hk,hm,hS⟩,?_⟩
 obtain⟨⟨g1,g2⟩,g3,g4,g5,⟨a0,a1⟩,⟨s0,s1⟩,ht,hsn⟩:=w6w h
 obtain⟨w1,w2,w3,w4,w5,w6,w7,w8⟩:=p.g.of_may g1
 have hcl:=Y6 p.txs
 have hbl:(bx p.snap).length=p.snap.length:=by simp[bx]
 have hb:q9q 7 p.g=true:=by unfold Plan.ok at h;rw[k1u]at h;exact h.1
 have hs:¬ (((bx p.snap).length:Nat):Int) > IntKind.i64.wrap (IntKind.i64.wrap (p.g.s*p.g.k)*228):=by
  have q1:p.g.s*p.g.k≤3*4:=Int.mul_le_mul (by omega) (by omega) (by omega) (by omega)
  have q0:0≤p.g.s*p.g.k:=Int.mul_nonneg (by omega) (by omega)
  rw[Q0 (p.g.s*p.g.k) (by omega) (by omega),Q0 _ (by omega) (by omega)]
  omega
 have q1:p.g.s*p.g.k≤3*4:=Int.mul_le_mul (by omega) (by omega) (by omega) (by omega)
 have hsl:p.snap.length≤1000000:=by omega
 clear hL hC hst hsn q1
 have hy:p.sup=p.supB:=by unfold Plan.sup;rw[← hbl]
 have wB:=y3c 7 p.g hb
 have wI:=w0u (q5t 7 p.g) p.sup 4096 o0 (by omega)
 rw[e1,hy]at wI
 have wW:=w4c D1 7 p.g p.area 0 4 p.snap g4 g5 hsl 5000 o1 (by omega)
 rw[e2]at wW
 have wN:=v6m D2 7 p.g 2 p.start p.start 5 hnew
 have hz:apT p.txs p.ring D2 0=(p.ring,D2):=rfl
 have hsu:∀ k,apT p.txs p.ring D2 (k+1)=match p.txs[k]? with
  |some s=>match decide ((s.length:Int)≤1500) with
   |true=>((apT p.txs p.ring D2 k).1.append (apT p.txs p.ring D2 k).2 s).2
   |false=>apT p.txs p.ring D2 k
  |none=>apT p.txs p.ring D2 k:=fun k=>rfl
 have wN:AFm k0q 1 y5x [.ref 0 0,i64 7,p.g.av,i64 2,i64 p.start,i64 p.start,i64 5] (Y3 D2) (Q9 (.tup [.ref 2 0,i64 0]) (rgH p.ring D2)):=wN
 generalize p.ring=R0 at *
 generalize q5t 7 p.g=D0 at wB wI
 generalize apT p.txs R0 D2=F at *
 clear e1 e2 h hnew rok o0 o1 o2 hw hk hm hS
 refine AF.mono (R:=fun r H'=>∃ z:Rg × Dev,z=F p.txs.length∧r=.tup [.ref 0 0,p.supB.av,i64 z.1.next]∧H'=Y3 z.2) ?_ (by rintro r H' ⟨z,rfl,rfl,rfl⟩;exact⟨by rw[hy],rfl⟩)
 refine Q8 hT Tryz.func9 rfl rfl Tryz.ntmps9 rfl ?_
 refine u0 ⟨⟨144,[(1,.p (.box p.pv)),(3,.ref 0 0)]⟩,[q5v Sup.nul]⟩ True (y7 hT ?_) (fun _=>?_)
 ·exact⟨Wk.trans (Z4 0 p.pv rfl rfl) (z8 [1] [1,3] rfl),trivial⟩
 refine u0 ⟨⟨144,[(1,.p (.box p.pv)),(3,.ref 3 0),(5,.ref 0 0)]⟩,Y3 D0++[q5v Sup.nul]⟩ True (y7 hT ?_) (fun _=>?_)
 ·refine Q1 (q1h wB _ rfl) ?_
  exact⟨z8 [1,2,3,0] [1,3,5] rfl,trivial⟩
 refine u0 ⟨⟨144,[(1,.p (.box p.pv)),(3,.ref 3 0),(5,.ref 0 0)]⟩,Y3 D0++[q5v Sup.nul]⟩ True (y6 hT ?_) (fun _=>?_)
 ·refine u9 (fun c0=>absurd (k0z (show decide (p.g.s > 3)=true from c0)) (by omega)) (fun c0=>?_)
  refine u9 (fun c1=>absurd (k0z (show decide (p.g.k > 4)=true from c1)) (by omega)) (fun c1=>?_)
  refine u9 (fun c2=>absurd (k0z (show decide (p.g.m > 3)=true from c2)) (by omega)) (fun c2=>?_)
  refine u9 (fun c3=>absurd (k0z (show decide (p.area<0)=true from c3)) (by omega)) (fun c3=>?_)
  refine u9 (fun c4=>absurd (k0z (show decide (p.area > 1)=true from c4)) (by omega)) (fun c4=>?_)
  refine u9 (fun c5=>absurd (k0z (show decide (p.start<0)=true from c5)) (by omega)) (fun c5=>?_)
  refine u9 (fun c6=>absurd (k0z (show decide (p.start > 1000)=true from c6)) (by omega)) (fun c6=>?_)
  refine u9 (fun c7=>absurd (k0z (show decide ((((w9 p.txs).length:Nat):Int) > 9)=true from c7)) (by omega)) (fun c7=>?_)
  refine y8 (u9 (fun c8=>absurd (k0z (show decide ((((bx p.snap).length:Nat):Int) > IntKind.i64.wrap (IntKind.i64.wrap (p.g.s*p.g.k)*228))=true from c8)) hs) (fun c8=>?_))
  exact x7 ⟨z8 [0,1,2,3] [1,3,5] rfl,trivial⟩
 refine u0 ⟨⟨144,[(1,.p (.box p.pv)),(3,.ref 3 0),(5,.ref 0 0),(6,.p (.box p.supB.pvs))]⟩,Y3 D0++[q5v Sup.nul]⟩ True (y7 hT ?_) (fun _=>?_)
 ·exact⟨Wk.trans (Z4 4 p.supB.pvs rfl rfl) (z8 [0,1,2,3] [1,3,5,6] rfl),trivial⟩
 refine u0 ⟨⟨144,[(1,.p (.box p.pv)),(3,.ref 3 0),(5,.ref 0 0),(6,.p (.box p.supB.pvs)),(7,i64 0)]⟩,Y3 D1++[q5v Sup.nul]⟩ True (y7 hT ?_) (fun _=>?_)
 ·refine Q1 (Z7 [0,1,2] wI rfl rfl rfl) ?_
  exact⟨z8 [0,4,5,3] [1,3,5,6,7] rfl,trivial⟩
 refine u0 ⟨⟨144,[(1,.p (.box p.pv)),(3,.ref 3 0),(5,.ref 0 0),(6,.p (.box p.supB.pvs)),(7,i64 0),(8,i64 0)]⟩,Y3 D2++[q5v Sup.nul]⟩ True (y7 hT ?_) (fun _=>?_)
 ·refine Q1 (Z7 [0,1,2] wW rfl rfl rfl) ?_
  exact⟨z8 [0,4,5,3] [1,3,5,6,7,8] rfl,trivial⟩
 refine u0 ⟨⟨144,[(1,.p (.box p.pv)),(3,.ref 5 0),(5,.ref 0 0),(6,.p (.box p.supB.pvs)),(7,i64 0),(8,i64 0),(9,.ref 2 0),(10,i64 0)]⟩,rgH R0 D2++[q5v Sup.nul]⟩ True (y7 hT ?_) (fun _=>?_)
 ·refine Q1 (Z7 [0,1,2] wN rfl rfl rfl) ?_
  exact⟨z8 [0,4,5,6,7,3] [1,3,5,6,7,8,9,10] rfl,trivial⟩
 refine u0 ⟨⟨144,[(1,.p (.box p.pv)),(3,.ref 5 0),(5,.ref 0 0),(6,.p (.box p.supB.pvs)),(9,.ref 2 0)]⟩,rgH R0 D2++[q5v Sup.nul]⟩ True (y6 hT ?_) (fun _=>?_)
 ·refine y8 ?_
  exact x7 ⟨z8 [0,1,2,3,4,5] [1,3,5,6,9] rfl,trivial⟩
 refine Q4 (fun st=>∃ (R:Rg) (D:Dev),(R,D)=F p.txs.length∧st=⟨⟨144,[(3,.ref 5 0),(5,.ref 0 0),(6,.p (.box p.supB.pvs)),(9,.ref 2 0)]⟩,rgH R D++[q5v Sup.nul]⟩) (y6 hT ?_) ?_
 ·refine x3 ?_
  refine Q3 (fun n st=>∃ (k:Nat) (j:Int) (R:Rg) (D:Dev),n+k=p.txs.length∧j=k∧(R,D)=F k∧st=⟨⟨144,[(1,.p (.box p.pv)),(3,.ref 5 0),(5,.ref 0 0),(6,.p (.box p.supB.pvs)),(9,.ref 2 0),(11,i64 j)]⟩,rgH R D++[q5v Sup.nul]⟩) p.txs.length ⟨⟨144,_⟩,_⟩ (z8 [0,1,2,3,4,5] [1,3,5,6,9,11] rfl) ⟨0,0,R0,D2,rfl,rfl,hz.symm,rfl⟩ ?_
  rintro n st ⟨k,j,R,D,hnk,hj,hF,rfl⟩
  refine u6 (y6 hT ?_)
  refine y8 (u9 (fun h=>?_) (fun h=>?_))
  ·have h:=k0z (show decide (j<(((w9 p.txs).length:Nat):Int))=true from h)
   have hk:k<p.txs.length:=by omega
   have hx:=k0w hk
   generalize p.txs[k]=s at hx
   have hxp:(w9 p.txs)[j.toNat]?=some [bP s]:=by rw[hj,k0u];exact Y5 hx
   have hsk:=hsu k
   rw[hx]at hsk
   have hsk:F (k+1)=match decide ((s.length:Int)≤1500) with
    |true=>((F k).1.append (F k).2 s).2
    |false=>F k:=hsk
   have hok:=hall k (by omega)
   rw[← hF]at hsk hok
   have hbs:(bx s).length=s.length:=by simp[bx]
   refine x7 ?_
   refine Q4 (fun st=>∃ (R:Rg) (D:Dev),(R,D)=F (k+1)∧st=⟨⟨144,[(1,.p (.box p.pv)),(3,.ref 5 0),(5,.ref 0 0),(6,.p (.box p.supB.pvs)),(9,.ref 2 0),(11,i64 j)]⟩,rgH R D++[q5v Sup.nul]⟩) (x3 (y6 hT ?_)) ?_
   ·refine⟨by omega,Z2 hxp ?_⟩
    refine y8 (u9 (fun h2=>?_) (fun h2=>?_))
    ·have h2:=k0z (show decide ((((bx s).length:Nat):Int)≤1500)=true from h2)
     rw[k1t (show (s.length:Int)≤1500 by omega)]at hsk
     have wA:=x9k R D s 7000 hok.1 hok.2 (by omega) (by omega)
     have hsk:F (k+1)=(R.append D s).2:=hsk
     generalize R.append D s=Y at wA hsk
     obtain⟨e,R2,E2⟩:=Y
     refine y7 hT ?_
     refine⟨by omega,Z2 hxp ?_⟩
     refine Q1 (Z7 [0,1,2,3,4] wA rfl rfl rfl) ?_
     exact⟨_,z8 [0,1,2,6,7,5] [1,3,5,6,9,11] rfl,R2,E2,hsk.symm,rfl⟩
    ·have h2:=k0y (show decide ((((bx s).length:Nat):Int)≤1500)=false from h2)
     rw[k1s (show ¬ (s.length:Int)≤1500 by omega)]at hsk
     exact x7 ⟨_,z8 [0,1,2,3,4,5] [1,3,5,6,9,11] rfl,R,D,hsk.symm,rfl⟩
   ·rintro _ ⟨R2,E2,hF2,rfl⟩
    refine y7 hT ?_
    exact⟨n - 1,by omega,_,z8 [0,1,2,3,4,5] [1,3,5,6,9,11] rfl,k+1,IntKind.i64.wrap (j+1),R2,E2,by omega,by rw[Q0 _ (by omega) (by omega)];omega,hF2,rfl⟩
  ·have h:=k0y (show decide (j<(((w9 p.txs).length:Nat):Int))=false from h)
   rw[show k=p.txs.length by omega]at hF
   refine Q7 ?_
   exact⟨_,z8 [0,1,2,3,4,5] [3,5,6,9] rfl,R,D,hF,rfl⟩
 rintro _ ⟨R,D,hF,rfl⟩
 refine u6 (Z0 [5] [] hT u7 (by rfl) ?_)
 refine⟨_,Z7 [0,1,2,3,4] (w4t R D) rfl rfl rfl,?_⟩
 refine u5 ?_
 exact x8 [0,3,4] ⟨(R,D),hF,rfl,rfl⟩ rfl
end Go.Proofs.YtkjklhcfgbaceaaGreat.AL
namespace Go.Proofs.YtkjklhcfgbaceaaGreat.AL
open Go Go.Proofs Go.Proofs.YtkjklhcfgbaceaaGreat.AL.Crc
abbrev p0:Plan:=⟨⟨8,1,2,1⟩,0,[[1],[2]],[],0⟩
theorem x2i {D E:Dev}{a:Nat}(ha:a<D.cells.length)(hE:E.cells=D.cells.modify a fun c=>{ c with lost:=true })(b:Nat):Q2 E b=if b=a then [] else Q2 D b:=by
 unfold Q2
 rw[hE,List.getElem?_modify]
 have hs:=k0w ha
 generalize D.cells[a]=c at hs
 by_cases e:b=a
 ·subst e
  rw[if_pos rfl,hs]
  simp
 ·rw[if_neg e]
  have e2:¬ a=b:=fun h=>e h.symm
  cases D.cells[b]? with
  |none=>rfl
  |some c=>simp[e2]
theorem w6x:(W9 []).2≠0:=by decide
theorem v1b (a:Int):q4y [a]=[a]:=List.perm_singleton.mp (w4d [a])
theorem v1c {l:List Int}(h:l.length=0):q4y l=[]:=List.eq_nil_of_length_eq_zero (by rw[y2m,h])
theorem y9y:∃ (D E F G H:Dev) (next:Int),AF k0q z1m [p0.av] [] (Q9 (.tup [.ref 0 0,p0.sup.av,i64 next]) (Y3 D)) ∧
 D.Ok 7000∧E.Ok 8000∧F.Ok 8000∧G.Ok 8000∧D.fault (z4v 2)=(0,E)∧E.hurts p0.sup next=(([2],0),F)∧F.step p0.sup next 0=((1,0),G)∧G.hurts p0.sup next=(([],0),H):=by
 obtain⟨w,k,m,S,P,B,D,next,hL,hC,hb,wL⟩:=z8g (p:=p0) (by decide +kernel)
 have e1:w=8:=by have:(8:Int)=w:=hL.hw;omega
 have e2:k=2:=by have:(2:Int)=k:=hL.G.hk;omega
 have e3:m=1:=by have:(1:Int)=m:=hL.G.hm;omega
 have e4:S=1:=by have:(1:Int)=S:=hL.G.hs;omega
 subst e1 e2 e3 e4
 obtain⟨_,_,_,_,_,_,e7,_⟩:=hL.geo.le
 have e7:p0.g.secs=26:=e7
 have hC:CleanP D p0.g.secs 7000:=hC
 obtain⟨E,f1,f2,f3⟩:=u0b hC (k:=2) (by rw[e7];decide)
 have hv:=x2i (by rw[hC.len,e7];decide) f3
 have h256:∀ a,a<26→(Q2 D a).length=256:=fun a ha=>hL.len256 (show a<p0.g.secs by rw[e7];exact ha)
 have hpr:∀ a,a<26→(!(Q2 D a==Q2 E a))=decide (a=2):=fun a ha=>by
  rw[hv a]
  by_cases e:a=2
  ·rw[if_pos e,k1t e]
   have:(Q2 D a==[])=false:=beq_eq_false_iff_ne.mpr fun h=>by have:=h256 a ha;rw[h]at this;exact absurd this (by decide)
   rw[this];rfl
  ·rw[if_neg e,k1s e,beq_self_eq_true];rfl
 have hmem:∀ i,i<11→∀ a∈Z9 8 3 i,a<26∧y9w 8 3 a=i:=fun i hi a ha=>by
  have:=q9s hL (show i<1+8+2*1 from hi) ha
  have e7:p0.sup.g.secs=26:=e7
  rw[e7]at this;exact this
 have hbd:∀ i,i<11→bdL (Q2 E) (Q2 D) (Z9 8 3 i)=if i=0 then [2] else []:=fun i hi=>by
  have e:bdL (Q2 E) (Q2 D) (Z9 8 3 i)=(Z9 8 3 i).filter fun a=>decide (a=2):=by
   unfold bdL
   exact List.filter_congr fun a ha=>hpr a (hmem i hi a ha).1
  rw[e]
  by_cases h0:i=0
  ·subst h0;decide
  ·rw[if_neg h0,List.filter_eq_nil_iff]
   intro a ha h2
   have h2:=k0z h2
   have:=(hmem i hi a ha).2
   rw[h2]at this
   have:y9w 8 3 2=i:=this
   exact h0 (this.symm.trans (by decide))
 have hB:BornP p0.sup 8 2 1 1 D E 7001:=by
  refine⟨f2,fun a ha=>?_,fun i hi=>?_⟩
  ·rw[hv a]
   by_cases e:a=2
   ·rw[if_pos e];exact .inr w6x
   ·rw[if_neg e];exact .inl rfl
  ·show (bdL (Q2 E) (Q2 D) (Z9 8 3 i)).length≤_
   rw[hbd i hi]
   unfold q5x
   by_cases h0:i=0
   ·rw[if_pos h0,if_pos h0];decide
   ·rw[if_neg h0];exact Nat.zero_le _
 have hcat:∀ j,j≤11→y8z (Q2 E) (Q2 D) 8 3 j=if j=0 then [] else [2]:=by
  intro j
  induction j with
  |zero=>intro _;rfl
  |succ j ih=>
   intro hj
   show y8z (Q2 E) (Q2 D) 8 3 j++bdL (Q2 E) (Q2 D) (Z9 8 3 j)=_
   rw[ih (by omega),hbd j (by omega),if_neg (show ¬ j+1=0 by omega)]
   by_cases h0:j=0
   ·rw[if_pos h0,if_pos h0];rfl
   ·rw[if_neg h0,if_neg h0];rfl
 obtain⟨F,g1,g2,g3⟩:=w6v hL hB
 have hcE:=hcat 11 (k1v _)
 rw[show y8z (Q2 E) (Q2 D) 8 (2+1) (1+8+2*1)=[2] from hcE]at g1
 have hcF:∀ a,Q2 F a=Q2 E a:=fun a=>by unfold Q2;rw[g3]
 obtain⟨G,s1,s2,s3,s4,s5⟩:=v0z hL g2 (i:=0) (by decide)
 have hb0:bdL (Q2 F) (Q2 D) (Z9 8 (2+1) 0)=[2]:=by rw[y4s fun c _=>hcF c];exact hbd 0 (by decide)
 rw[hb0]at s1 s5
 have ht:y9x (Q2 F) (Q2 D) 8 (2+1) (1+8+2*1)=1:=by
  have:Q2 F=Q2 E:=funext hcF
  rw[this]
  show (y8z (Q2 E) (Q2 D) 8 3 11).length=1
  rw[hcE];rfl
 have hG0:(y8z (Q2 G) (Q2 D) 8 (2+1) (1+8+2*1)).length=0:=by
  have s5:y9x (Q2 G) (Q2 D) 8 (2+1) (1+8+2*1)+1=y9x (Q2 F) (Q2 D) 8 (2+1) (1+8+2*1):=s5
  rw[ht]at s5
  show y9x _ _ _ _ _=0
  omega
 obtain⟨H,t1,t2,t3⟩:=w6v hL s2
 rw[v1c (by rw[k1x,hG0])]at t1
 rw[show q4y ([2].map fun a:Nat=>(a:Int))=[2] from v1b 2]at g1
 exact⟨D,E,F,G,H,next,wL,hC.ok,f2.ok.mono (by omega),g2.clean.ok.mono (by omega),s2.clean.ok.mono (by omega),f1,g1,s1,t1⟩
theorem y3h:AF k0q y9b [] [] (Q9 (bl true) []):=by
 obtain⟨D,E,F,G,H,next,wL,oD,oE,oF,oG,f1,h1,s1,h2⟩:=y9y
 have wf:=z7r D (z4v 2) 7000 oD (by omega)
 rw[f1]at wf
 have wH:=y8r E p0.sup next (by decide) (by decide) 8000 oE (by omega)
 rw[h1]at wH
 have wS:=z8b F p0.sup next 0 (by decide) (by decide) 8000 oF (by omega)
 rw[s1]at wS
 have wG:=y8r G p0.sup next (by decide) (by decide) 8000 oG (by omega)
 rw[h2]at wG
 have wI:=w4g [2] [2] (by decide)
 rw[show decide (([2]:List Int)=[2])=true from rfl]at wI
 clear f1 h1 s1 h2 oD oE oF oG
 have wH:AFm k0q 1 z1n [.ref 0 0,p0.sup.av,i64 next] (Y3 E) (Q9 (.tup [.p (.sl 1 (Y8 [2])),i64 0]) (Y3 F)):=wH
 have wS:AFm k0q 1 q5f [.ref 0 0,p0.sup.av,i64 next,i64 0] (Y3 F) (Q9 (.tup [i64 1,i64 0]) (Y3 G)):=wS
 have wG:AFm k0q 1 z1n [.ref 0 0,p0.sup.av,i64 next] (Y3 G) (Q9 (.tup [.p (.sl 1 (Y8 [])),i64 0]) (Y3 H)):=wG
 refine Q8 hT Tryz.func8 rfl rfl Tryz.ntmps8 rfl ?_
 refine y6 hT ?_
 refine u0 ⟨⟨72,[(1,.ref 0 0),(2,.p (.box p0.sup.pvs)),(3,i64 next)]⟩,Y3 D⟩ True (X6 (fun k=>Nat.beq 1 k||(Nat.beq 2 k||Nat.beq 3 k)) hT ?_) (fun _=>?_)
 ·refine⟨⟨rfl,rfl⟩,?_⟩
  refine⟨⟨rfl,rfl⟩,?_⟩
  refine⟨⟨rfl,rfl⟩,?_⟩
  refine Q1 (y2a wL ⟨.inl rfl,.inl rfl,.inl rfl,.inl rfl,.inl rfl,.inl rfl,.inr ⟨rfl,1,rfl⟩,.inl rfl,trivial⟩) ?_
  exact⟨Wk.trans (Z4 3 p0.sup.pvs rfl rfl) (z8 [0,1,2] [1,2,3] rfl),trivial⟩
 refine u0 ⟨⟨72,[(1,.ref 0 0),(2,.p (.box p0.sup.pvs)),(3,i64 next)]⟩,Y3 D⟩ True (y6 hT ?_) (fun _=>?_)
 ·refine y8 ?_
  exact x7 ⟨z8 [0,1,2] [1,2,3] rfl,trivial⟩
 refine u0 ⟨⟨72,[(1,.ref 0 0),(2,.p (.box p0.sup.pvs)),(3,i64 next)]⟩,Y3 E⟩ True (y7 hT ?_) (fun _=>?_)
 ·refine Q1 (Z7 [0,1,2] wf rfl rfl rfl) ?_
  exact⟨z8 [0,1,2] [1,2,3] rfl,trivial⟩
 refine u0 ⟨⟨72,[(1,.ref 0 0),(2,.p (.box p0.sup.pvs)),(3,i64 next),(4,.p (.sl 1 (Y8 [2]))),(5,i64 0)]⟩,Y3 F⟩ True (y7 hT ?_) (fun _=>?_)
 ·refine Q1 (Z7 [0,1,2] wH rfl rfl rfl) ?_
  exact⟨z8 [0,3,4] [1,2,3,4,5] rfl,trivial⟩
 refine u0 ⟨⟨72,[(1,.ref 0 0),(2,.p (.box p0.sup.pvs)),(3,i64 next),(4,.p (.sl 1 (Y8 [2]))),(5,i64 0),(6,i64 1),(7,i64 0)]⟩,Y3 G⟩ True (y7 hT ?_) (fun _=>?_)
 ·refine Q1 (Z7 [0,1,2] wS rfl rfl rfl) ?_
  exact⟨z8 [0,3,4] [1,2,3,4,5,6,7] rfl,trivial⟩
 refine u0 ⟨⟨72,[(4,.p (.sl 1 (Y8 [2]))),(5,i64 0),(6,i64 1),(7,i64 0),(8,.p (.sl 1 (Y8 []))),(9,i64 0)]⟩,[]⟩ True (y7 hT ?_) (fun _=>?_)
 ·refine Q1 (Z7 [0,1,2] wG rfl rfl rfl) ?_
  exact⟨z8 [] [4,5,6,7,8,9] rfl,trivial⟩
 refine u0 ⟨⟨72,[(5,i64 0),(6,i64 1),(7,i64 0),(8,.p (.sl 1 (Y8 []))),(9,i64 0),(10,bl true)]⟩,[]⟩ True (X6 (fun k=>Nat.beq 1 k) hT ?_) (fun _=>?_)
 ·refine⟨⟨rfl,rfl⟩,?_⟩
  refine Q1 (Q5 wI _ rfl rfl) ?_
  exact⟨z8 [] [5,6,7,8,9,10] rfl,trivial⟩
 refine y6 hT ?_
 refine u5 ?_
 exact x8 [] ⟨rfl,rfl⟩ rfl
end Go.Proofs.YtkjklhcfgbaceaaGreat.AL
namespace Go.Proofs.YtkjklhcfgbaceaaGreat.AL
open Go Go.Proofs
theorem w0w (D:Dev):AFm k0q 3 y3p [.ref 0 0] (Y3 D) (Q9 (i64 D.ops) (Y3 D)):=by
 refine Z6 3 hT Tryz.func20 rfl rfl Tryz.ntmps20 rfl rfl ?_
 refine y6 hT ?_
 refine u6 (y6 hT ?_)
 refine y8 ?_
 refine x7 ?_
 refine y6 hT ?_
 refine u5 ?_
 exact x8 [0,1,2] ⟨rfl,rfl⟩ rfl
end Go.Proofs.YtkjklhcfgbaceaaGreat.AL
namespace Go.Proofs.YtkjklhcfgbaceaaGreat.AL
open Go Go.Proofs Go.Proofs.YtkjklhcfgbaceaaGreat.AL.Crc
theorem z1d {W:Nat→x9}{S:List x9}{at_:List Int}{Q:Int→Prop}(hQ:∀ a∈at_,Q a):∀ k,k≤at_.length→∀ q∈V9 W S at_ k,Q q.at_
 |0,_,q,hq=>absurd hq (by simp[V9])
 |k+1,hk,q,hq=>by
  have ih:=z1d hQ (W:=W) (S:=S) k (by omega)
  unfold V9 at hq
  split at hq
  ·exact ih q hq
  ·rcases List.mem_append.mp hq with hq|hq
   ·exact ih q hq
   ·rw[List.mem_singleton]at hq
    subst hq
    show Q (at_.getD k 0)
    rw[k0v,k0w (show k<at_.length by omega)]
    exact hQ _ (k1w _)
theorem v7f {x:Sup}{next i:Int}{at_:List Int}{S:List x9}{Q:Int→Prop}(hQ:∀ a∈at_,Q a):∀ q∈(q3t x next i at_ S).1,Q q.at_:=by
 unfold q3t
 split
 ·exact z1d hQ _ (k1v _)
 ·split
  ·unfold z0v
   split
   ·exact z1d hQ _ (k1v _)
   ·split
    ·exact fun q hq=>absurd hq (by simp)
    ·exact z1d hQ _ (k1v _)
  ·unfold q3r
   split
   ·exact z1d hQ _ (k1v _)
   ·split
    ·exact fun q hq=>absurd hq (by simp)
    ·exact z1d hQ _ (k1v _)
theorem w0x {N:Nat}:∀ (ps:List Put9) {D:Dev} {b:Nat} (m:Int),(∀ p∈ps,0≤p.at_∧p.at_<(N:Int))→CleanP D N b→OpsR D (q4g z3b ps D m).2.1 (2*ps.length)
 |[],D,b,m,_,h=>.refl D _
 |p :: r,D,b,m,hp,h=>by
  obtain⟨h0,h1⟩:=hp p (by simp)
  have hk:((p.at_.toNat:Nat):Int)=p.at_:=by omega
  rw[List.length_cons,q8q]
  by_cases hl:p.s.length=256
  ·obtain⟨E,g1,g2,g3⟩:=z4u h (k:=p.at_.toNat) (by omega) hl
   rw[hk]at g1
   have ho:=w0r D p.at_ p.s
   rw[g1]at ho
   have e1:D.one p.at_ p.s=(0,E):=by
    show Dev.tryK 4 D p.at_ p.s=_
    unfold Dev.tryK
    rw[g1];rfl
   have eg:z3b D m p.at_ p.s=(0,(E,y3z 0 m)):=by unfold z3b;rw[e1]
   rw[eg]
   have ih:=w0x r (y3z 0 m) (fun q hq=>hp q (by simp[hq])) g2
   rw[show 2*(r.length+1)=2+2*r.length by omega]
   exact OpsR.trans ho ih
  ·have hw:D.write p.at_ p.s=(1,D):=by
    unfold Dev.write
    have hh:=x9m h.len (k:=p.at_.toNat) (by omega)
    rw[hk]at hh
    rw[h.dead,hh,show ((p.s.length:Int) != 256)=true by rw[bne_iff_ne];omega]
   have ho:D.once p.at_ p.s=((false,1),D):=by unfold Dev.once;rw[hw];rfl
   have e1:D.one p.at_ p.s=(1,D):=by
    show Dev.tryK 4 D p.at_ p.s=_
    unfold Dev.tryK
    rw[ho];rfl
   have eg:z3b D m p.at_ p.s=(1,(D,m)):=by unfold z3b;rw[e1];rfl
   rw[eg]
   exact .refl D _
theorem v7g {x:Sup}{next:Int}{w k m S:Nat}{P:List Pc}{B:x9}{D:Dev}(h:LaidP x next w k m S P B D){E:Dev}{b:Nat}(hC:CleanP E x.g.secs b){i:Nat}(hi:i<1+w+2*S):OpsR E (E.step x next i).2 (3*(Z9 w (k+m) i).length):=by
 obtain⟨R,w1,w2,w3,w4,w5⟩:=x5i h hC.live hi
 have hR:=w2.clean (w4.trans hC.armed)
 have hat:=v7f (x:=x) (next:=next) (i:=i) (at_:=(Z9 w (k+m) i).map fun a:Nat=>(a:Int)) (S:=(Z9 w (k+m) i).map (Q2 E)) (Q:=fun a=>0≤a∧a<(x.g.secs:Int)) (fun a ha=>by
  rw[List.mem_map]at ha
  obtain⟨c,hc,rfl⟩:=ha
  have:=(q9s h hi hc).1
  omega)
 have hlen:=x1w x next i ((Z9 w (k+m) i).map fun a:Nat=>(a:Int)) ((Z9 w (k+m) i).map (Q2 E))
 rw[k1x]at hlen
 unfold Dev.step
 rw[w1]
 generalize q3t x next i ((Z9 w (k+m) i).map fun a:Nat=>(a:Int)) ((Z9 w (k+m) i).map (Q2 E))=Y at hat hlen
 obtain⟨ps,e⟩:=Y
 have ho:=OpsR.trans w5 (w0x ps 0 hat hR)
 have hlen:ps.length≤(Z9 w (k+m) i).length:=hlen
 split
 ·exact w5.mono (by omega)
 ·split
  ·exact ho.mono (by omega)
  ·exact ho.mono (by omega)
theorem v1d (p:Plan)(l:List Flt)(i:Int):AF k0q y1h [p.av,.p (.sl 9 (flX l)),i64 i] [] (Q9 (bl true) []):=by
 have hfl:=w6q l
 refine Q8 hT Tryz.func6 rfl rfl Tryz.ntmps6 rfl ?_
 refine u0 ⟨⟨63,[(1,.p (.sl 9 (flX l))),(2,i64 i),(3,.p (.box p.pv))]⟩,[]⟩ True (y7 hT ?_) (fun _=>?_)
 ·exact⟨Wk.trans (Z4 0 p.pv rfl rfl) (z8 [] [1,2,3] rfl),trivial⟩
 refine u0 ⟨⟨63,[(1,.p (.sl 9 (flX l))),(2,i64 i),(3,.p (.box p.pv)),(7,bl true)]⟩,[]⟩ True (y7 hT ?_) (fun _=>?_)
 ·refine Q1 (Q5 y3h _ rfl rfl) ?_
  exact⟨z8 [] [1,2,3,7] rfl,trivial⟩
 cases hok:p.ok with
 |false=>
  refine u0 ⟨⟨63,[(7,bl true),(8,x9p)]⟩,[]⟩ True (y7 hT ?_) (fun _=>?_)
  ·refine Q1 (Q5 (z6w hok) _ rfl rfl) ?_
   exact⟨z8 [] [7,8] rfl,trivial⟩
  refine u6 (y6 hT ?_)
  refine y8 ?_
  refine y6 hT ?_
  refine u5 ?_
  exact x8 [] ⟨rfl,rfl⟩ rfl
 |true=>
 obtain⟨w,k,m,S,P,B,D,next,hL,hC,⟨hw,hk4,hm3,hS⟩,wL⟩:=z8g hok
 obtain⟨⟨hg,_⟩,g3,g4,g5,_⟩:=w6w hok
 have wG:=z2i p.g
 have hgr:p.g.groups=((1+w+2*S:Nat):Int):=hL.geo.groups
 refine u0 ⟨⟨63,[(1,.p (.sl 9 (flX l))),(2,i64 i),(3,.p (.box p.pv)),(7,bl true),(8,.ref 0 0),(9,.p (.box p.sup.pvs)),(10,i64 next)]⟩,Y3 D⟩ True (y7 hT ?_) (fun _=>?_)
 ·refine Q1 wL ?_
  exact⟨Wk.trans (Z4 3 p.sup.pvs rfl rfl) (z8 [0,1,2] [1,2,3,7,8,9,10] rfl),trivial⟩
 refine u0 ⟨⟨63,[(1,.p (.sl 9 (flX l))),(2,i64 i),(3,.p (.box p.pv)),(8,.ref 0 0),(9,.p (.box p.sup.pvs)),(10,i64 next)]⟩,Y3 D⟩ (l.length≤40∧0≤i∧i<p.g.groups) (y6 hT ?_) (fun hA=>?_)
 ·refine u9 (fun c1=>?_) (fun c1=>?_)
  ·refine y8 ?_
   refine y6 hT ?_
   refine u5 ?_
   exact x8 [] ⟨rfl,rfl⟩ rfl
  have c1:=k0y (show decide ((((flX l).length:Nat):Int) > 40)=false from c1)
  refine u9 (fun c2=>?_) (fun c2=>?_)
  ·refine y8 ?_
   refine y6 hT ?_
   refine u5 ?_
   exact x8 [] ⟨rfl,rfl⟩ rfl
  have c2:=k0y (show decide (i<0)=false from c2)
  refine Q1 (Q5 wG _ rfl rfl) ?_
  refine y8 (u9 (fun c3=>?_) (fun c3=>?_))
  ·refine y6 hT ?_
   refine u5 ?_
   exact x8 [] ⟨rfl,rfl⟩ rfl
  have c3:=k0y (show decide (i≥p.g.groups)=false from c3)
  exact x7 ⟨z8 [0,1,2] [1,2,3,8,9,10] rfl,by omega,by omega,by omega⟩
 obtain⟨hl,i0,i1⟩:=hA
 obtain⟨n,hn⟩:∃ n:Nat,i=n:=⟨i.toNat,by omega⟩
 have hn1:n<1+w+2*S:=by omega
 have wM:=z6t p.g i hg
 rw[hn,show z4w p.g.own n p.g.own.length=q0n p.g n from hL.geo.pos hn1,← hn]at wM
 have hml:(q0n p.g i).length=(Z9 w (k+m) n).length:=by rw[hn,show q0n p.g n=_ from hL.geo.memb n,k1x]
 have hle24:(Z9 w (k+m) n).length≤24:=by have:=z0z hg i;omega
 have wsp:=x5c D 7000 hC.ok l (by omega) (by omega)
 have hC2:=x2g hC l l.length
 generalize D.spoil l l.length=D2 at wsp hC2
 have wS:=z8b D2 p.sup next i g4 g5 8000 (hC2.ok.mono (by omega)) (by omega)
 have hO:=v7g hL hC2 hn1
 rw[← hn]at hO
 have hO:=hO.diff (by omega)
 generalize D2.step p.sup next i=Y at wS hO
 obtain⟨⟨y1,y2⟩,D3⟩:=Y
 have wS:AFm k0q 1 q5f [.ref 0 0,p.sup.av,i64 next,i64 i] (Y3 D2) (Q9 (.tup [i64 y1,i64 y2]) (Y3 D3)):=wS
 have hO:0≤IntKind.i64.wrap (D3.ops - D2.ops)∧IntKind.i64.wrap (D3.ops - D2.ops)≤((3*(Z9 w (k+m) n).length:Nat):Int):=hO
 refine u0 ⟨⟨63,[(2,i64 i),(3,.p (.box p.pv)),(8,.ref 0 0),(9,.p (.box p.sup.pvs)),(10,i64 next)]⟩,Y3 D2⟩ True (y7 hT ?_) (fun _=>?_)
 ·refine Q1 (Z7 [0,1,2] wsp rfl rfl rfl) ?_
  exact⟨z8 [0,1,2] [2,3,8,9,10] rfl,trivial⟩
 refine u0 ⟨⟨63,[(2,i64 i),(3,.p (.box p.pv)),(8,.ref 0 0),(9,.p (.box p.sup.pvs)),(10,i64 next),(11,i64 D2.ops)]⟩,Y3 D2⟩ True (y7 hT ?_) (fun _=>?_)
 ·refine Q1 (Z7 [0,1,2] (w0w D2) rfl rfl rfl) ?_
  exact⟨z8 [0,1,2] [2,3,8,9,10,11] rfl,trivial⟩
 refine u0 ⟨⟨63,[(2,i64 i),(3,.p (.box p.pv)),(8,.ref 0 0),(11,i64 D2.ops)]⟩,Y3 D3⟩ True (y7 hT ?_) (fun _=>?_)
 ·refine Q1 (Z7 [0,1,2] wS rfl rfl rfl) ?_
  exact⟨z8 [0,3,4] [2,3,8,11] rfl,trivial⟩
 refine u6 (Z0 [] [] hT u7 (by rfl) ?_)
 refine⟨_,Z7 [0,1,2] (w0w D3) rfl rfl rfl,?_⟩
 refine⟨_,Q5 wM _ rfl rfl,?_⟩
 refine u5 ?_
 refine x8 [] ⟨?_,rfl⟩ rfl
 show bl (decide (IntKind.i64.wrap (D3.ops - D2.ops)≤IntKind.i64.wrap (3*(((Y8 (q0n p.g i)).length:Nat):Int))))=bl true
 rw[V6,hml,Q0 (3*(((Z9 w (k+m) n).length:Nat):Int)) (by omega) (by omega),k1t (show IntKind.i64.wrap (D3.ops - D2.ops)≤3*(((Z9 w (k+m) n).length:Nat):Int) by omega)]
end Go.Proofs.YtkjklhcfgbaceaaGreat.AL
namespace Go.Proofs.YtkjklhcfgbaceaaGreat.AL
open Go Go.RowKit Go.ChangeShapes Go.WideShapes Go.ChangeAt Go.Deep
theorem w0y {P:Program}{f:FuncId}{args:List AV}{r:Value}{W:World}{vals:Array Value}(h:AF P f args [] (Q9 (.p (.raw r)) []))(hn:vals.size=args.length)
 (ha:∀ i u,args[i]?=some u→ARep W (·<W.heap.size) (fun _=>none) u (vals.getD i undef)):Calls P f vals W fun e W'=>e=.returned r∧Below W.heap.size W W':=by
 have hs:SimH W (·<W.heap.size) (fun _=>none) []:=⟨fun b k hb=>by simp at hb,fun b b' B hb=>by obtain⟨k,hk,_⟩:=hb;simp at hk,fun B hB=>hB,fun _ _=>rfl,fun b B hb=>by simp at hb⟩
 refine(h.2 W _ _ vals hn ha hs).mono ?_
 rintro e W' ⟨v,r',H',I',ι',rfl,⟨rfl,rfl⟩,hr,hs',hx⟩
 rw[Y9 hr]
 refine⟨rfl,⟨hx.ext.os,hx.ext.tape,hx.ext.output,hx.ext.size,fun k hk=>hx.ext.frame k hk ?_⟩⟩
 rintro⟨b,hb,_⟩
 obtain⟨k',hk',_⟩:=hb
 simp at hk'
section
variable {H:Type} {enc:TypeId × Value→H} {P:Program} {W:World} {spare:Nat→Bool} {held:Bool}
theorem z6x {n:Nat}(h:n≤maxLen):n≤9223372036854775807:=by
 have:maxLen=9223372036854775807:=by decide
 omega
theorem v1e {t e:TypeId}{v:Value}{d:DataW H}{ps:List MemPlace}{r:Reach}{b0:Nat}{ι:Nat→Option Nat}(ht:P.underlying t=some (.slice e))(hval:Value.okWide P W r b0 t v)(h:DataW.Trod enc P W 0 spare held t v d ps)
 {α:Type} [Inhabited α] (pv:α→List PV) (sz:Nat) (hsz:P.cellsOf e=sz) (h0:0<sz)
 (hel:∀ (n:Nat) (cs:List Value) (x:DataW H × List MemPlace),DataW.trod enc P W 0 spare held n e cs=some x→∃ a:α,(pv a).length=sz∧∀ (i:Nat) (u:PV),(pv a)[i]?=some u→∀ v:Value,cs[i]?=some v→PRep W (·<W.heap.size) u v) :
 ∃ l:List α,ARep W (·<W.heap.size) ι (.p (.sl sz (l.map pv))) v:=by
 classical
 obtain⟨a0,len,cap,rfl⟩:=okWide_slice ht hval
 obtain⟨fuel,hf⟩:=h
 rcases open_slice ht hf with ⟨hcs,_⟩|⟨a,len',cap',m,n,D,Pl,hcs,_,hl,hm,hmm,_,hx⟩
 ·simp[Value.cells]at hcs
  obtain⟨rfl,rfl,rfl⟩:=hcs
  exact⟨[],.p (PRep.sl sz [] none 0 (fun _ _=>undef) (by simp) (by simp) (.inl rfl) (fun j e i u h=>by simp at h))⟩
 ·simp[Value.cells]at hcs
  obtain⟨rfl,rfl,rfl⟩:=hcs
  have hlm:len≤m:=by rw[hmm];split <;> omega
  have hone:∀ i,∃ x:α,i<len→(pv x).length=sz∧(∀ k,k<sz→∃ v,W.cell? ((a.add (i*sz)).add k)=some v)∧∀ (k:Nat) (u:PV) (v:Value),(pv x)[k]?=some u→W.cell? ((a.add (i*sz)).add k)=some v→PRep W (·<W.heap.size) u v:=by
   intro i
   by_cases hi:i<len
   ·obtain⟨cs',h1,h2⟩:=hx i (by omega)
    rw[hsz]at h1
    obtain⟨x,h3,h4⟩:=hel n cs' _ h2
    obtain⟨_,hlen,hc⟩:=World.cells?_some h1
    refine⟨x,fun _=>⟨h3,fun k hk=>?_,fun k u v hu hv=>?_⟩⟩
    ·exact⟨cs'[k]'(by omega),by rw[hc k hk,k0w]⟩
    ·have hk:k<sz:=by rw[← h3];exact(k0t.1 hu).1
     exact h4 k u hu v (by rw[← hc k hk];exact hv)
   ·exact⟨default,fun h=>absurd h hi⟩
  let g:Nat→α:=fun i=>(hone i).choose
  have hg:∀ i,i<len→(pv (g i)).length=sz∧(∀ k,k<sz→∃ v,W.cell? ((a.add (i*sz)).add k)=some v)∧∀ (k:Nat) (u:PV) (v:Value),(pv (g i))[k]?=some u→W.cell? ((a.add (i*sz)).add k)=some v→PRep W (·<W.heap.size) u v:=fun i hi=>(hone i).choose_spec hi
  clear_value g
  have hlen:(((List.range len).map g).map pv).length=len:=by simp
  have hget:∀ (j:Nat) (e:List PV),(((List.range len).map g).map pv)[j]?=some e→j<len∧e=pv (g j):=by
   intro j e hj
   have hjl:j<len:=by rw[← hlen];exact(k0t.1 hj).1
   simp[hjl]at hj
   exact⟨hjl,hj.symm⟩
  refine⟨(List.range len).map g,.p ?_⟩
  have:=PRep.sl (w:=W) (I:=(·<W.heap.size)) sz (((List.range len).map g).map pv) (some a) cap (fun j i=>(W.cell? ((a.add (j*sz)).add i)).getD undef) (by omega) (by have:=z6x hm;omega) ?_ ?_
  ·rw[hlen]at this;exact this
  ··rcases Nat.eq_zero_or_pos len with hz|hz
    ·subst hz;exact .inl rfl
    ·obtain⟨v,hv⟩:=(hg 0 hz).2.1 0 h0
     obtain⟨ab,ao,asp⟩:=a
     have hspot:asp=none:=by simpa [Addr.add] using World.cell?_spot hv
     subst hspot
     refine .inr ⟨ab,ao,rfl,?_,fun j e hj=>?_⟩
     ·unfold World.cell? at hv
      split at hv
      ·rename_i hb
       have:=(Array.getElem?_eq_some_iff.1 hb).1
       simpa [Addr.add] using this
      ·simp at hv
     ·obtain⟨hjl,rfl⟩:=hget j e hj
      refine⟨(hg j hjl).1,fun i hi=>?_⟩
      obtain⟨v,hv⟩:=(hg j hjl).2.1 i hi
      have e1:(Addr.add ⟨ab,ao,none⟩ (j*sz)).add i=⟨ab,ao+j*sz+i,none⟩:=by rw[add_plain,add_plain]
      rw[e1]at hv
      rw[hv]
      show some v=some ((W.cell? _).getD undef)
      rw[e1,hv];rfl
  ·intro j e i u hj hu
   obtain⟨hjl,rfl⟩:=hget j e hj
   have hi:i<sz:=by rw[← (hg j hjl).1];exact(k0t.1 hu).1
   obtain⟨v,hv⟩:=(hg j hjl).2.1 i hi
   rw[hv]
   exact(hg j hjl).2.2 i u v hu hv
theorem z8h {t e:TypeId}{fuel:Nat}{vs:List Value}{y:DataW H × List MemPlace}(ht:P.underlying t=some (.slice e))(hf:DataW.trod enc P W 0 spare held fuel t vs=some y)
 {α:Type} [Inhabited α] (pv:α→List PV) (sz:Nat) (hsz:P.cellsOf e=sz) (h0:0<sz)
 (hel:∀ (n:Nat) (cs:List Value) (x:DataW H × List MemPlace),DataW.trod enc P W 0 spare held n e cs=some x→∃ a:α,(pv a).length=sz∧∀ (i:Nat) (u:PV),(pv a)[i]?=some u→∀ v:Value,cs[i]?=some v→PRep W (·<W.heap.size) u v) :
 ∃ (l:List α) (v:Value),vs=[v]∧PRep W (·<W.heap.size) (.sl sz (l.map pv)) v:=by
 classical
 rcases open_slice ht hf with ⟨hcs,_⟩|⟨a,len,cap,m,n,D,Pl,hcs,_,hl,hm,hmm,_,hx⟩
 ·exact⟨[],_,hcs,(PRep.sl sz [] none 0 (fun _ _=>undef) (by simp) (by simp) (.inl rfl) (fun j e i u h=>by simp at h))⟩
 ·have hlm:len≤m:=by rw[hmm];split <;> omega
  have hone:∀ i,∃ x:α,i<len→(pv x).length=sz∧(∀ k,k<sz→∃ v,W.cell? ((a.add (i*sz)).add k)=some v)∧∀ (k:Nat) (u:PV) (v:Value),(pv x)[k]?=some u→W.cell? ((a.add (i*sz)).add k)=some v→PRep W (·<W.heap.size) u v:=by
   intro i
   by_cases hi:i<len
   ·obtain⟨cs',h1,h2⟩:=hx i (by omega)
    rw[hsz]at h1
    obtain⟨x,h3,h4⟩:=hel n cs' _ h2
    obtain⟨_,hlen,hc⟩:=World.cells?_some h1
    refine⟨x,fun _=>⟨h3,fun k hk=>?_,fun k u v hu hv=>?_⟩⟩
    ·exact⟨cs'[k]'(by omega),by rw[hc k hk,k0w]⟩
    ·have hk:k<sz:=by rw[← h3];exact(k0t.1 hu).1
     exact h4 k u hu v (by rw[← hc k hk];exact hv)
   ·exact⟨default,fun h=>absurd h hi⟩
  let g:Nat→α:=fun i=>(hone i).choose
  have hg:∀ i,i<len→(pv (g i)).length=sz∧(∀ k,k<sz→∃ v,W.cell? ((a.add (i*sz)).add k)=some v)∧∀ (k:Nat) (u:PV) (v:Value),(pv (g i))[k]?=some u→W.cell? ((a.add (i*sz)).add k)=some v→PRep W (·<W.heap.size) u v:=fun i hi=>(hone i).choose_spec hi
  clear_value g
  have hlen:(((List.range len).map g).map pv).length=len:=by simp
  have hget:∀ (j:Nat) (e:List PV),(((List.range len).map g).map pv)[j]?=some e→j<len∧e=pv (g j):=by
   intro j e hj
   have hjl:j<len:=by rw[← hlen];exact(k0t.1 hj).1
   simp[hjl]at hj
   exact⟨hjl,hj.symm⟩
  refine⟨(List.range len).map g,_,hcs,?_⟩
  have:=PRep.sl (w:=W) (I:=(·<W.heap.size)) sz (((List.range len).map g).map pv) (some a) cap (fun j i=>(W.cell? ((a.add (j*sz)).add i)).getD undef) (by omega) (by have:=z6x hm;omega) ?_ ?_
  ·rw[hlen]at this;exact this
  ··rcases Nat.eq_zero_or_pos len with hz|hz
    ·subst hz;exact .inl rfl
    ·obtain⟨v,hv⟩:=(hg 0 hz).2.1 0 h0
     obtain⟨ab,ao,asp⟩:=a
     have hspot:asp=none:=by simpa [Addr.add] using World.cell?_spot hv
     subst hspot
     refine .inr ⟨ab,ao,rfl,?_,fun j e hj=>?_⟩
     ·unfold World.cell? at hv
      split at hv
      ·rename_i hb
       have:=(Array.getElem?_eq_some_iff.1 hb).1
       simpa [Addr.add] using this
      ·simp at hv
     ·obtain⟨hjl,rfl⟩:=hget j e hj
      refine⟨(hg j hjl).1,fun i hi=>?_⟩
      obtain⟨v,hv⟩:=(hg j hjl).2.1 i hi
      have e1:(Addr.add ⟨ab,ao,none⟩ (j*sz)).add i=⟨ab,ao+j*sz+i,none⟩:=by rw[add_plain,add_plain]
      rw[e1]at hv
      rw[hv]
      show some v=some ((W.cell? _).getD undef)
      rw[e1,hv];rfl
  ·intro j e i u hj hu
   obtain⟨hjl,rfl⟩:=hget j e hj
   have hi:i<sz:=by rw[← (hg j hjl).1];exact(k0t.1 hu).1
   obtain⟨v,hv⟩:=(hg j hjl).2.1 i hi
   rw[hv]
   exact(hg j hjl).2.2 i u v hu hv
end
end Go.Proofs.YtkjklhcfgbaceaaGreat.AL
namespace Go.Proofs.YtkjklhcfgbaceaaGreat.AL
open Go Go.RowKit Go.ChangeShapes Go.WideShapes Go.ChangeAt Go.Deep Go.Proofs
theorem q6p {W:World}{I:Nat→Prop}(k:IntKind)(n:Int):PRep W I (.raw (.int k n)) (.int k n):=.raw _ rfl
theorem q7r {W:World}{I:Nat→Prop}{ι:Nat→Option Nat}(n:Int):ARep W I ι (i64 n) (.int .i64 n):=.p (.raw _ rfl)
section
variable {H:Type} {enc:TypeId × Value→H} {W:World} {spare:Nat→Bool} {held:Bool}
theorem w0z {n:Int}(h:(Lit.int .u8 n).wf=true):∃ b:UInt8,n=(b.toNat:Int):=by
 have h2:0≤n∧n<256:=by
  simp[Lit.wf]at h
  have h3:IntKind.u8.min=0:=rfl
  have h4:IntKind.u8.max=255:=rfl
  omega
 refine⟨UInt8.ofNat n.toNat,?_⟩
 rw[UInt8.toNat_ofNat']
 omega
theorem c3:Tryz.prog.cellsOf 3=1:=by kernel_rfl
theorem c5:Tryz.prog.cellsOf 5=1:=by kernel_rfl
theorem c23:Tryz.prog.cellsOf 23=4:=by kernel_rfl
theorem c24:Tryz.prog.cellsOf 24=1:=by kernel_rfl
theorem c4:Tryz.prog.cellsOf 4=1:=by kernel_rfl
theorem c25:Tryz.prog.cellsOf 25=1:=by kernel_rfl
theorem c27:Tryz.prog.cellsOf 27=8:=by kernel_rfl
theorem c40:Tryz.prog.cellsOf 40=4:=by kernel_rfl
theorem c42:Tryz.prog.cellsOf 42=9:=by kernel_rfl
theorem v1f (n:Nat)(cs:List Value)(x:DataW H × List MemPlace)(h:DataW.trod enc k0q W 0 spare held n 23 cs=some x):∃ g:GeoV,cs=[.int .i64 g.w,.int .i64 g.s,.int .i64 g.k,.int .i64 g.m]:=by
 obtain⟨xs,m,_,rfl,hl,hlen,hf⟩:=DataW.trod_struct Tryz.underlying23 h
 rw[c23]at hl
 have h0:=hf 0 _ rfl
 have h1:=hf 1 _ rfl
 have h2:=hf 2 _ rfl
 have h3:=hf 3 _ rfl
 match xs,hlen with
 |[y0,y1,y2,y3],_=>
  match cs,hl with
  |[v0,v1,v2,v3],_=>
   simp[c3]at h0 h1 h2 h3
   obtain⟨a0,e0,_⟩:=DataW.trod_int Tryz.underlying3 h0
   obtain⟨a1,e1,_⟩:=DataW.trod_int Tryz.underlying3 h1
   obtain⟨a2,e2,_⟩:=DataW.trod_int Tryz.underlying3 h2
   obtain⟨a3,e3,_⟩:=DataW.trod_int Tryz.underlying3 h3
   simp at e0 e1 e2 e3
   exact⟨⟨a0,a1,a2,a3⟩,by rw[e0,e1,e2,e3]⟩
theorem w6y (n:Nat)(cs:List Value)(x:DataW H × List MemPlace)(hx:DataW.trod enc k0q W 0 spare held n 5 cs=some x):∃ b:UInt8,([u8 b]:List PV).length=1∧∀ (i:Nat) (u:PV),([u8 b]:List PV)[i]?=some u→∀ v:Value,cs[i]?=some v→PRep W (·<W.heap.size) u v:=by
 obtain⟨a,e,_,w⟩:=DataW.trod_int Tryz.underlying5 hx
 obtain⟨b,rfl⟩:=w0z w
 refine⟨b,rfl,fun i u hu v hv=>?_⟩
 rw[e]at hv
 match i,hu,hv with
 |0,hu,hv=>simp at hu hv;subst hu;subst hv;exact q6p _ _
 |i+1,hu,hv=>simp at hu
theorem v9r (n:Nat)(cs:List Value)(x:DataW H × List MemPlace)(hx:DataW.trod enc k0q W 0 spare held n 25 cs=some x):∃ b:x9,([bP b]:List PV).length=1∧∀ (i:Nat) (u:PV),([bP b]:List PV)[i]?=some u→∀ v:Value,cs[i]?=some v→PRep W (·<W.heap.size) u v:=by
 obtain⟨l,v,hv,hp⟩:=z8h Tryz.underlying25 hx (fun b:UInt8=>[u8 b]) 1 c5 (by decide) w6y
 refine⟨l,rfl,fun i u hu w hw=>?_⟩
 rw[hv]at hw
 match i,hu,hw with
 |0,hu,hw=>simp at hu hw;subst hu;subst hw;exact hp
 |i+1,hu,hw=>simp at hu
instance:Inhabited Flt:=⟨⟨0,0,0,0,0,0,0,0,0⟩⟩
def Flt.vals (f:Flt):List Value:=[.int .i64 f.kind,.int .i64 f.at_,.int .i64 f.off,.int .i64 f.n,.int .i64 f.to,.int .u8 (f.m0.toNat:Int),.int .u8 (f.m1.toNat:Int),.int .u8 (f.m2.toNat:Int),.int .u8 (f.m3.toNat:Int)]
theorem v1g (n:Nat)(cs:List Value)(x:DataW H × List MemPlace)(h:DataW.trod enc k0q W 0 spare held n 42 cs=some x):∃ f:Flt,cs=f.vals:=by
 obtain⟨xs,m,_,rfl,hl,hlen,hf⟩:=DataW.trod_struct Tryz.underlying42 h
 rw[c42]at hl
 have h0:=hf 0 _ rfl
 have h1:=hf 1 _ rfl
 have h2:=hf 2 _ rfl
 have h3:=hf 3 _ rfl
 have h4:=hf 4 _ rfl
 have h5:=hf 5 _ rfl
 match xs,hlen with
 |[y0,y1,y2,y3,y4,y5],_=>
  match cs,hl with
  |[v0,v1,v2,v3,v4,v5,v6,v7,v8],_=>
   simp[c3,c40]at h0 h1 h2 h3 h4 h5
   obtain⟨a0,e0,_⟩:=DataW.trod_int Tryz.underlying3 h0
   obtain⟨a1,e1,_⟩:=DataW.trod_int Tryz.underlying3 h1
   obtain⟨a2,e2,_⟩:=DataW.trod_int Tryz.underlying3 h2
   obtain⟨a3,e3,_⟩:=DataW.trod_int Tryz.underlying3 h3
   obtain⟨a4,e4,_⟩:=DataW.trod_int Tryz.underlying3 h4
   obtain⟨z0,z1,z2,z3,k,_,g0,g1,g2,g3⟩:=trod_array4 Tryz.underlying40 c5 h5
   obtain⟨b0,f0,_,w0⟩:=DataW.trod_int Tryz.underlying5 g0
   obtain⟨b1,f1,_,w1⟩:=DataW.trod_int Tryz.underlying5 g1
   obtain⟨b2,f2,_,w2⟩:=DataW.trod_int Tryz.underlying5 g2
   obtain⟨b3,f3,_,w3⟩:=DataW.trod_int Tryz.underlying5 g3
   obtain⟨m0,rfl⟩:=w0z w0
   obtain⟨m1,rfl⟩:=w0z w1
   obtain⟨m2,rfl⟩:=w0z w2
   obtain⟨m3,rfl⟩:=w0z w3
   simp at e0 e1 e2 e3 e4 f0 f1 f2 f3
   exact⟨⟨a0,a1,a2,a3,a4,m0,m1,m2,m3⟩,by rw[e0,e1,e2,e3,e4,f0,f1,f2,f3];rfl⟩
theorem v7h {v:Value}{d:DataW H}{ps:List MemPlace}{r:Reach}{b0:Nat}{ι:Nat→Option Nat}
 (hval:Value.okWide k0q W r b0 48 v) (h:DataW.Trod enc k0q W 0 spare held 48 v d ps):∃ l:List Flt,ARep W (·<W.heap.size) ι (.p (.sl 9 (flX l))) v:=
 v1e Tryz.underlying48 hval h Flt.pv 9 c42 (by decide) fun n cs x hx=>by
  obtain⟨f,rfl⟩:=v1g n cs x hx
  refine⟨f,rfl,fun i u hu v hv=>?_⟩
  match i,hu,hv with
  |0,hu,hv=>cases hu;cases hv;exact q6p _ _
  |1,hu,hv=>cases hu;cases hv;exact q6p _ _
  |2,hu,hv=>cases hu;cases hv;exact q6p _ _
  |3,hu,hv=>cases hu;cases hv;exact q6p _ _
  |4,hu,hv=>cases hu;cases hv;exact q6p _ _
  |5,hu,hv=>cases hu;cases hv;exact q6p _ _
  |6,hu,hv=>cases hu;cases hv;exact q6p _ _
  |7,hu,hv=>cases hu;cases hv;exact q6p _ _
  |8,hu,hv=>cases hu;cases hv;exact q6p _ _
  |i+9,hu,hv=>cases hu
theorem w4u (n:Nat)(cs:List Value)(x:DataW H × List MemPlace)(h:DataW.trod enc k0q W 0 spare held n 27 cs=some x) :
 ∃ (p:Plan) (v w:Value),cs=[.int .i64 p.g.w,.int .i64 p.g.s,.int .i64 p.g.k,.int .i64 p.g.m,.int .i64 p.start,v,w,.int .i64 p.area]∧PRep W (·<W.heap.size) (.sl 1 (w9 p.txs)) v∧PRep W (·<W.heap.size) (bP p.snap) w:=by
 obtain⟨xs,m,_,rfl,hl,hlen,hf⟩:=DataW.trod_struct Tryz.underlying27 h
 rw[c27]at hl
 have h0:=hf 0 _ rfl
 have h1:=hf 1 _ rfl
 have h2:=hf 2 _ rfl
 have h3:=hf 3 _ rfl
 have h4:=hf 4 _ rfl
 match xs,hlen with
 |[y0,y1,y2,y3,y4],_=>
  match cs,hl with
  |[v0,v1,v2,v3,v4,v5,v6,v7],_=>
   simp[c3,c23,c24,c25]at h0 h1 h2 h3 h4
   obtain⟨g,e0⟩:=v1f _ _ _ h0
   obtain⟨a1,e1,_⟩:=DataW.trod_int Tryz.underlying3 h1
   obtain⟨txs,w2,e2,k2⟩:=z8h Tryz.underlying24 h2 (fun b:x9=>[bP b]) 1 c25 (by decide) v9r
   obtain⟨snap,w3,e3,k3⟩:=z8h Tryz.underlying25 h3 (fun b:UInt8=>[u8 b]) 1 c5 (by decide) w6y
   obtain⟨a4,e4,_⟩:=DataW.trod_int Tryz.underlying3 h4
   simp at e0 e1 e2 e3 e4
   obtain⟨q0,q1,q2,q3⟩:=e0
   exact⟨⟨g,a1,txs,snap,a4⟩,w2,w3,by rw[q0,q1,q2,q3,e1,e2,e3,e4],k2,k3⟩
theorem w1a {v:Value}{d:DataW H}{ps:List MemPlace}{r:Reach}{b0:Nat}{ι:Nat→Option Nat}
 (hval:Value.okWide k0q W r b0 27 v) (h:DataW.Trod enc k0q W 0 spare held 27 v d ps):∃ p:Plan,ARep W (·<W.heap.size) ι p.av v:=by
 obtain⟨cs,rfl,hsz⟩:=okWide_struct Tryz.underlying27 hval
 obtain⟨n,hn⟩:=h
 obtain⟨p,v,w,hcs,k2,k3⟩:=w4u n _ _ hn
 have:cs=[Value.int .i64 p.g.w,.int .i64 p.g.s,.int .i64 p.g.k,.int .i64 p.g.m,.int .i64 p.start,v,w,.int .i64 p.area].toArray:=by
  cases cs;simpa [Value.cells] using hcs
 subst this
 refine⟨p,.agg _ _ rfl fun i u hu=>?_⟩
 match i,hu with
 |0,hu=>cases hu;exact q7r _
 |1,hu=>cases hu;exact q7r _
 |2,hu=>cases hu;exact q7r _
 |3,hu=>cases hu;exact q7r _
 |4,hu=>cases hu;exact q7r _
 |5,hu=>cases hu;exact .p k2
 |6,hu=>cases hu;exact .p k3
 |7,hu=>cases hu;exact q7r _
 |i+8,hu=>cases hu
end
end Go.Proofs.YtkjklhcfgbaceaaGreat.AL
namespace Go.Proofs.YtkjklhcfgbaceaaGreat.AL
open Go Go.Proofs Go.Proofs.YtkjklhcfgbaceaaGreat
theorem u3h:(mapsRowed k0q)=true:=by kernel_rfl
theorem u3i:((Tryz.prog.stops==[]))=true:=by kernel_rfl
theorem u3j:((Tryz.prog.stopKnobs==[]))=true:=by kernel_rfl
theorem u0g:((Rows.scrubBeyondRow.plainKeys==Tryz.prog.plainKeys))=true:=by kernel_rfl
theorem u0h:(Tryz.prog.stopsHeard)=true:=by kernel_rfl
theorem u0i:(Tryz.prog.mayEnter)=true:=by kernel_rfl
theorem u0j:((Rows.scrubBeyondRow.lifted==Tryz.prog.liftsFinal))=true:=by kernel_rfl
theorem u0k:((Tryz.prog.make==some Rows.scrubBeyondRow.make))=true:=by kernel_rfl
end Go.Proofs.YtkjklhcfgbaceaaGreat.AL
namespace Go.Proofs.YtkjklhcfgbaceaaGreat.AL
open Go Go.Proofs Go.Proofs.YtkjklhcfgbaceaaGreat.AL.Crc
variable {x:Sup} {next:Int} {w k m S:Nat} {P:List Pc} {B:x9} {D:Dev}
theorem LaidP.of (h:LaidP x next w k m S P B D){E:Dev}(he:E.cells=D.cells):LaidP x next w k m S P B E:=
 ⟨h.xm,h.G,h.hw,by rw[he];exact h.sup,by rw[he];exact h.log,h.pc,h.fit,h.nx,h.most,⟨fun s i hs hi=>by rw[he];exact h.snap.there s i hs hi⟩,h.hB,by rw[he];exact h.other⟩
theorem w4v {D:Dev}{N b:Nat}(h:CleanP D N b):∀ k,k≤N→CleanP (D.secR k).2 N b∧∀ a,a<k→(D.secR k).1[a]?=some (Q2 D a)
 |0,_=>⟨h,fun a ha=>absurd ha (Nat.not_lt_zero _)⟩
 |k+1,hk=>by
  obtain⟨h1,h2⟩:=w4v h k (by omega)
  have hl:=y0h D k
  have hc:=z2j D k
  show CleanP ((D.secR k).2.read k).2 N b∧∀ a,a<k+1→((D.secR k).1++[((D.secR k).2.read k).1.1])[a]?=_
  generalize D.secR k=Y at h1 h2 hl hc
  obtain⟨T,E⟩:=Y
  have hc:E.cells=D.cells:=hc
  have hl:T.length=k:=hl
  obtain⟨r1,r2,r3⟩:=u0c h1 (show k<N by omega)
  refine⟨by show CleanP (E.read k).2 N b;rw[r2];exact r3,fun a ha=>?_⟩
  by_cases e:a<k
  ·rw[k0s (by omega)];exact h2 a e
  ·have e:a=k:=by omega
   subst e
   rw[k1q (by omega),hl,Nat.sub_self]
   show some (E.read a).1.1=_
   rw[show (E.read a).1.1=Q2 E a from r1]
   unfold Q2
   rw[hc]
end Go.Proofs.YtkjklhcfgbaceaaGreat.AL
namespace Go.Proofs.YtkjklhcfgbaceaaGreat.AL
open Go Go.Proofs Go.Proofs.YtkjklhcfgbaceaaGreat.AL.Crc
variable {x:Sup} {next:Int} {w k m S:Nat} {P:List Pc} {B:x9} {D:Dev}
theorem w6z {v v' sh:Nat→x9}{a:Nat}:∀ {l:List Nat},l.Pairwise (· < ·)→a∈l→(∀ c∈l,c≠a→v' c=v c)→v a=sh a→v' a≠sh a→(bdL v' sh l).length=(bdL v sh l).length+1
 |[],_,h,_,_,_=>absurd h (by simp)
 |c :: r,hp,hm,h,h0,h1=>by
  obtain⟨h2,h3⟩:=List.pairwise_cons.mp hp
  have e1:=z2k v' sh [c] r
  have e2:=z2k v sh [c] r
  rw[List.singleton_append]at e1 e2
  rw[e1,e2,k1y,k1y]
  by_cases e:c=a
  ·subst e
   have er:bdL v' sh r=bdL v sh r:=y4s fun b hb=>h b (List.mem_cons_of_mem _ hb) fun e=>by have:=h2 b hb;omega
   have e3:bdL v' sh [c]=[c]:=by rw[q6n,beq_eq_false_iff_ne.mpr (Ne.symm h1)]
   have e4:bdL v sh [c]=[]:=by rw[q6n,h0,beq_self_eq_true]
   rw[er,e3,e4]
   show 1+_=0+_+1
   omega
  ·have hr:a∈r:=by
    rcases List.mem_cons.mp hm with hm|hm
    ·exact absurd hm.symm e
    ·exact hm
   have ih:=w6z h3 hr (fun b hb=>h b (List.mem_cons_of_mem _ hb)) h0 h1
   have e3:bdL v' sh [c]=bdL v sh [c]:=by rw[q6n,q6n,h c (by simp) e]
   rw[e3,ih]
   omega
structure LostP (x:Sup) (w k m:Nat) (D E:Dev) (b i j lost:Nat):Prop where
 clean:CleanP E x.g.secs (b+j)
 near:z6v D E x.g.secs
 nb:(bdL (Q2 E) (Q2 D) (Z9 w (k+m) i)).length=lost
 rest:∀ q c,j≤q→(Z9 w (k+m) i)[q]?=some c→Q2 E c=Q2 D c
 room:q5x w m i+1+j≤lost+(Z9 w (k+m) i).length
 few:lost≤q5x w m i+1
theorem v1h (h:LaidP x next w k m S P B D){b:Nat}(hC:CleanP D x.g.secs b)(i:Nat):LostP x w k m D D b i 0 0:=by
 refine⟨hC,fun _ _=>.inl rfl,by rw[w6t fun c _=>rfl];rfl,fun _ _ _ _=>rfl,?_,Nat.zero_le _⟩
 obtain⟨n1,n2,n3,n4,n5,n6⟩:=h.G.nat
 rw[z1a]
 unfold q5x
 split
 ·omega
 ·split <;> omega
theorem v1i (h:LaidP x next w k m S P B D){E:Dev}{b i j lost c:Nat}(hL:LostP x w k m D E b i j lost)(hi:i<1+w+2*S)(hc:(Z9 w (k+m) i)[j]?=some c)(hf:lost≤q5x w m i):∃ F,E.fault (z4v c)=(0,F)∧LostP x w k m D F b i (j+1) (lost+1):=by
 have hm:=k2x hc
 have hcs:=h.hg i c hi hm
 obtain⟨F,f1,f2,f3⟩:=u0b hL.clean hcs
 have hv:=x2i (by rw[hL.clean.len];exact hcs) f3
 have h0:=hL.rest j c (k1v _) hc
 have h256:=h.len256 hcs
 have hn:Q2 F c≠Q2 D c:=fun e=>by
  rw[hv c,if_pos rfl]at e
  rw[← e]at h256
  exact absurd h256 (by decide)
 have hr:=hL.room
 refine⟨F,f1,f2,fun a ha=>?_,?_,fun q d hq hd=>?_,by omega,by omega⟩
 ·rw[hv a]
  by_cases e:a=c
  ·rw[if_pos e];exact .inr w6x
  ·rw[if_neg e];exact hL.near a ha
 ·rw[w6z y8s hm (fun d _ hd=>by rw[hv d,if_neg hd]) h0 hn,hL.nb]
 ·have hne:d≠c:=fun e=>by
   have hp:=List.pairwise_iff_getElem.mp (y8s (w:=w) (n:=k+m) (i:=i))
   obtain⟨l1,l2⟩:=k0t.1 hc
   obtain⟨l3,l4⟩:=k0t.1 hd
   have:=hp j q l1 l3 (by omega)
   rw[l2,l4]at this
   omega
  rw[hv d,if_neg hne]
  exact hL.rest q d (by omega) hd
theorem v1j {E:Dev}{b i j lost:Nat}(hL:LostP x w k m D E b i j lost)(hr:q5x w m i+1+j<lost+(Z9 w (k+m) i).length):LostP x w k m D E b i (j+1) lost:=
 ⟨hL.clean.mono (by omega),hL.near,hL.nb,fun q c hq hc=>hL.rest q c (by omega) hc,by omega,hL.few⟩
theorem x5j (p:Plan)(i keep:Int):AF k0q z6a [p.av,i64 i,i64 keep] [] (Q9 (bl true) []):=by
 refine Q8 hT Tryz.func3 rfl rfl Tryz.ntmps3 rfl ?_
 refine u0 ⟨⟨180,[(1,i64 i),(2,i64 keep),(3,.p (.box p.pv))]⟩,[]⟩ True (y7 hT ?_) (fun _=>?_)
 ·exact⟨Wk.trans (Z4 0 p.pv rfl rfl) (z8 [] [1,2,3] rfl),trivial⟩
 refine u0 ⟨⟨180,[(1,i64 i),(2,i64 keep),(3,.p (.box p.pv)),(7,bl true)]⟩,[]⟩ True (y7 hT ?_) (fun _=>?_)
 ·refine Q1 (Q5 y3h _ rfl rfl) ?_
  exact⟨z8 [] [1,2,3,7] rfl,trivial⟩
 cases hok:p.ok with
 |false=>
  refine u0 ⟨⟨180,[(7,bl true),(8,x9p)]⟩,[]⟩ True (y7 hT ?_) (fun _=>?_)
  ·refine Q1 (Q5 (z6w hok) _ rfl rfl) ?_
   exact⟨z8 [] [7,8] rfl,trivial⟩
  refine u6 (y6 hT ?_)
  refine y8 ?_
  refine y6 hT ?_
  refine u5 ?_
  exact x8 [] ⟨rfl,rfl⟩ rfl
 |true=>
 obtain⟨w,k,m,S,P,B,D,next,hL,hC,⟨hw,hk4,hm3,hS⟩,wL⟩:=z8g hok
 obtain⟨⟨hg,_⟩,g3,g4,g5,⟨a0,a1⟩,⟨s0,s1⟩,_⟩:=w6w hok
 have wG:=z2i p.g
 have hgr:p.g.groups=((1+w+2*S:Nat):Int):=hL.geo.groups
 obtain⟨z1,z2,z3,z4,z5,z6,z7,hsec⟩:=hL.geo.le
 have hsec:p.g.secs≤4096:=hsec
 have hgw:p.g.w=w:=hL.hw
 have hgs:p.g.s=S:=hL.G.hs
 refine u0 ⟨⟨180,[(1,i64 i),(2,i64 keep),(3,.p (.box p.pv)),(7,bl true),(8,.ref 0 0),(9,.p (.box p.sup.pvs)),(10,i64 next)]⟩,Y3 D⟩ True (y7 hT ?_) (fun _=>?_)
 ·refine Q1 wL ?_
  exact⟨Wk.trans (Z4 3 p.sup.pvs rfl rfl) (z8 [0,1,2] [1,2,3,7,8,9,10] rfl),trivial⟩
 refine u0 ⟨⟨180,[(1,i64 i),(2,i64 keep),(3,.p (.box p.pv)),(8,.ref 0 0),(9,.p (.box p.sup.pvs)),(10,i64 next)]⟩,Y3 D⟩ (1≤i∧i<p.g.groups) (y6 hT ?_) (fun hA=>?_)
 ·refine u9 (fun c1=>?_) (fun c1=>?_)
  ·refine y8 ?_
   refine y6 hT ?_
   refine u5 ?_
   exact x8 [] ⟨rfl,rfl⟩ rfl
  have c1:=k0y (show decide (i<1)=false from c1)
  refine Q1 (Q5 wG _ rfl rfl) ?_
  refine y8 (u9 (fun c3=>?_) (fun c3=>?_))
  ·refine y6 hT ?_
   refine u5 ?_
   exact x8 [] ⟨rfl,rfl⟩ rfl
  have c3:=k0y (show decide (i≥p.g.groups)=false from c3)
  exact x7 ⟨z8 [0,1,2] [1,2,3,8,9,10] rfl,by omega,by omega⟩
 obtain⟨i0,i1⟩:=hA
 obtain⟨n,hn⟩:∃ n:Nat,i=n:=⟨i.toNat,by omega⟩
 have hn1:n<1+w+2*S:=by omega
 have wM:=z6t p.g i hg
 rw[hn,show z4w p.g.own n p.g.own.length=q0n p.g n from hL.geo.pos hn1,show q0n p.g n=_ from hL.geo.memb n,← hn]at wM
 have hml:(Z9 w (k+m) n).length≤24:=by
  rw[z1a]
  split
  ·omega
  ·split <;> omega
 have wB:=x9z p.g i
 rw[hn,show p.g.bears n=_ from v0u hL.geo hL.G.hm hn1,← hn]at wB
 have hbe:q5x w m n≤8:=by
  unfold q5x
  split
  ·omega
  ·split <;> omega
 refine u0 ⟨⟨180,[(1,i64 i),(2,i64 keep),(3,.p (.box p.pv)),(8,.ref 0 0),(9,.p (.box p.sup.pvs)),(10,i64 next),(11,.p (.sl 1 (Y8 ((Z9 w (k+m) n).map fun a:Nat=>(a:Int)))))]⟩,Y3 D⟩ True (y7 hT ?_) (fun _=>?_)
 ·refine Q1 (Q5 wM _ rfl rfl) ?_
  exact⟨z8 [0,1,2] [1,2,3,8,9,10,11] rfl,trivial⟩
 generalize hat:(Z9 w (k+m) n).map (fun a:Nat=>(a:Int))=at_
 refine Q4 (fun st=>∃ b:Bool,(b=true↔(w<n∧(((n - 1 - w) / S:Nat):Int)=p.area))∧st=⟨⟨180,[(1,i64 i),(2,i64 keep),(3,.p (.box p.pv)),(8,.ref 0 0),(9,.p (.box p.sup.pvs)),(10,i64 next),(11,.p (.sl 1 (Y8 at_))),(12,bl b)]⟩,Y3 D⟩) (Z0 [] [] hT u7 (by rfl) ?_) ?_
 ·refine u9 (fun c=>?_) (fun c=>?_)
  ·have c:=k0z (show decide (i > p.g.w)=true from c)
   refine neI (y:=p.g.s) (by omega) ?_
   refine⟨_,z8 [0,1,2] [1,2,3,8,9,10,11,12] rfl,(IntKind.i64.wrap ((IntKind.i64.wrap (IntKind.i64.wrap (i - 1) - p.g.w)).tdiv p.g.s)==p.area),?_,rfl⟩
   rw[beq_iff_eq,Q0 (i - 1) (by omega) (by omega),Q0 (i - 1 - p.g.w) (by omega) (by omega),hgs,show i - 1 - p.g.w=((n - 1 - w:Nat):Int) by omega,w0m]
   have hdl:(n - 1 - w) / S≤n - 1 - w:=Nat.div_le_self _ _
   generalize (n - 1 - w) / S=qq at hdl ⊢
   rw[Q0 _ (by omega) (by omega)]
   exact⟨fun h=>⟨by omega,h⟩,fun h=>h.2⟩
  ·have c:=k0y (show decide (i > p.g.w)=false from c)
   exact⟨_,z8 [0,1,2] [1,2,3,8,9,10,11,12] rfl,false,⟨fun h=>absurd h (by decide),fun h=>by omega⟩,rfl⟩
 rintro _ ⟨b0,hb0,rfl⟩
 refine Q4 (fun st=>∃ b:Bool,(b=true↔z2y p.sup w S P n)∧st=⟨⟨180,[(1,i64 i),(2,i64 keep),(3,.p (.box p.pv)),(8,.ref 0 0),(9,.p (.box p.sup.pvs)),(10,i64 next),(11,.p (.sl 1 (Y8 at_))),(12,bl b)]⟩,Y3 D⟩) (y6 hT ?_) ?_
 ·refine x3 ?_
  have hnx:next=p.start+P.length:=hL.nx
  have hfit:=hL.fit
  refine Q3 (fun c st=>∃ (q:Nat) (jq:Int) (b:Bool),c+q=P.length∧jq=p.start+q∧(b=true↔((w<n∧(((n - 1 - w) / S:Nat):Int)=p.area)∨(n≤w∧∃ t:Nat,t<q∧q2s p.g p.start t=(n:Int) - 1)))∧st=⟨⟨180,[(1,i64 i),(2,i64 keep),(3,.p (.box p.pv)),(8,.ref 0 0),(9,.p (.box p.sup.pvs)),(10,i64 next),(11,.p (.sl 1 (Y8 at_))),(12,bl b),(13,i64 jq)]⟩,Y3 D⟩) P.length ⟨⟨180,_⟩,_⟩ (z8 [0,1,2] [1,2,3,8,9,10,11,12,13] rfl) ⟨0,p.start,b0,rfl,by omega,?_,rfl⟩ ?_
  ·rw[hb0]
   exact⟨fun h=>.inl h,fun h=>by rcases h with h|⟨_,t,ht,_⟩;exact h;exact absurd ht (Nat.not_lt_zero _)⟩
  rintro c st ⟨q,jq,b,hcq,hjq,hb,rfl⟩
  refine u6 (y6 hT ?_)
  refine y8 (u9 (fun h=>?_) (fun h=>?_))
  ·have h:=k0z (show decide (jq<next)=true from h)
   have hsl:jq.tmod p.g.w=q2s p.g p.start q:=by unfold q2s;rw[hjq]
   refine x7 ?_
   refine Q4 (fun st=>∃ b:Bool,(b=true↔((w<n∧(((n - 1 - w) / S:Nat):Int)=p.area)∨(n≤w∧∃ t:Nat,t<q+1∧q2s p.g p.start t=(n:Int) - 1)))∧st=⟨⟨180,[(1,i64 i),(2,i64 keep),(3,.p (.box p.pv)),(8,.ref 0 0),(9,.p (.box p.sup.pvs)),(10,i64 next),(11,.p (.sl 1 (Y8 at_))),(12,bl b),(13,i64 jq)]⟩,Y3 D⟩) (x3 (y7 hT ?_)) ?_
   ·cases b with
    |true=>
     refine⟨_,z8 [0,1,2] [1,2,3,8,9,10,11,12,13] rfl,true,⟨fun _=>?_,fun _=>rfl⟩,rfl⟩
     rcases hb.mp rfl with h1|⟨h1,t,h2,h3⟩
     ·exact .inl h1
     ·exact .inr ⟨h1,t,by omega,h3⟩
    |false=>
     have hno:¬ ((w<n∧(((n - 1 - w) / S:Nat):Int)=p.area)∨(n≤w∧∃ t:Nat,t<q∧q2s p.g p.start t=(n:Int) - 1)):=fun h1=>absurd (hb.mpr h1) (by decide)
     refine neI (y:=p.g.w) (by omega) ?_
     refine u9 (fun d1=>?_) (fun d1=>?_)
     ·have d1:(jq.tmod p.g.w==IntKind.i64.wrap (i - 1))=true:=d1
      rw[beq_iff_eq,hsl,Q0 _ (by omega) (by omega)]at d1
      refine⟨_,z8 [0,1,2] [1,2,3,8,9,10,11,12,13] rfl,_,?_,rfl⟩
      show decide (i≤p.g.w)=true↔_
      rw[decide_eq_true_eq]
      constructor
      ·intro h1
       exact .inr ⟨by omega,q,by omega,by rw[d1];omega⟩
      ·intro h1
       rcases h1 with h1|⟨h1,_⟩
       ·exact(hno (.inl h1)).elim
       ·omega
     ·have d1:(jq.tmod p.g.w==IntKind.i64.wrap (i - 1))=false:=d1
      rw[beq_eq_false_iff_ne,hsl,Q0 _ (by omega) (by omega)]at d1
      refine⟨_,z8 [0,1,2] [1,2,3,8,9,10,11,12,13] rfl,false,⟨fun h=>absurd h (by decide),fun h1=>?_⟩,rfl⟩
      rcases h1 with h1|⟨h1,t,h2,h3⟩
      ·exact(hno (.inl h1)).elim
      ·by_cases e:t=q
       ·subst e
        exact absurd (by rw[h3];omega) d1
       ·exact(hno (.inr ⟨h1,t,by omega,h3⟩)).elim
   ·rintro _ ⟨b2,hb2,rfl⟩
    refine y7 hT ?_
    exact⟨c - 1,by omega,_,z8 [0,1,2] [1,2,3,8,9,10,11,12,13] rfl,q+1,IntKind.i64.wrap (jq+1),b2,by omega,by rw[Q0 _ (by omega) (by omega)];omega,hb2,rfl⟩
  ·have h:=k0y (show decide (jq<next)=false from h)
   refine Q7 ?_
   refine⟨_,z8 [0,1,2] [1,2,3,8,9,10,11,12] rfl,b,?_,rfl⟩
   rw[hb,show q=P.length by omega]
   constructor
   ·rintro(h1|⟨h1,h2⟩)
    ·exact .inr h1
    ·exact .inl ⟨by omega,h1,h2⟩
   ·rintro(⟨_,h1,h2⟩|h1)
    ·exact .inr ⟨h1,h2⟩
    ·exact .inl h1
 rintro _ ⟨need,hneed,rfl⟩
 clear hb0
 have hil:=V6 at_
 have hal:at_.length=(Z9 w (k+m) n).length:=by rw[← hat,k1x]
 have hL0:=v1h hL hC n
 obtain⟨G,hG⟩:∃ G:Nat,G=q5x w m n:=⟨_,rfl⟩
 rw[← hG]at wB hbe
 refine y6 hT ?_
 refine Q4 (fun st=>∃ (E:Dev) (lost:Nat) (jl:Int),jl=lost∧CleanP E p.g.secs 8000∧z6v D E p.g.secs∧(bdL (Q2 E) (Q2 D) (Z9 w (k+m) n)).length=lost∧lost=G+1∧st=⟨⟨180,[(1,i64 i),(8,.ref 0 0),(9,.p (.box p.sup.pvs)),(10,i64 next),(12,bl need),(14,i64 jl)]⟩,Y3 E⟩) (y6 hT ?_) ?_
 ·refine x3 ?_
  refine Q3 (fun c st=>∃ (q:Nat) (jq:Int) (E:Dev) (lost:Nat) (jl:Int),c+q=at_.length∧jq=q∧jl=lost∧LostP p.sup w k m D E 7000 n q lost∧st=⟨⟨180,[(1,i64 i),(2,i64 keep),(3,.p (.box p.pv)),(8,.ref 0 0),(9,.p (.box p.sup.pvs)),(10,i64 next),(11,.p (.sl 1 (Y8 at_))),(12,bl need),(14,i64 jl),(15,i64 jq)]⟩,Y3 E⟩) at_.length ⟨⟨180,_⟩,_⟩ (z8 [0,1,2] [1,2,3,8,9,10,11,12,14,15] rfl) ⟨0,0,D,0,0,by omega,rfl,rfl,hL0,rfl⟩ ?_
  rintro c st ⟨q,jq,E,lost,jl,hcq,hjq,hjl,hLo,rfl⟩
  have hroom:=hLo.room
  have hfew:=hLo.few
  rw[← hG,← hal]at hroom
  rw[← hG]at hfew
  refine u6 (y6 hT ?_)
  refine u9 (fun h=>?_) (fun h=>?_)
  ·have h:=k0z (show decide (jq<(((Y8 at_).length:Nat):Int))=true from h)
   refine Q1 (Q5 wB _ rfl rfl) ?_
   refine y8 (u9 (fun h2=>?_) (fun h2=>?_))
   ·have h2:=k0z (show decide (jl≤(G:Int))=true from h2)
    have hx:=k0w (show q<(Z9 w (k+m) n).length by omega)
    generalize (Z9 w (k+m) n)[q]=a at hx
    have hap:(Y8 at_)[jq.toNat]?=some [.raw (.int .i64 (a:Int))]:=by
     rw[hjq,k0u]
     refine q2r ?_
     rw[← hat,k1z,hx];rfl
    obtain⟨F,f1,hLo2⟩:=v1i hL hLo hn1 hx (by omega)
    have wf:=z7r E (z4v a) 8000 (hLo.clean.ok.mono (by omega)) (by omega)
    rw[f1]at wf
    have wf:AFm k0q 3 q9a [.ref 0 0,(z4v a).av] (Y3 E) (Q9 (i64 0) (Y3 F)):=wf
    refine x7 ?_
    refine Q4 (fun st=>∃ (E:Dev) (lost:Nat) (jl:Int),jl=lost∧LostP p.sup w k m D E 7000 n (q+1) lost∧st=⟨⟨180,[(1,i64 i),(2,i64 keep),(3,.p (.box p.pv)),(8,.ref 0 0),(9,.p (.box p.sup.pvs)),(10,i64 next),(11,.p (.sl 1 (Y8 at_))),(12,bl need),(14,i64 jl),(15,i64 jq)]⟩,Y3 E⟩) (x3 ?_) ?_
    ·refine y6 hT ?_
     refine u9 (fun d1=>?_) (fun d1=>?_)
     ·refine y8 ?_
      refine y6 hT ?_
      refine⟨by omega,Z2 hap ?_⟩
      refine Q1 (Z7 [0,1,2] wf rfl rfl rfl) ?_
      refine y7 hT ?_
      exact⟨_,z8 [0,1,2] [1,2,3,8,9,10,11,12,14,15] rfl,F,lost+1,IntKind.i64.wrap (jl+1),by rw[Q0 _ (by omega) (by omega)];omega,hLo2,rfl⟩
     ·refine Q1 (Q5 wB _ rfl rfl) ?_
      refine y8 (u9 (fun d2=>?_) (fun d2=>?_))
      ·refine y6 hT ?_
       refine⟨by omega,Z2 hap ?_⟩
       refine Q1 (Z7 [0,1,2] wf rfl rfl rfl) ?_
       refine y7 hT ?_
       exact⟨_,z8 [0,1,2] [1,2,3,8,9,10,11,12,14,15] rfl,F,lost+1,IntKind.i64.wrap (jl+1),by rw[Q0 _ (by omega) (by omega)];omega,hLo2,rfl⟩
      ·have d2:=k0y (show decide (IntKind.i64.wrap ((((Y8 at_).length:Nat):Int) - jq)≤IntKind.i64.wrap (IntKind.i64.wrap ((G:Int)+1) - jl))=false from d2)
       rw[Q0 _ (by omega) (by omega),Q0 ((G:Int)+1) (by omega) (by omega),Q0 _ (by omega) (by omega)]at d2
       exact x7 ⟨_,z8 [0,1,2] [1,2,3,8,9,10,11,12,14,15] rfl,E,lost,jl,hjl,v1j hLo (by omega),rfl⟩
    ·rintro _ ⟨E2,lost2,jl2,hjl2,hLo3,rfl⟩
     refine y7 hT ?_
     exact⟨c - 1,by omega,_,z8 [0,1,2] [1,2,3,8,9,10,11,12,14,15] rfl,q+1,IntKind.i64.wrap (jq+1),E2,lost2,jl2,by omega,by rw[Q0 _ (by omega) (by omega)];omega,hjl2,hLo3,rfl⟩
   ·have h2:=k0y (show decide (jl≤(G:Int))=false from h2)
    refine Q7 ?_
    refine⟨_,z8 [0,1,2] [1,8,9,10,12,14] rfl,E,lost,jl,hjl,hLo.clean.mono (by omega),hLo.near,hLo.nb,by omega,rfl⟩
  ·have h:=k0y (show decide (jq<(((Y8 at_).length:Nat):Int))=false from h)
   refine y8 ?_
   refine Q7 ?_
   refine⟨_,z8 [0,1,2] [1,8,9,10,12,14] rfl,E,lost,jl,hjl,hLo.clean.mono (by omega),hLo.near,hLo.nb,by omega,rfl⟩
 rintro _ ⟨E,lost,jl,hjl,cE,nE,hnb,hlost,rfl⟩
 have ws1:=z6u E 8000 cE.ok (by omega) p.g.secs cE.len (by omega)
 obtain⟨c1,v1⟩:=w4v cE p.g.secs (k1v _)
 have vl:=y0h E p.g.secs
 have hc1:=z2j E p.g.secs
 generalize E.secR p.g.secs=Y1 at ws1 c1 v1 vl hc1
 obtain⟨was,E1⟩:=Y1
 have ws1:AFm k0q 3 q7f [.ref 0 0] (Y3 E) (Q9 (.p (.sl 1 (w9 was))) (Y3 E1)):=ws1
 have c1:CleanP E1 p.g.secs 8000:=c1
 have hc1:E1.cells=E.cells:=hc1
 have vl:was.length=p.g.secs:=vl
 have ve:Q2 E1=Q2 E:=funext fun a=>by unfold Q2;rw[hc1]
 have v1:∀ a,a<p.g.secs→was[a]?=some (Q2 E a):=v1
 have n1:z6v D E1 p.g.secs:=fun a ha=>by rw[ve];exact nE a ha
 have hnb1:(bdL (Q2 E1) (Q2 D) (Z9 w (k+m) n)).length=lost:=by rw[ve];exact hnb
 have wS:=z8b E1 p.sup next i g4 g5 8000 c1.ok (by omega)
 refine u0 ⟨⟨180,[(1,i64 i),(8,.ref 0 0),(9,.p (.box p.sup.pvs)),(10,i64 next),(12,bl need),(14,i64 jl),(16,.p (.sl 1 (w9 was)))]⟩,Y3 E1⟩ True (y7 hT ?_) (fun _=>?_)
 ·refine Q1 (Z7 [0,1,2] ws1 rfl rfl rfl) ?_
  exact⟨z8 [0,1,2] [1,8,9,10,12,14,16] rfl,trivial⟩
 cases need with
 |false=>
  have hno:¬ z2y p.sup w S P n:=fun h=>absurd (hneed.mpr h) (by decide)
  obtain⟨F,s1,_,_,_⟩:=v7b hL c1 n1 hn1 (.inl hno)
  rw[hnb1,← hn]at s1
  rw[s1]at wS
  have wS:AFm k0q 1 q5f [.ref 0 0,p.sup.av,i64 next,i64 i] (Y3 E1) (Q9 (.tup [i64 (lost:Int),i64 0]) (Y3 F)):=wS
  refine u0 ⟨⟨180,[(12,bl false),(14,i64 jl),(17,i64 (lost:Int)),(18,i64 0)]⟩,[]⟩ True (y7 hT ?_) (fun _=>?_)
  ·refine Q1 (Z7 [0,1,2] wS rfl rfl rfl) ?_
   exact⟨z8 [] [12,14,17,18] rfl,trivial⟩
  refine u6 (y6 hT ?_)
  refine y8 ?_
  refine y6 hT ?_
  refine u5 ?_
  refine x8 [] ⟨?_,rfl⟩ rfl
  show bl ((lost:Int)==jl)=bl true
  rw[hjl,beq_self_eq_true]
 |true=>
  obtain⟨F,s1,c2,h2,_⟩:=v9p hL c1 n1 hn1 (hneed.mp rfl) (by omega)
  rw[← hn]at s1
  rw[s1]at wS
  have wS:AFm k0q 1 q5f [.ref 0 0,p.sup.av,i64 next,i64 i] (Y3 E1) (Q9 (.tup [i64 0,i64 22]) (Y3 F)):=wS
  have c2:CleanP F p.g.secs 8000:=c2
  have ws2:=z6u F 8000 c2.ok (by omega) p.g.secs c2.len (by omega)
  obtain⟨_,v2⟩:=w4v c2 p.g.secs (k1v _)
  generalize F.secR p.g.secs=Y2 at ws2 v2
  obtain⟨now,F2⟩:=Y2
  have ws2:AFm k0q 3 q7f [.ref 0 0] (Y3 F) (Q9 (.p (.sl 1 (w9 now))) (Y3 F2)):=ws2
  have v2:∀ a,a<p.g.secs→now[a]?=some (Q2 E a):=fun a ha=>by
   rw[v2 a ha]
   unfold Q2
   rw[h2,hc1]
  have vle:∀ a,a<p.g.secs→(Q2 E a).length≤256:=fun a ha=>by
   unfold Q2
   split
   ·rename_i c hc
    split
    ·exact Nat.zero_le _
    ·exact Nat.le_of_eq (cE.ok.cs c (k2x hc))
   ·exact Nat.zero_le _
  have hwl:=Y6 was
  refine u0 ⟨⟨180,[(8,.ref 0 0),(12,bl true),(16,.p (.sl 1 (w9 was))),(17,i64 0),(18,i64 22)]⟩,Y3 F⟩ True (y7 hT ?_) (fun _=>?_)
  ·refine Q1 (Z7 [0,1,2] wS rfl rfl rfl) ?_
   exact⟨z8 [0,3,4] [8,12,16,17,18] rfl,trivial⟩
  refine u0 ⟨⟨180,[(8,.ref 0 0),(16,.p (.sl 1 (w9 was))),(17,i64 0),(18,i64 22)]⟩,Y3 F⟩ True (y6 hT ?_) (fun _=>?_)
  ·refine y8 ?_
   exact x7 ⟨z8 [0,1,2] [8,16,17,18] rfl,trivial⟩
  refine u0 ⟨⟨180,[(16,.p (.sl 1 (w9 was))),(17,i64 0),(18,i64 22),(19,.p (.sl 1 (w9 now)))]⟩,[]⟩ True (y7 hT ?_) (fun _=>?_)
  ·refine Q1 (Z7 [0,1,2] ws2 rfl rfl rfl) ?_
   exact⟨z8 [] [16,17,18,19] rfl,trivial⟩
  refine u0 ⟨⟨180,[(17,i64 0),(18,i64 22)]⟩,[]⟩ True (y6 hT ?_) (fun _=>?_)
  ·refine x3 ?_
   refine Q3 (fun c st=>∃ (q:Nat) (jq:Int),c+q=p.g.secs∧jq=q∧st=⟨⟨180,[(16,.p (.sl 1 (w9 was))),(17,i64 0),(18,i64 22),(19,.p (.sl 1 (w9 now))),(20,i64 jq)]⟩,[]⟩) p.g.secs ⟨⟨180,_⟩,_⟩ (z8 [] [16,17,18,19,20] rfl) ⟨0,0,by omega,rfl,rfl⟩ ?_
   rintro c st ⟨q,jq,hcq,hjq,rfl⟩
   refine u6 (y6 hT ?_)
   refine y8 (u9 (fun h=>?_) (fun h=>?_))
   ·have h:=k0z (show decide (jq<(((w9 was).length:Nat):Int))=true from h)
    have hq:q<p.g.secs:=by omega
    have x1:(w9 was)[jq.toNat]?=some [bP (Q2 E q)]:=by rw[hjq,k0u];exact Y5 (v1 q hq)
    have x2:(w9 now)[jq.toNat]?=some [bP (Q2 E q)]:=by rw[hjq,k0u];exact Y5 (v2 q hq)
    have wE:=w2v (Q2 E q) (Q2 E q) (by have:=vle q hq;omega)
    rw[beq_self_eq_true]at wE
    generalize Q2 E q=s at x1 x2 wE
    refine x7 ?_
    refine u0 ⟨⟨180,[(16,.p (.sl 1 (w9 was))),(17,i64 0),(18,i64 22),(19,.p (.sl 1 (w9 now))),(20,i64 jq)]⟩,[]⟩ True (x3 (u6 (Z0 [] [] hT u7 (by rfl) ?_))) (fun _=>?_)
    ·refine⟨by omega,Z2 x2 ?_⟩
     refine⟨by omega,Z2 x1 ?_⟩
     refine⟨_,Q5 wE _ rfl rfl,?_⟩
     refine y6 hT ?_
     refine y8 ?_
     exact x7 ⟨z8 [] [16,17,18,19,20] rfl,trivial⟩
    ·refine y7 hT ?_
     exact⟨c - 1,by omega,_,z8 [] [16,17,18,19,20] rfl,q+1,IntKind.i64.wrap (jq+1),by omega,by rw[Q0 _ (by omega) (by omega)];omega,rfl⟩
   ·refine Q7 ?_
    exact⟨z8 [] [17,18] rfl,trivial⟩
  refine y6 hT ?_
  refine u5 ?_
  exact x8 [] ⟨rfl,rfl⟩ rfl
end Go.Proofs.YtkjklhcfgbaceaaGreat.AL
