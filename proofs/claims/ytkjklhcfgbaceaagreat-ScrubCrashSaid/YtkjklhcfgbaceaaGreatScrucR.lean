/- A part of the proof. -/
import Derived.Laws.IdiomArrays
import Derived.Test.YtkjklhcfgbaceaaGreatRows
import Derived.JoinedOf
import Derived.Test.YtkjklhcfgbaceaaGreatScrucQ
open Go.Proofs.Tryz renaming prog→k0q
set_option maxRecDepth 20000
namespace Go.Proofs.YtkjklhcfgbaceaaGreat.AL
open Go Go.RowKit Go.ChangeShapes Go.WideShapes Go.ChangeAt Go.Deep Go.Proofs
theorem q6q {W:World}{I:Nat→Prop}(k:IntKind)(n:Int):PRep W I (.raw (.int k n)) (.int k n):=.raw _ rfl
theorem v8u {W:World}{I:Nat→Prop}(b:Bool):PRep W I (.raw (.bool b)) (.bool b):=.raw _ rfl
theorem z2q {W:World}{I:Nat→Prop}{ι:Nat→Option Nat}(n:Int):ARep W I ι (i64 n) (.int .i64 n):=.p (.raw _ rfl)
section
variable {H:Type} {enc:TypeId × Value→H} {W:World} {spare:Nat→Bool} {held:Bool}
theorem w1z {n:Int}(h:(Lit.int .u8 n).wf=true):∃ b:UInt8,n=(b.toNat:Int):=by
 have h2:0≤n∧n<256:=by
  simp[Lit.wf]at h
  have h3:IntKind.u8.min=0:=rfl
  have h4:IntKind.u8.max=255:=rfl
  omega
 refine⟨UInt8.ofNat n.toNat,?_⟩
 rw[UInt8.toNat_ofNat']
 omega
theorem c3:Tryz.prog.cellsOf 3=1:=by kernel_rfl
theorem c5:Tryz.prog.cellsOf 5=1:=by kernel_rfl
theorem c23:Tryz.prog.cellsOf 23=4:=by kernel_rfl
theorem c24:Tryz.prog.cellsOf 24=1:=by kernel_rfl
theorem c4:Tryz.prog.cellsOf 4=1:=by kernel_rfl
theorem c25:Tryz.prog.cellsOf 25=1:=by kernel_rfl
theorem c27:Tryz.prog.cellsOf 27=8:=by kernel_rfl
theorem c40:Tryz.prog.cellsOf 40=4:=by kernel_rfl
theorem c42:Tryz.prog.cellsOf 42=9:=by kernel_rfl
theorem v2h (n:Nat)(cs:List Value)(x:DataW H × List MemPlace)(h:DataW.trod enc k0q W 0 spare held n 23 cs=some x):∃ g:GeoV,cs=[.int .i64 g.w,.int .i64 g.s,.int .i64 g.k,.int .i64 g.m]:=by
 obtain⟨xs,m,_,rfl,hl,hlen,hf⟩:=DataW.trod_struct Tryz.underlying23 h
 rw[c23]at hl
 have h0:=hf 0 _ rfl
 have h1:=hf 1 _ rfl
 have h2:=hf 2 _ rfl
 have h3:=hf 3 _ rfl
 match xs,hlen with
 |[y0,y1,y2,y3],_=>
  match cs,hl with
  |[v0,v1,v2,v3],_=>
   simp[c3]at h0 h1 h2 h3
   obtain⟨a0,e0,_⟩:=DataW.trod_int Tryz.underlying3 h0
   obtain⟨a1,e1,_⟩:=DataW.trod_int Tryz.underlying3 h1
   obtain⟨a2,e2,_⟩:=DataW.trod_int Tryz.underlying3 h2
   obtain⟨a3,e3,_⟩:=DataW.trod_int Tryz.underlying3 h3
   simp at e0 e1 e2 e3
   exact⟨⟨a0,a1,a2,a3⟩,by rw[e0,e1,e2,e3]⟩
theorem w8a (n:Nat)(cs:List Value)(x:DataW H × List MemPlace)(hx:DataW.trod enc k0q W 0 spare held n 5 cs=some x):∃ b:UInt8,([u8 b]:List PV).length=1∧∀ (i:Nat) (u:PV),([u8 b]:List PV)[i]?=some u→∀ v:Value,cs[i]?=some v→PRep W (·<W.heap.size) u v:=by
 obtain⟨a,e,_,w⟩:=DataW.trod_int Tryz.underlying5 hx
 obtain⟨b,rfl⟩:=w1z w
 refine⟨b,rfl,fun i u hu v hv=>?_⟩
 rw[e]at hv
 match i,hu,hv with
 |0,hu,hv=>simp at hu hv;subst hu;subst hv;exact q6q _ _
 |i+1,hu,hv=>simp at hu
theorem u1m (n:Nat)(cs:List Value)(x:DataW H × List MemPlace)(hx:DataW.trod enc k0q W 0 spare held n 25 cs=some x):∃ b:x8,([bP b]:List PV).length=1∧∀ (i:Nat) (u:PV),([bP b]:List PV)[i]?=some u→∀ v:Value,cs[i]?=some v→PRep W (·<W.heap.size) u v:=by
 obtain⟨l,v,hv,hp⟩:=z8k Tryz.underlying25 hx (fun b:UInt8=>[u8 b]) 1 c5 (by decide) w8a
 refine⟨l,rfl,fun i u hu w hw=>?_⟩
 rw[hv]at hw
 match i,hu,hw with
 |0,hu,hw=>simp at hu hw;subst hu;subst hw;exact hp
 |i+1,hu,hw=>simp at hu
instance:Inhabited Flt:=⟨⟨0,0,0,0,0,0,0,0,0⟩⟩
def Flt.vals (f:Flt):List Value:=[.int .i64 f.kind,.int .i64 f.at_,.int .i64 f.off,.int .i64 f.n,.int .i64 f.to,.int .u8 (f.m0.toNat:Int),.int .u8 (f.m1.toNat:Int),.int .u8 (f.m2.toNat:Int),.int .u8 (f.m3.toNat:Int)]
theorem v2i (n:Nat)(cs:List Value)(x:DataW H × List MemPlace)(h:DataW.trod enc k0q W 0 spare held n 42 cs=some x):∃ f:Flt,cs=f.vals:=by
 obtain⟨xs,m,_,rfl,hl,hlen,hf⟩:=DataW.trod_struct Tryz.underlying42 h
 rw[c42]at hl
 have h0:=hf 0 _ rfl
 have h1:=hf 1 _ rfl
 have h2:=hf 2 _ rfl
 have h3:=hf 3 _ rfl
 have h4:=hf 4 _ rfl
 have h5:=hf 5 _ rfl
 match xs,hlen with
 |[y0,y1,y2,y3,y4,y5],_=>
  match cs,hl with
  |[v0,v1,v2,v3,v4,v5,v6,v7,v8],_=>
   simp[c3,c40]at h0 h1 h2 h3 h4 h5
   obtain⟨a0,e0,_⟩:=DataW.trod_int Tryz.underlying3 h0
   obtain⟨a1,e1,_⟩:=DataW.trod_int Tryz.underlying3 h1
   obtain⟨a2,e2,_⟩:=DataW.trod_int Tryz.underlying3 h2
   obtain⟨a3,e3,_⟩:=DataW.trod_int Tryz.underlying3 h3
   obtain⟨a4,e4,_⟩:=DataW.trod_int Tryz.underlying3 h4
   obtain⟨z0,z1,z2,z3,k,_,g0,g1,g2,g3⟩:=trod_array4 Tryz.underlying40 c5 h5
   obtain⟨b0,f0,_,w0⟩:=DataW.trod_int Tryz.underlying5 g0
   obtain⟨b1,f1,_,w1⟩:=DataW.trod_int Tryz.underlying5 g1
   obtain⟨b2,f2,_,w2⟩:=DataW.trod_int Tryz.underlying5 g2
   obtain⟨b3,f3,_,w3⟩:=DataW.trod_int Tryz.underlying5 g3
   obtain⟨m0,rfl⟩:=w1z w0
   obtain⟨m1,rfl⟩:=w1z w1
   obtain⟨m2,rfl⟩:=w1z w2
   obtain⟨m3,rfl⟩:=w1z w3
   simp at e0 e1 e2 e3 e4 f0 f1 f2 f3
   exact⟨⟨a0,a1,a2,a3,a4,m0,m1,m2,m3⟩,by rw[e0,e1,e2,e3,e4,f0,f1,f2,f3];rfl⟩
theorem v8v {v:Value}{d:DataW H}{ps:List MemPlace}{r:Reach}{b0:Nat}{ι:Nat→Option Nat}
 (hval:Value.okWide k0q W r b0 48 v) (h:DataW.Trod enc k0q W 0 spare held 48 v d ps):∃ l:List Flt,ARep W (·<W.heap.size) ι (.p (.sl 9 (flX l))) v:=
 x3f Tryz.underlying48 hval h Flt.pv 9 c42 (by decide) fun n cs x hx=>by
  obtain⟨f,rfl⟩:=v2i n cs x hx
  refine⟨f,rfl,fun i u hu v hv=>?_⟩
  match i,hu,hv with
  |0,hu,hv=>cases hu;cases hv;exact q6q _ _
  |1,hu,hv=>cases hu;cases hv;exact q6q _ _
  |2,hu,hv=>cases hu;cases hv;exact q6q _ _
  |3,hu,hv=>cases hu;cases hv;exact q6q _ _
  |4,hu,hv=>cases hu;cases hv;exact q6q _ _
  |5,hu,hv=>cases hu;cases hv;exact q6q _ _
  |6,hu,hv=>cases hu;cases hv;exact q6q _ _
  |7,hu,hv=>cases hu;cases hv;exact q6q _ _
  |8,hu,hv=>cases hu;cases hv;exact q6q _ _
  |i+9,hu,hv=>cases hu
theorem v2j {v:Value}{d:DataW H}{ps:List MemPlace}{r:Reach}{b0:Nat}{ι:Nat→Option Nat}
 (hval:Value.okWide k0q W r b0 65 v) (h:DataW.Trod enc k0q W 0 spare held 65 v d ps):∃ l:List Bool,ARep W (·<W.heap.size) ι (.p (.sl 1 (kx l))) v:=
 x3f Tryz.underlying65 hval h (fun b:Bool=>[PV.raw (.bool b)]) 1 c4 (by decide) fun n cs x hx=>by
  obtain⟨q,hq,_⟩:=DataW.trod_bool Tryz.underlying4 hx
  refine⟨q,rfl,fun i u hu v hv=>?_⟩
  rw[hq]at hv
  match i,hu,hv with
  |0,hu,hv=>simp at hu hv;subst hu;subst hv;exact v8u _
  |i+1,hu,hv=>simp at hu
theorem w5w (n:Nat)(cs:List Value)(x:DataW H × List MemPlace)(h:DataW.trod enc k0q W 0 spare held n 27 cs=some x) :
 ∃ (p:Plan) (v w:Value),cs=[.int .i64 p.g.w,.int .i64 p.g.s,.int .i64 p.g.k,.int .i64 p.g.m,.int .i64 p.start,v,w,.int .i64 p.area]∧PRep W (·<W.heap.size) (.sl 1 (x9 p.txs)) v∧PRep W (·<W.heap.size) (bP p.snap) w:=by
 obtain⟨xs,m,_,rfl,hl,hlen,hf⟩:=DataW.trod_struct Tryz.underlying27 h
 rw[c27]at hl
 have h0:=hf 0 _ rfl
 have h1:=hf 1 _ rfl
 have h2:=hf 2 _ rfl
 have h3:=hf 3 _ rfl
 have h4:=hf 4 _ rfl
 match xs,hlen with
 |[y0,y1,y2,y3,y4],_=>
  match cs,hl with
  |[v0,v1,v2,v3,v4,v5,v6,v7],_=>
   simp[c3,c23,c24,c25]at h0 h1 h2 h3 h4
   obtain⟨g,e0⟩:=v2h _ _ _ h0
   obtain⟨a1,e1,_⟩:=DataW.trod_int Tryz.underlying3 h1
   obtain⟨txs,w2,e2,k2⟩:=z8k Tryz.underlying24 h2 (fun b:x8=>[bP b]) 1 c25 (by decide) u1m
   obtain⟨snap,w3,e3,k3⟩:=z8k Tryz.underlying25 h3 (fun b:UInt8=>[u8 b]) 1 c5 (by decide) w8a
   obtain⟨a4,e4,_⟩:=DataW.trod_int Tryz.underlying3 h4
   simp at e0 e1 e2 e3 e4
   obtain⟨q0,q1,q2,q3⟩:=e0
   exact⟨⟨g,a1,txs,snap,a4⟩,w2,w3,by rw[q0,q1,q2,q3,e1,e2,e3,e4],k2,k3⟩
theorem v8w {v:Value}{d:DataW H}{ps:List MemPlace}{r:Reach}{b0:Nat}{ι:Nat→Option Nat}
 (hval:Value.okWide k0q W r b0 27 v) (h:DataW.Trod enc k0q W 0 spare held 27 v d ps):∃ p:Plan,ARep W (·<W.heap.size) ι p.av v:=by
 obtain⟨cs,rfl,hsz⟩:=okWide_struct Tryz.underlying27 hval
 obtain⟨n,hn⟩:=h
 obtain⟨p,v,w,hcs,k2,k3⟩:=w5w n _ _ hn
 have:cs=[Value.int .i64 p.g.w,.int .i64 p.g.s,.int .i64 p.g.k,.int .i64 p.g.m,.int .i64 p.start,v,w,.int .i64 p.area].toArray:=by
  cases cs;simpa [Value.cells] using hcs
 subst this
 refine⟨p,.agg _ _ rfl fun i u hu=>?_⟩
 match i,hu with
 |0,hu=>cases hu;exact z2q _
 |1,hu=>cases hu;exact z2q _
 |2,hu=>cases hu;exact z2q _
 |3,hu=>cases hu;exact z2q _
 |4,hu=>cases hu;exact z2q _
 |5,hu=>cases hu;exact .p k2
 |6,hu=>cases hu;exact .p k3
 |7,hu=>cases hu;exact z2q _
 |i+8,hu=>cases hu
end
end Go.Proofs.YtkjklhcfgbaceaaGreat.AL
/- The facts on the whole program (seat re) that each row of the seat asks for. -/
namespace Go.Proofs.YtkjklhcfgbaceaaGreat.AL
open Go Go.Proofs Go.Proofs.YtkjklhcfgbaceaaGreat
theorem u5w:(mapsRowed k0q)=true:=by kernel_rfl
theorem u5x:((Tryz.prog.stops==[]))=true:=by kernel_rfl
theorem u5y:((Tryz.prog.stopKnobs==[]))=true:=by kernel_rfl
theorem u5a:((Rows.scrubBeyondRow.plainKeys==Tryz.prog.plainKeys))=true:=by kernel_rfl
theorem u5b:(Tryz.prog.stopsHeard)=true:=by kernel_rfl
theorem u5c:(Tryz.prog.mayEnter)=true:=by kernel_rfl
theorem u5d:((Rows.scrubBeyondRow.lifted==Tryz.prog.liftsFinal))=true:=by kernel_rfl
theorem u5e:((Tryz.prog.make==some Rows.scrubBeyondRow.make))=true:=by kernel_rfl
end Go.Proofs.YtkjklhcfgbaceaaGreat.AL
