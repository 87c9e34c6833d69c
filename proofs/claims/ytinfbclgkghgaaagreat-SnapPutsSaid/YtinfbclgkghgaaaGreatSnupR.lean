/- A part of the proof. -/
import Derived.Test.YtinfbclgkghgaaaGreatRows
import Derived.JoinedOf
import Derived.Test.YtinfbclgkghgaaaGreatSnupQ
/- The layer 11 (ring),plain: what is told of a log of several epochs. -/
namespace Go.Proofs.YtinfbclgkghgaaaGreat.AL
open Go Go.Proofs Go.Proofs.YtinfbclgkghgaaaGreat.AL.Crc
def u8f (vol:Int)(g:GeoV)(m:Int)(k:Nat):Option Pc→z7
 |none=>U6 vol (q3g g m k).toNat
 |some p=>(p.sector vol g m).1
/-- What stands in the slots of both mirrors. -/
structure SlotsP (vol:Int) (g:GeoV) (A B:Nat→Option Pc) (cs:List Cell):Prop where
 a:∀ k:Nat,(k:Int)<g.w→cs[(q3g g 0 k).toNat]?=some (z0c (u8f vol g 0 k (A k)))
 b:∀ k:Nat,(k:Int)<g.w→cs[(q3g g 1 k).toNat]?=some (z0c (u8f vol g 1 k (B k)))
def u8g (e:Int)(A:Nat→Option Pc):Prop:=∀ k p,A k=some p→p.may=true∧p.seq=(k:Int)∧p.epoch≤e
structure ChainE (vol:Int) (g:GeoV) (P:List Pc):Prop where
 may:∀ (i:Nat) (p:Pc),P[i]?=some p→p.may=true∧p.seq=(i:Int)∧p.chain=v9j vol g 0 P i
 nxt:∀ (i:Nat) (p q:Pc),P[i]?=some p→P[i+1]?=some q→p.epoch≤q.epoch∧(p.epoch=q.epoch→q.frm=p.frm)∧(p.epoch<q.epoch→q.frm=q.seq)
structure TellsE (A B:Nat→Option Pc) (P:List Pc):Prop where
 one:∀ (i:Nat) (p:Pc),P[i]?=some p→A i=some p∧∀ q,B i=some q→q=p∨q.epoch<p.epoch
 stop:∀ q,A P.length=some q∨B P.length=some q→∃ l,P.getLast?=some l∧q.epoch<l.epoch
structure TailP (T:List Pc):Prop where
 pre:T=[]∨∃ s,u8d s∧T <+: s∧T.length<s.length
structure StateP (vol:Int) (g:GeoV) (e:Int) (A B:Nat→Option Pc) (Q:List (List Pc)) (T:List Pc) (cs:List Cell):Prop where
 slots:SlotsP vol g A B cs
 ma:u8g e A
 mb:u8g e B
 chain:ChainE vol g (Q.flatten++T)
 tells:TellsE A B (Q.flatten++T)
 len:((Q.flatten++T).length:Int)≤g.w
 segs:∀ s∈Q,u8d s
 tail:TailP T
end Go.Proofs.YtinfbclgkghgaaaGreat.AL
namespace Go.Proofs.YtinfbclgkghgaaaGreat.AL
open Go Go.Proofs Go.Proofs.YtinfbclgkghgaaaGreat.AL.Crc
def v9k (A:Nat→Option Pc)(n0:Nat)(W:List Pc):Nat→Option Pc:=fun k=>if n0≤k then (match W[k - n0]? with|some p=>some p|none=>A k) else A k
def Q1z (vol:Int)(g:GeoV)(e:Int)(P0 W:List Pc):Prop:=∀ (i:Nat) (p:Pc),W[i]?=some p→p.may=true∧p.seq=((P0.length+i:Nat):Int)∧p.epoch=e∧p.frm=(P0.length:Int)∧p.chain=v9j vol g 0 (P0++W) (P0.length+i)
structure EndP (vol:Int) (g:GeoV) (e:Int) (E:Dev) (keep:List Bool) (b:Nat) (A B:Nat→Option Pc) (P0 W1 W2:List Pc):Prop where
 ok:E.Ok b
 clean:CleanP (E.crashed keep) g.secs b
 slots:SlotsP vol g (v9k A P0.length W1) (v9k B P0.length W2) (E.crashed keep).cells
 new:Q1z vol g e P0 W1
 half:W1=W2∨∃ p,W1=W2++[p]
 len:((P0.length+W1.length:Nat):Int)≤g.w
theorem EndP.mono {vol:Int}{g:GeoV}{e:Int}{E:Dev}{keep:List Bool}{b c:Nat}{A B:Nat→Option Pc}{P0 W1 W2:List Pc}(h:EndP vol g e E keep b A B P0 W1 W2)(hc:b≤c):EndP vol g e E keep c A B P0 W1 W2:=
 ⟨h.ok.mono hc,h.clean.mono hc,h.slots,h.new,h.half,h.len⟩
end Go.Proofs.YtinfbclgkghgaaaGreat.AL
namespace Go.Proofs.YtinfbclgkghgaaaGreat.AL
open Go Go.Proofs Go.Proofs.YtinfbclgkghgaaaGreat.AL.Crc
theorem StateP.still {vol:Int}{g:GeoV}{e e':Int}{A B:Nat→Option Pc}{Q:List (List Pc)}{T:List Pc}{cs0 cs:List Cell}(h:StateP vol g e A B Q T cs0)(he:e≤e')(hs:SlotsP vol g A B cs):StateP vol g e' A B Q T cs:=
 ⟨hs,fun k p hk=>by obtain⟨a,b,c⟩:=h.ma k p hk;exact⟨a,b,by omega⟩,fun k p hk=>by obtain⟨a,b,c⟩:=h.mb k p hk;exact⟨a,b,by omega⟩,h.chain,h.tells,h.len,h.segs,h.tail⟩
end Go.Proofs.YtinfbclgkghgaaaGreat.AL
namespace Go.Proofs.YtinfbclgkghgaaaGreat.AL
open Go Go.RowKit Go.ChangeShapes Go.WideShapes Go.ChangeAt Go.Deep Go.Proofs
section
variable {H:Type} {enc:TypeId × Value→H} {W:World} {spare:Nat→Bool} {held:Bool}
instance:Inhabited Flt:=⟨⟨0,0,0,0,0,0,0,0,0⟩⟩
def Flt.vals (f:Flt):List Value:=[.int .i64 f.kind,.int .i64 f.at_,.int .i64 f.off,.int .i64 f.n,.int .i64 f.to,.int .u8 (f.m0.toNat:Int),.int .u8 (f.m1.toNat:Int),.int .u8 (f.m2.toNat:Int),.int .u8 (f.m3.toNat:Int)]
theorem c4:Tryz.prog.cellsOf 4=1:=by kernel_rfl
end
end Go.Proofs.YtinfbclgkghgaaaGreat.AL
namespace Go.Proofs.YtinfbclgkghgaaaGreat.AL
open Go Go.Proofs Go.Proofs.YtinfbclgkghgaaaGreat
theorem Q2a:(mapsRowed Tryz.prog)=true:=by kernel_rfl
theorem Q2b:((Tryz.prog.stops==[]))=true:=by kernel_rfl
theorem Q2c:((Tryz.prog.stopKnobs==[]))=true:=by kernel_rfl
theorem u8h:((Rows.ringTellsRow.plainKeys==Tryz.prog.plainKeys))=true:=by kernel_rfl
theorem u8i:(Tryz.prog.stopsHeard)=true:=by kernel_rfl
theorem u8j:(Tryz.prog.mayEnter)=true:=by kernel_rfl
theorem u8k:((Rows.ringTellsRow.lifted==Tryz.prog.liftsFinal))=true:=by kernel_rfl
theorem u8m:((Tryz.prog.make==some Rows.ringTellsRow.make))=true:=by kernel_rfl
end Go.Proofs.YtinfbclgkghgaaaGreat.AL
