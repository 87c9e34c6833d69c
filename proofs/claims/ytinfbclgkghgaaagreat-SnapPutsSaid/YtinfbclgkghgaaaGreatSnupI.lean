/- A part of the proof. -/
import Derived.Laws.Strings
import Derived.Test.YtinfbclgkghgaaaGreatSnupH
/- The layer 07 (block): a sector is made,or not;numbers of bytes. -/
namespace Go.Proofs.YtinfbclgkghgaaaGreat.AL
open Go Go.Proofs Go.Proofs.YtinfbclgkghgaaaGreat.AL.Crc
theorem y5h {b:Blk}(h:b.nums=true):∃ k v a e q:Nat,b=⟨k,v,a,e,q,b.body⟩∧1≤k∧k≤4∧v≤4294967295∧a≤4294967295∧e≤4294967295∧q≤4294967295:=by
 obtain⟨k,v,a,e,q,body⟩:=b
 unfold Blk.nums Y1 at h
 simp only[List.all_cons,List.all_nil,Bool.and_true,Bool.and_eq_true,decide_eq_true_eq]at h
 obtain⟨⟨k1,k4⟩,⟨v0,v1⟩,⟨a0,a1⟩,⟨e0,e1⟩,q0,q1⟩:=h
 refine⟨k.toNat,v.toNat,a.toNat,e.toNat,q.toNat,?_,by omega,by omega,by omega,by omega,by omega,by omega⟩
 rw[Int.toNat_of_nonneg (by omega),Int.toNat_of_nonneg v0,Int.toNat_of_nonneg a0,Int.toNat_of_nonneg e0,Int.toNat_of_nonneg q0]
theorem y5i (b:Blk):AF Tryz.prog z5g [b.av] [] (v9 (.tup [bA b.sld.1,i64 b.sld.2]) []):=by
 cases hn:b.nums with
 |true=>
  cases hl:decide (b.body.length > 228) with
  |false=>
   have hl:=of_decide_eq_false hl
   have e:b.sld=(J9 b.all,0):=by unfold Blk.sld;rw[hn,decide_eq_false hl]
   obtain⟨k,v,a,e',q,hb,_⟩:=y5h hn
   rw[e]
   rw[hb]at hn ⊢
   exact y8e k v a e' q b.body hn (by omega)
  |true=>
   have e:b.sld=([],2):=by unfold Blk.sld;rw[hn,hl]
   have hbl:=w9 b.body
   have hl:=of_decide_eq_true hl
   have wn:=q7v b
   rw[hn]at wn
   rw[e]
   refine v8 hT q8z rfl rfl q9a rfl ?_
   refine q8 (q7 hT ?_)
   refine Q1 (Q3 0 b.pv rfl rfl) ?_
   refine q8 (z3 (q8 (q7 hT ?_)))
   refine y9 (w7 wn _ rfl rfl) ?_
   refine z2 ?_
   refine q8 (q7 hT ?_)
   refine z2 (y4 (fun h=>?_) (fun h=>?_))
   ·refine q8 (q7 hT ?_)
    refine Q1 (q2t 2 1 rfl) ?_
    refine y5 ?_
    exact z9 [] ⟨rfl,rfl⟩ rfl
   ·have h:=of_decide_eq_false (show decide (((bx b.body).length:Int) > 228)=false from h)
    omega
 |false=>
  have e:b.sld=([],1):=by unfold Blk.sld;rw[hn]
  have wn:=q7v b
  rw[hn]at wn
  rw[e]
  refine v8 hT q8z rfl rfl q9a rfl ?_
  refine q8 (q7 hT ?_)
  refine Q1 (Q3 0 b.pv rfl rfl) ?_
  refine q8 (z3 (q8 (q7 hT ?_)))
  refine y9 (w7 wn _ rfl rfl) ?_
  refine z2 ?_
  refine q8 (q7 hT ?_)
  refine Q1 (q2t 2 1 rfl) ?_
  refine y5 ?_
  exact z9 [] ⟨rfl,rfl⟩ rfl
/-- The number that bytes are,the lowest one first. -/
def q9x:z7→Nat
 |[]=>0
 |c :: r=>q9x r*256+c.toNat
theorem x9r:∀ l:z7,q9x l<256 ^ l.length
 |[]=>by simp[q9x]
 |c :: r=>by
  have ih:=x9r r
  have hc:=c.toNat_lt
  rw[q9x,List.length_cons,Nat.pow_succ]
  omega
theorem v7z (n c:Nat)(hn:n<4294967296)(hc:c<256):IntKind.i64.wrap ((BitVec.ofInt 64 (IntKind.i64.wrap ((n:Int)*2 ^ (min ((8:Nat):Int).toNat 64))) ||| BitVec.ofInt 64 (IntKind.i64.wrap (c:Int))).toNat:Int)=((n*256+c:Nat):Int):=by
 have e1:IntKind.i64.wrap ((n:Int)*2 ^ (min ((8:Nat):Int).toNat 64))=((n*256:Nat):Int):=by
  show IntKind.i64.wrap ((n:Int)*256)=_
  rw[y7 _ (by omega) (by omega)];omega
 rw[e1,y7 (c:Int) (by omega) (by omega)]
 have e2:(BitVec.ofInt 64 ((n*256:Nat):Int) ||| BitVec.ofInt 64 (c:Int)).toNat=n*256+c:=by
  rw[BitVec.toNat_or,BitVec.toNat_ofInt,BitVec.toNat_ofInt]
  rw[show (((n*256:Nat):Int) % ((2 ^ 64:Nat):Int)).toNat=n*256 by omega,show ((c:Int) % ((2 ^ 64:Nat):Int)).toNat=c by omega]
  have:=Nat.shiftLeft_add_eq_or_of_lt (show c<2 ^ 8 from hc) n
  rw[Nat.shiftLeft_eq]at this
  exact this.symm
 rw[e2,y7 _ (by omega) (by omega)]
def q2c (s:z7)(at_ w:Nat):Nat:=q9x ((s.drop at_).take w)
theorem q3z (s:z7)(at_ w:Nat)(hw:w≤4)(hs:at_+w≤s.length)(hl:s.length≤1000000):AF Tryz.prog y3n [bA s,i64 at_,i64 w] [] (v9 (i64 (q2c s at_ w:Nat)) []):=by
 refine v8 hT y3p rfl rfl y3q rfl ?_
 refine q8 (q7 hT ?_)
 refine q8 (q7 hT ?_)
 refine q8 (q8 (q7 hT ?_))
 refine z3 ?_
 refine y8 (fun m st=>∃ (j v:Int),j=(m:Int) - 1∧m≤w∧v=(q9x ((s.drop (at_+m)).take (w - m)):Nat)∧st=⟨⟨26,[(0,bA s),(1,i64 at_),(7,i64 v),(8,i64 j)]⟩,[]⟩) w ⟨⟨26,_⟩,[]⟩ (q9 [] [0,1,7,8] rfl) ⟨_,0,?_,Nat.le_refl _,by rw[Nat.sub_self,List.take_zero];rfl,rfl⟩ ?_
 ·exact y7 _ (by omega) (by omega)
 rintro m st ⟨j,v,hj,hm,hv,rfl⟩
 refine q8 (q8 (q7 hT ?_))
 refine z2 (y4 (fun h=>?_) (fun h=>?_))
 ·have h:=of_decide_eq_true (show decide (j≥0)=true from h)
  obtain⟨m,rfl⟩:∃ k,m=k+1:=⟨m - 1,by omega⟩
  have hj:j=(m:Int):=by omega
  subst hj
  have hi:at_+m<s.length:=by omega
  have hx:=List.getElem?_eq_getElem hi
  have hdr:s.drop (at_+m)=s[at_+m] :: s.drop (at_+(m+1)):=List.drop_eq_getElem_cons hi
  generalize s[at_+m]=c at hx hdr
  have hc:=c.toNat_lt
  have e1:IntKind.i64.wrap ((at_:Int)+(m:Int))=((at_+m:Nat):Int):=by rw[y7 _ (by omega) (by omega)];omega
  have hxp:(bx s)[(IntKind.i64.wrap ((at_:Int)+(m:Int))).toNat]?=some [u8 c]:=by rw[e1,Int.toNat_natCast];exact x3x hx
  have hL:q9x ((s.drop (at_+m)).take (w - m))=q9x ((s.drop (at_+(m+1))).take (w - (m+1)))*256+c.toNat:=by
   rw[hdr,show w - m=(w - (m+1))+1 by omega,List.take_succ_cons];rfl
  have hlt:=x9r ((s.drop (at_+(m+1))).take (w - (m+1)))
  have hpw:256 ^ ((s.drop (at_+(m+1))).take (w - (m+1))).length≤256 ^ 3:=Nat.pow_le_pow_right (by omega) (by rw[List.length_take];omega)
  subst hv
  generalize q9x ((s.drop (at_+(m+1))).take (w - (m+1)))=n at hL hlt
  have ho:=v7z n c.toNat (by omega) hc
  refine z5 ?_
  refine q8 (z3 (q7 hT ?_))
  refine⟨by rw[e1];omega,v7 hxp ?_⟩
  refine q7 hT ?_
  refine⟨m,by omega,_,q9 [] [0,1,7,8] rfl,IntKind.i64.wrap ((m:Int) - 1),_,y7 _ (by omega) (by omega),by omega,?_,rfl⟩
  rw[hL];exact ho
 ·have h:=of_decide_eq_false (show decide (j≥0)=false from h)
  have hm0:m=0:=by omega
  subst hm0
  refine x9 ?_
  refine q8 (q7 hT ?_)
  refine y5 ?_
  rw[Nat.add_zero,Nat.sub_zero]at hv
  subst hv
  exact z9 [] ⟨rfl,rfl⟩ rfl
end Go.Proofs.YtinfbclgkghgaaaGreat.AL
namespace Go.Proofs.YtinfbclgkghgaaaGreat.AL
open Go Go.Proofs
theorem y0d (s t:z7):AF Tryz.prog y7j [bA s,bA t] [] (v9 (bl (s==t)) []):=by
 refine v8 hT y7k rfl rfl y7m rfl ?_
 refine q8 (q7 hT ?_)
 refine q8 (q7 hT ?_)
 refine⟨s,rfl,?_⟩
 refine⟨t,rfl,?_⟩
 refine⟨s==t,by rw[ByteArray.toList_eq,ByteArray.toList_eq],?_⟩
 refine y5 ?_
 exact z9 [] ⟨rfl,rfl⟩ rfl
abbrev u7r (m:Int):ABlk:=.cells x8y [.ref 1 0,i64 m]
abbrev hH (D:Dev)(m:Int):List ABlk:=[u7r m,q3k D 2 3,.row Z3 4 (cx D.cells),.row Q8 2 (wx D.waits)]
abbrev w6i (a:Int)(s:z7):AV:=.agg [i64 a,bA s]
def Dev.hhas (D:Dev)(a:Int)(s:z7):(Bool × Int) × Dev:=match (D.read a).1.2==20 with
 |true=>((false,0),(D.read a).2)
 |false=>(((D.read a).1.2==0&&(D.read a).1.1==s,(D.read a).1.2),(D.read a).2)
theorem v8a {D E:Dev}{a:Int}{s x1:z7}{x2:Int}(h:D.read a=((x1,x2),E)):D.hhas a s=(match x2==20 with|true=>((false,0),E)|false=>((x2==0&&x1==s,x2),E)):=by
 unfold Dev.hhas;rw[h]
theorem v5e (D:Dev)(m a:Int)(s:z7)(b:Nat)(hD:D.Ok b)(hb:b≤1000000):AFm Tryz.prog 4 y1j [.ref 0 0,w6i a s] (hH D m) (v9 (.tup [bl (D.hhas a s).1.1,i64 (D.hhas a s).1.2]) (hH (D.hhas a s).2 m)):=by
 have big:=hD.big hb
 have rd:=y9p D a big.2.1 big.2.2.1 big.2.2.2
 rcases hr:D.read a with ⟨⟨x1,x2⟩,E⟩
 have he:=v8a (s:=s) hr
 rw[hr]at rd
 generalize D.hhas a s=Z at he
 refine Q5 4 hT y1k rfl rfl y1m rfl rfl ?_
 refine q8 (q7 hT ?_)
 refine Q1 (Q3 4 [.raw (.int .i64 a),bP s] rfl rfl) ?_
 refine z8 ⟨⟨29,[(3,.p (.box [.raw (.int .i64 a),bP s])),(6,bA x1),(7,i64 x2)]⟩,hH E m⟩ True ?_ (fun _=>?_)
 ·refine x6 [6] [] hT z6 (by rfl) ?_
  refine⟨_,_,u6 [1,2,3] rd rfl rfl rfl,?_⟩
  exact⟨q9 [0,1,2,3] [3,6,7] rfl,trivial⟩
 refine q8 (q8 (q7 hT ?_))
 refine z2 (y4 (fun h=>?_) (fun h=>?_))
 ·have h:(x2==20)=true:=h
  rw[h]at he;subst he
  refine q8 (q7 hT ?_)
  refine y5 ?_
  exact z9 [0,1,2,3] ⟨rfl,rfl⟩ rfl
 ·have h:(x2==20)=false:=h
  rw[h]at he;subst he
  refine z5 ?_
  refine q8 (q7 hT ?_)
  refine y4 (fun h2=>?_) (fun h2=>?_)
  ·refine y9 (w7 (y0d x1 s) _ rfl rfl) ?_
   refine y5 ?_
   have h2:(x2==0)=true:=h2
   rw[h2]
   exact z9 [0,1,2,3] ⟨rfl,rfl⟩ rfl
  ·refine y5 ?_
   have h2:(x2==0)=false:=h2
   rw[h2]
   exact z9 [0,1,2,3] ⟨rfl,rfl⟩ rfl
def Dev.once (D:Dev)(a:Int)(s:z7):(Bool × Int) × Dev:=match (D.write a s).1 != 0 with
 |true=>((false,(D.write a s).1),(D.write a s).2)
 |false=>match (D.write a s).2.flush.1 != 0 with
  |true=>((false,(D.write a s).2.flush.1),(D.write a s).2.flush.2)
  |false=>(D.write a s).2.flush.2.hhas a s
theorem w9c (D:Dev)(m a:Int)(s:z7)(b:Nat)(hD:D.Ok b)(hb:b<1000000):AFm Tryz.prog 2 z8v [.ref 0 0,w6i a s] (hH D m) (v9 (.tup [bl (D.once a s).1.1,i64 (D.once a s).1.2]) (hH (D.once a s).2 m)):=by
 have big:=hD.big (Nat.le_of_lt hb)
 have w1:=y4u D a s big.2.1
 have ok1:=hD.write a s
 have he:D.once a s=(match (D.write a s).1 != 0 with|true=>((false,(D.write a s).1),(D.write a s).2)|false=>match (D.write a s).2.flush.1 != 0 with|true=>((false,(D.write a s).2.flush.1),(D.write a s).2.flush.2)|false=>(D.write a s).2.flush.2.hhas a s):=rfl
 generalize D.write a s=W at he w1 ok1
 obtain⟨e1,D1⟩:=W
 replace ok1:D1.Ok (b+1):=ok1
 have big1:=ok1.big (show b+1≤1000000 by omega)
 have w2:=y4s D1 big1.1 big1.2.1
 have ok2:=ok1.flush
 replace he:D.once a s=(match e1 != 0 with|true=>((false,e1),D1)|false=>match D1.flush.1 != 0 with|true=>((false,D1.flush.1),D1.flush.2)|false=>D1.flush.2.hhas a s):=he
 generalize D1.flush=W at he w2 ok2
 obtain⟨e2,D2⟩:=W
 replace ok2:D2.Ok (b+1):=ok2
 have w3:=v5e D2 m a s (b+1) ok2 (by omega)
 replace he:D.once a s=(match e1 != 0 with|true=>((false,e1),D1)|false=>match e2 != 0 with|true=>((false,e2),D2)|false=>D2.hhas a s):=he
 generalize D2.hhas a s=Y at he w3
 obtain⟨⟨y1,y2⟩,D3⟩:=Y
 generalize D.once a s=Z at he
 refine Q5 2 hT z8w rfl rfl z8x rfl rfl ?_
 refine q8 (q7 hT ?_)
 refine Q1 (Q3 4 [.raw (.int .i64 a),bP s] rfl rfl) ?_
 refine z8 ⟨⟨33,[(0,.ref 0 0),(3,.p (.box [.raw (.int .i64 a),bP s]))]⟩,hH D1 m⟩ (e1=0) (q8 ?_) ?_
 ·refine x6 [8] [] hT z6 (by rfl) ?_
  refine⟨_,_,u6 [1,2,3] w1 rfl rfl rfl,?_⟩
  refine q8 (q7 hT ?_)
  refine z2 (y4 (fun h=>?_) (fun h=>?_))
  ·have h:(e1 != 0)=true:=h
   rw[h]at he;subst he
   refine q8 (q7 hT ?_)
   refine y5 ?_
   exact z9 [0,1,5,6] ⟨rfl,rfl⟩ rfl
  ·have h:(e1 != 0)=false:=h
   exact z5 ⟨q9 [0,1,5,6] [0,3] rfl,by simpa using h⟩
 rintro h1
 rw[show (e1 != 0)=false by simpa using h1]at he
 refine z8 ⟨⟨33,[(0,.ref 0 0),(3,.p (.box [.raw (.int .i64 a),bP s]))]⟩,hH D2 m⟩ (e2=0) (q8 (q7 hT ?_)) ?_
 ·refine y9 (u6 [1,2,3] w2 rfl rfl rfl) ?_
  refine q8 (q7 hT ?_)
  refine z2 (y4 (fun h=>?_) (fun h=>?_))
  ·have h:(e2 != 0)=true:=h
   rw[h]at he;subst he
   refine q8 (q7 hT ?_)
   refine y5 ?_
   exact z9 [0,1,4,5] ⟨rfl,rfl⟩ rfl
  ·have h:(e2 != 0)=false:=h
   exact z5 ⟨q9 [0,1,4,5] [0,3] rfl,by simpa using h⟩
 rintro h2
 rw[show (e2 != 0)=false by simpa using h2]at he
 subst he
 refine q8 (q7 hT ?_)
 refine y9 (u6 [0,1,2,3] w3 rfl rfl rfl) ?_
 refine y5 ?_
 exact z9 [0,1,2,3] ⟨rfl,rfl⟩ rfl
end Go.Proofs.YtinfbclgkghgaaaGreat.AL
namespace Go.Proofs.YtinfbclgkghgaaaGreat.AL
open Go Go.Proofs Go.Proofs.YtinfbclgkghgaaaGreat.AL.Crc
def Blk.zero:Blk:=⟨0,0,0,0,0,[]⟩
def z6r (s:z7):Blk:=⟨((s.getD 2 0).toNat:Int),(q2c s 4 4:Nat),(q2c s 8 4:Nat),(q2c s 12 4:Nat),(q2c s 16 4:Nat),(s.drop 24).take (q2c s 20 2)⟩
def U3 (s:z7):Blk × Int:=match decide (s.length=256) with
 |false=>(Blk.zero,1)
 |true=>match !(q0i s)||decide ((q2c s 20 2:Int) > 228) with
  |true=>(Blk.zero,7)
  |false=>match (z6r s).sld.2 != 0||!(s==(z6r s).sld.1) with
   |true=>(Blk.zero,7)
   |false=>(z6r s,0)
abbrev y9y:List AV:=[i64 0,i64 0,i64 0,i64 0,i64 0,.p (.raw (.slice none 0 0))]
theorem q6w:LessCL y9y [i64 0,i64 0,i64 0,i64 0,i64 0,bA []]:=⟨.inl rfl,.inl rfl,.inl rfl,.inl rfl,.inl rfl,.inr (.inr (.inr ⟨1,rfl,rfl⟩)),trivial⟩
set_option maxRecDepth 20000 in
theorem w3z (s:z7)(hl:s.length≤1000000):AF Tryz.prog x2z [bA s] [] (v9 (.tup [(U3 s).1.av,i64 (U3 s).2]) []):=by
 have hbl:=w9 s
 refine v8 hT x3a rfl rfl x3b rfl ?_
 refine q8 (q7 hT ?_)
 refine z8 ⟨⟨56,[(0,bA s),(2,.ref 0 0)]⟩,[.cells q1b y9y]⟩ (s.length=256) (q8 (q7 hT ?_)) ?_
 ·refine z2 (y4 (fun h=>?_) (fun h=>?_))
  ·have h:(((bx s).length:Int) != 256)=true:=h
   have hne:s.length≠256:=by rw[hbl]at h;intro e;rw[e]at h;simp at h
   have eo:U3 s=(Blk.zero,1):=by unfold U3;rw[decide_eq_false hne]
   refine q8 (q7 hT ?_)
   refine Q1 (q0w 0 [i64 0,i64 0,i64 0,i64 0,i64 0,bA []] rfl q6w) ?_
   refine y5 ?_
   rw[eo]
   exact z9 [] ⟨rfl,rfl⟩ rfl
  ·have h:(((bx s).length:Int) != 256)=false:=h
   have he:s.length=256:=by
    rw[hbl]at h
    have:(s.length:Int)=256:=by simpa using h
    omega
   exact z5 ⟨q9 [0] [0,2] rfl,he⟩
 intro h256
 have hd:decide (s.length=256)=true:=decide_eq_true h256
 have w20:=q3z s 20 2 (by omega) (by omega) (by omega)
 have w4:=q3z s 4 4 (by omega) (by omega) (by omega)
 have w8:=q3z s 8 4 (by omega) (by omega) (by omega)
 have w12:=q3z s 12 4 (by omega) (by omega) (by omega)
 have w16:=q3z s 16 4 (by omega) (by omega) (by omega)
 refine q8 (q7 hT ?_)
 refine y9 (w7 w20 _ rfl rfl) ?_
 refine z8 ⟨⟨56,[(0,bA s),(2,.ref 0 0),(4,i64 (q2c s 20 2:Nat))]⟩,[.cells q1b y9y]⟩ ((!(q0i s)||decide ((q2c s 20 2:Int) > 228))=false) (q8 (q7 hT ?_)) ?_
 ·refine y9 (w7 (w9a s hl) _ rfl rfl) ?_
  have bad:(!(q0i s)||decide ((q2c s 20 2:Int) > 228))=true→U3 s=(Blk.zero,7):=fun h=>by unfold U3;rw[hd,h]
  refine y4 (fun h=>?_) (fun h=>?_)
  ·have h:(!(q0i s))=true:=h
   refine z2 ?_
   refine q8 (q7 hT ?_)
   refine Q1 (q0w 0 [i64 0,i64 0,i64 0,i64 0,i64 0,bA []] rfl q6w) ?_
   refine y5 ?_
   rw[bad (by rw[h];rfl)]
   exact z9 [] ⟨rfl,rfl⟩ rfl
  ·have h:(!(q0i s))=false:=h
   refine z2 (y4 (fun h2=>?_) (fun h2=>?_))
   ·have h2:decide ((q2c s 20 2:Int) > 228)=true:=h2
    refine q8 (q7 hT ?_)
    refine Q1 (q0w 0 [i64 0,i64 0,i64 0,i64 0,i64 0,bA []] rfl q6w) ?_
    refine y5 ?_
    rw[bad (by rw[h2,Bool.or_true])]
    exact z9 [] ⟨rfl,rfl⟩ rfl
   ·have h2:decide ((q2c s 20 2:Int) > 228)=false:=h2
    exact z5 ⟨q9 [0] [0,2,4] rfl,by rw[h,h2];rfl⟩
 intro hgood
 obtain⟨c2,hc2⟩:∃ c,s[2]?=some c:=⟨_,List.getElem?_eq_getElem (by omega)⟩
 have hg2:(bx s)[(2:Int).toNat]?=some [u8 c2]:=x3x hc2
 obtain⟨K,hK⟩:∃ K:Int,K=IntKind.i64.wrap (c2.toNat:Int):=⟨_,rfl⟩
 refine z8 ⟨⟨56,[(0,bA s),(2,.ref 0 0),(4,i64 (q2c s 20 2:Nat)),(5,.ref 1 0)]⟩,[.cells q1b y9y,.cells q1b [i64 K,i64 (q2c s 4 4:Nat),i64 (q2c s 8 4:Nat),i64 (q2c s 12 4:Nat),i64 (q2c s 16 4:Nat),.p (.raw (.slice none 0 0))]]⟩ True ?_ (fun _=>?_)
 ·refine x6 [13,14] [] hT z6 (by rfl) ?_
  refine⟨by omega,v7 hg2 ?_⟩
  refine⟨_,w7 w4 _ rfl rfl,?_⟩
  refine⟨_,w7 w8 _ rfl rfl,?_⟩
  refine⟨_,w7 w12 _ rfl rfl,?_⟩
  refine⟨_,w7 w16 _ rfl rfl,?_⟩
  refine⟨rfl,?_⟩
  refine⟨rfl,?_⟩
  refine⟨⟨_,w7 w4 _ rfl rfl,rfl⟩,?_⟩
  refine⟨⟨_,w7 w8 _ rfl rfl,rfl⟩,?_⟩
  refine⟨⟨_,w7 w12 _ rfl rfl,rfl⟩,?_⟩
  refine⟨⟨_,w7 w16 _ rfl rfl,rfl⟩,?_⟩
  rw[hK]
  exact⟨q9 [0,1] [0,2,4,5] rfl,trivial⟩
 have hc:=c2.toNat_lt
 rw[y7 _ (by omega) (by omega)]at hK
 rw[Bool.or_eq_false_iff]at hgood
 have hlong:=of_decide_eq_false hgood.2
 have hbo:z6r s=⟨K,(q2c s 4 4:Nat),(q2c s 8 4:Nat),(q2c s 12 4:Nat),(q2c s 16 4:Nat),(s.drop 24).take (q2c s 20 2)⟩:=by
  unfold z6r
  rw[List.getD_eq_getElem?_getD,hc2,hK];rfl
 have eO:∀ b t e,z6r s=b→b.sld=(t,e)→U3 s=match e != 0||!(s==t) with|true=>(Blk.zero,7)|false=>(b,0):=fun b t e h1 h2=>by
  unfold U3
  rw[hd,hgood.1,hgood.2,h1,h2];rfl
 generalize hL:q2c s 20 2=L at hbo hlong
 obtain⟨Y,hY⟩:∃ Y:z7,Y=(s.drop 24).take L:=⟨_,rfl⟩
 have eW:IntKind.i64.wrap (24+(L:Int))=((24+L:Nat):Int):=by rw[y7 _ (by omega) (by omega)];omega
 have eY:((bx s).take (IntKind.i64.wrap (24+(L:Int))).toNat).drop (24:Int).toNat=bx Y:=by
  rw[eW,Int.toNat_natCast,hY,y2a,x3z,show (24:Int).toNat=24 from rfl,List.drop_take,Nat.add_sub_cancel_left]
 have wC:AF Tryz.prog q7u [.p (.sl 1 (((bx s).take (IntKind.i64.wrap (24+(L:Int))).toNat).drop (24:Int).toNat))] [] (v9 (bA Y) []):=by
  rw[eY];exact x9m Y (by rw[hY,List.length_take,List.length_drop];omega)
 rw[← hY]at hbo
 generalize (q2c s 4 4:Int)=v at hbo
 generalize (q2c s 8 4:Int)=a at hbo
 generalize (q2c s 12 4:Int)=e' at hbo
 generalize (q2c s 16 4:Int)=q at hbo
 have hS:=y5i ⟨K,v,a,e',q,Y⟩
 have eO:=eO _ (Blk.sld ⟨K,v,a,e',q,Y⟩).1 (Blk.sld ⟨K,v,a,e',q,Y⟩).2 hbo rfl
 generalize Blk.sld ⟨K,v,a,e',q,Y⟩=Z at hS eO
 obtain⟨t,e⟩:=Z
 simp only at eO
 refine z8 ⟨⟨56,[(0,bA s),(2,.ref 0 0),(5,.ref 1 0)]⟩,[.cells q1b y9y,.cells q1b [i64 K,i64 v,i64 a,i64 e',i64 q,bA Y]]⟩ True (q7 hT ?_) (fun _=>?_)
 ·refine⟨⟨by omega,?_,?_⟩,?_⟩
  ·show 24≤IntKind.i64.wrap (24+(L:Int))
   rw[eW];omega
  ·show IntKind.i64.wrap (24+(L:Int))≤((bx s).length:Int)
   rw[eW,hbl];omega
  refine y9 (w7 wC _ rfl rfl) ?_
  exact⟨q9 [0,1] [0,2,5] rfl,trivial⟩
 refine z8 ⟨⟨56,[(2,.ref 0 0),(5,.ref 1 0)]⟩,[.cells q1b y9y,.cells q1b [i64 K,i64 v,i64 a,i64 e',i64 q,bA Y]]⟩ ((e != 0||!(s==t))=false) (q8 (q7 hT ?_)) ?_
 ·refine y9 (w7 hS _ rfl rfl) ?_
  refine q8 (q7 hT ?_)
  refine y4 (fun h1=>?_) (fun h1=>?_)
  ·have h1:(e != 0)=true:=h1
   rw[h1]at eO
   refine z2 ?_
   refine q8 (q7 hT ?_)
   refine Q1 (q0w 0 [i64 0,i64 0,i64 0,i64 0,i64 0,bA []] rfl q6w) ?_
   refine y5 ?_
   rw[eO]
   exact z9 [] ⟨rfl,rfl⟩ rfl
  ·have h1:(e != 0)=false:=h1
   rw[h1]at eO
   refine y9 (w7 (y0d s t) _ rfl rfl) ?_
   refine z2 (y4 (fun h2=>?_) (fun h2=>?_))
   ·have h2:(!(s==t))=true:=h2
    rw[h2]at eO
    refine q8 (q7 hT ?_)
    refine Q1 (q0w 0 [i64 0,i64 0,i64 0,i64 0,i64 0,bA []] rfl q6w) ?_
    refine y5 ?_
    rw[eO]
    exact z9 [] ⟨rfl,rfl⟩ rfl
   ·have h2:(!(s==t))=false:=h2
    exact z5 ⟨q9 [0,1] [2,5] rfl,by rw[h1,h2];rfl⟩
 intro h
 rw[h]at eO
 refine q8 (q7 hT ?_)
 refine y5 ?_
 rw[eO]
 exact z9 [] ⟨rfl,rfl⟩ rfl
end Go.Proofs.YtinfbclgkghgaaaGreat.AL
namespace Go.Proofs.YtinfbclgkghgaaaGreat.AL
open Go Go.Proofs Go.Proofs.YtinfbclgkghgaaaGreat.AL.Crc
theorem x9s (n w:Nat)(hn:n<9000000000000000000)(hw:w≤8):AF Tryz.prog q9d [i64 n,i64 w] [] (v9 (.msl 0 1 0 (bx (leB w n)).length) [.row z1 1 (bx (leB w n))]):=by
 refine v8 hT x3k rfl rfl x3m rfl ?_
 refine q8 (q7 hT ?_)
 refine q8 (q7 hT ?_)
 refine Q1 (Wk.trans (X5 z1 1) (q2h 5 0 1 0 rfl)) ?_
 refine q8 (q8 (q7 hT ?_))
 refine z3 ?_
 refine y8 (fun m s=>∃ (i:Nat) (j v:Int) (L:z7),m+i=w∧j=i∧v=((n / 256 ^ i:Nat):Int)∧L=leB i n∧s=⟨⟨21,[(0,i64 v),(1,i64 w),(5,.msl 0 1 0 (bx L).length),(6,i64 j)]⟩,[.row z1 1 (bx L)]⟩) w ⟨⟨21,_⟩,[_]⟩ (q9 [0] [0,1,5,6] rfl) ⟨0,0,_,[],rfl,rfl,by rw[Nat.pow_zero,Nat.div_one],rfl,rfl⟩ ?_
 rintro m s ⟨i,j,v,L,hmi,rfl,rfl,hL,rfl⟩
 have hLl:L.length=i:=by rw[hL,U9]
 have hbl:=w9 L
 refine q8 (q8 (q7 hT ?_))
 refine z2 (y4 (fun h=>?_) (fun h=>?_))
 ·have hi:i<w:=by
   have:=of_decide_eq_true (show decide ((i:Int)<(w:Int))=true from h)
   omega
  refine z5 ?_
  refine z8 ⟨⟨21,[(0,i64 ((n / 256 ^ (i+1):Nat):Int)),(1,i64 w),(5,.msl 0 1 0 (bx (L++[UInt8.ofNat (n / 256 ^ i)])).length),(6,i64 i)]⟩,[.row z1 1 (bx (L++[UInt8.ofNat (n / 256 ^ i)]))]⟩ True (z3 (q8 (W4 (fun k=>Nat.beq 4 k) hT ?_))) (fun _=>?_)
  ·refine⟨⟨rfl,rfl⟩,?_⟩
   refine⟨rfl,⟨?_,?_⟩,?_⟩
   ·show ((bx L).length+1)*1≤140737488355328
    omega
   ·show (bx L).length+1≤140737488355328
    omega
   refine q7 hT ?_
   have hq:n / 256 ^ i≤n:=Nat.div_le_self _ _
   rw[y1y,show u8 (UInt8.ofNat (n / 256 ^ i))=PV.raw (.int .u8 (IntKind.u8.wrap (((n / 256 ^ i:Nat):Int).tmod 256))) by rw[v5c],y1z,← z6m _ 256 (by omega)]
   exact⟨q9 [1] [0,1,5,6] rfl,trivial⟩
  ·refine q7 hT ?_
   refine⟨m - 1,by omega,_,q9 [0] [0,1,5,6] rfl,i+1,IntKind.i64.wrap ((i:Int)+1),_,_,by omega,?_,rfl,by rw[hL,z6p],rfl⟩
   rw[y7 _ (by omega) (by omega)];rfl
 ·have hi:¬ (i:Int)<(w:Int):=of_decide_eq_false h
  have hi4:i=w:=by omega
  subst hi4
  refine x9 ?_
  refine q8 (q7 hT ?_)
  refine y5 ?_
  subst hL
  exact z9 [0] ⟨rfl,rfl⟩ rfl
theorem q6x (n w:Nat)(hn:n<9000000000000000000)(hw:w≤8):AF Tryz.prog q9d [i64 n,i64 w] [] (v9 (bA (leB w n)) []):=z7y (x9s n w hn hw) rfl
theorem q7w (b:Blk):AF Tryz.prog y0y [b.av] [] (v9 (bl b.nums) []):=by
 refine v8 hT y0z rfl rfl y1a rfl ?_
 refine q8 (q7 hT ?_)
 refine Q1 (Q3 0 b.pv rfl rfl) ?_
 have hk:∀ n:Int,Y1 n=(!(decide (n<0))&&!(decide (n > 4294967295))):=fun n=>by
  unfold Y1
  rw[← decide_not,← decide_not]
  congr 1
  ·exact decide_eq_decide.mpr (by omega)
  ·exact decide_eq_decide.mpr (by omega)
 unfold Blk.nums
 refine q8 (W4 (fun k=>Nat.beq 8 k) hT ?_)
 refine⟨⟨rfl,rfl⟩,?_⟩
 generalize hl:[b.vol,b.addr,b.epoch,b.seq]=l
 refine z8 ⟨⟨38,[(1,.p (.box b.pv))]⟩,[]⟩ (l.all Y1=true) ?_ ?_
 ·refine Q1 (s2:=⟨⟨38,[(1,.p (.box b.pv)),(3,.p (.sl 1 (ix l)))]⟩,[]⟩) (by rw[← hl];exact q9 [] [1,3] rfl) ?_
  have hll:l.length=4:=by rw[← hl];rfl
  refine q8 (q7 hT ?_)
  refine z3 ?_
  refine y8 (fun n s=>∃ (i:Nat) (j:Int),n+i=4∧j=i∧(l.take i).all Y1=true∧s=⟨⟨38,[(1,.p (.box b.pv)),(3,.p (.sl 1 (ix l))),(4,i64 j)]⟩,[]⟩) 4 ⟨⟨38,_⟩,[]⟩ (q9 [] [1,3,4] rfl) ⟨0,0,rfl,rfl,rfl,rfl⟩ ?_
  rintro n s ⟨i,j,hni,rfl,ht,rfl⟩
  refine q8 (q8 (q7 hT ?_))
  refine z2 (y4 (fun h=>?_) (fun h=>?_))
  ·have hi:i<l.length:=by
    have:=of_decide_eq_true (show decide ((i:Int)<4)=true from h)
    omega
   have hx:=List.getElem?_eq_getElem hi
   have hmem:=List.getElem_mem hi
   have htk:l.take (i+1)=l.take i++[l[i]]:=by rw[List.take_add_one,hx];rfl
   generalize l[i]=c at hx htk hmem
   have hxp:(ix l)[((i:Nat):Int).toNat]?=some [.raw (.int .i64 c)]:=by rw[Int.toNat_natCast];exact ixg hx
   have bad:Y1 c=false→l.all Y1=false:=fun h=>by
    rw[List.all_eq_false];exact⟨c,hmem,by rw[h];simp⟩
   refine z5 ?_
   refine z8 ⟨⟨38,[(1,.p (.box b.pv)),(3,.p (.sl 1 (ix l))),(4,i64 i)]⟩,[]⟩ (Y1 c=true) (z3 (q8 (q7 hT ?_))) ?_
   ·refine⟨Int.natCast_nonneg _,v7 hxp ?_⟩
    refine y4 (fun h2=>?_) (fun h2=>?_)
    ·have h2:decide (c<0)=true:=h2
     refine z2 ?_
     refine q8 (q7 hT ?_)
     refine y5 ?_
     rw[bad (by rw[hk,h2];rfl),Bool.and_false]
     exact z9 [] ⟨rfl,rfl⟩ rfl
    ·have h2:decide (c<0)=false:=h2
     refine⟨Int.natCast_nonneg _,v7 hxp ?_⟩
     refine z2 (y4 (fun h3=>?_) (fun h3=>?_))
     ·have h3:decide (c > 4294967295)=true:=h3
      refine q8 (q7 hT ?_)
      refine y5 ?_
      rw[bad (by rw[hk,h2,h3];rfl),Bool.and_false]
      exact z9 [] ⟨rfl,rfl⟩ rfl
     ·have h3:decide (c > 4294967295)=false:=h3
      exact z5 ⟨q9 [] [1,3,4] rfl,by rw[hk,h2,h3];rfl⟩
   ·intro hc
    refine q7 hT ?_
    refine⟨n - 1,by omega,_,q9 [] [1,3,4] rfl,i+1,IntKind.i64.wrap ((i:Int)+1),by omega,?_,?_,rfl⟩
    ·rw[y7 _ (by omega) (by omega)];rfl
    ·rw[htk,List.all_append,ht];simp[hc]
  ·have hi:¬ (i:Int)<4:=of_decide_eq_false h
   have hil:i=l.length:=by omega
   subst hil
   rw[List.take_length]at ht
   refine x9 ?_
   exact⟨q9 [] [1] rfl,ht⟩
 intro h
 rw[h,Bool.and_true]
 refine q8 (q7 hT ?_)
 refine y4 (fun h1=>?_) (fun h1=>?_)
 ·rw[show decide (b.kind≥1)=true from h1]
  refine y5 ?_
  exact z9 [] ⟨rfl,rfl⟩ rfl
 ·rw[show decide (b.kind≥1)=false from h1]
  refine y5 ?_
  exact z9 [] ⟨rfl,rfl⟩ rfl
end Go.Proofs.YtinfbclgkghgaaaGreat.AL
namespace Go.Proofs.YtinfbclgkghgaaaGreat.AL
open Go Go.Proofs Go.Proofs.YtinfbclgkghgaaaGreat.AL.Crc
theorem y9z (w n:Nat)(l:List Nat):z3f w (n :: l)=leB w n++z3f w l:=rfl
theorem x9t (w:Nat):z3f w []=[]:=rfl
set_option maxRecDepth 20000 in
theorem y8f (k v a e q:Nat)(body:z7)(hn:(Blk.mk k v a e q body).nums=true)(hb:body.length≤228)(hv:v≤4294967295)(ha:a≤4294967295)(he:e≤4294967295)(hq:q≤4294967295) :
 AF Tryz.prog z5h [(Blk.mk k v a e q body).av] [] (v9 (.tup [bA (J9 (Blk.mk k v a e q body).all),i64 0]) []):=by
 have hbl:=w9 body
 have hall:=q9k (Blk.mk k v a e q body) hb
 refine v8 hT q9b rfl rfl q9c rfl ?_
 refine q8 (q7 hT ?_)
 refine Q1 (Q3 0 (Blk.mk k v a e q body).pv rfl rfl) ?_
 have wn:=q7w (Blk.mk k v a e q body)
 rw[hn]at wn
 refine q8 (q7 hT ?_)
 refine y9 (w7 wn _ rfl rfl) ?_
 refine q8 (q8 (q7 hT ?_))
 refine z2 ?_
 refine z5 ?_
 refine z8 ⟨⟨59,[(1,.p (.box (Blk.mk k v a e q body).pv))]⟩,[]⟩ True (q8 (q7 hT ?_)) (fun _=>?_)
 ·refine z2 (y4 (fun h=>?_) (fun h=>?_))
  ·have h:=of_decide_eq_true (show decide (((bx body).length:Int) > 228)=true from h)
   omega
  ·exact z5 ⟨q9 [] [1] rfl,trivial⟩
 have key:∀ (L:z7) (r:z7),L.length≤400→r.length≤400→((bx L).length+(bx r).length)*1≤140737488355328∧(bx L).length+(bx r).length≤140737488355328:=fun L r h1 h2=>by
  rw[w9,w9];omega
 generalize hL0:([81,77,UInt8.ofNat k,0]:z7)=L0
 have l0:L0.length=4:=by rw[← hL0];rfl
 have b0:[[u8 81],[u8 77],[PV.raw (.int .u8 (IntKind.u8.wrap (k:Int)))],[u8 0]]=bx L0:=by rw[← hL0,q0p];rfl
 have w1:=q6x v 4 (by omega) (by omega)
 have w2:=q6x a 4 (by omega) (by omega)
 have w3:=q6x e 4 (by omega) (by omega)
 have w4:=q6x q 4 (by omega) (by omega)
 have w5:AF Tryz.prog q9d [i64 (bx body).length,i64 2] [] (v9 (bA (leB 2 body.length)) []):=by rw[hbl];exact q6x body.length 2 (by omega) (by omega)
 have hhead:(Blk.mk k v a e q body).head=L0++leB 4 v++leB 4 a++leB 4 e++leB 4 q++leB 2 body.length++[0,0]:=by
  unfold Blk.head
  simp only[y9z,x9t,Int.toNat_natCast]
  rw[← hL0]
  simp only[List.append_assoc,List.append_nil]
  rfl
 have hA:(Blk.mk k v a e q body).all=L0++leB 4 v++leB 4 a++leB 4 e++leB 4 q++leB 2 body.length++[0,0]++body++List.replicate (228 - body.length) 0:=by
  unfold Blk.all
  rw[hhead]
 have n1:=U9 4 v
 have n2:=U9 4 a
 have n3:=U9 4 e
 have n4:=U9 4 q
 have n5:=U9 2 body.length
 generalize leB 4 v=c1 at w1 hA n1
 generalize leB 4 a=c2 at w2 hA n2
 generalize leB 4 e=c3 at w3 hA n3
 generalize leB 4 q=c4 at w4 hA n4
 generalize leB 2 body.length=c5 at w5 hA n5
 generalize hAA:(Blk.mk k v a e q body).all=A at hA hall
 clear hhead hn wn hL0
 refine z8 ⟨⟨59,[(1,.p (.box (Blk.mk k v a e q body).pv)),(5,.msl 0 1 0 (bx L0).length)]⟩,[.row z1 1 (bx L0)]⟩ True (q7 hT ?_) (fun _=>?_)
 ·rw[← b0]
  exact⟨q9 [0] [1,5] rfl,trivial⟩
 refine z8 ⟨⟨59,[(1,.p (.box (Blk.mk k v a e q body).pv)),(5,.msl 0 1 0 (bx (L0++c1)).length)]⟩,[.row z1 1 (bx (L0++c1))]⟩ True (q7 hT ?_) (fun _=>?_)
 ·refine y9 (w7 w1 _ rfl rfl) ?_
  refine⟨rfl,key L0 c1 (by omega) (by omega),?_⟩
  rw[q1n]
  exact⟨q9 [1] [1,5] rfl,trivial⟩
 generalize h1:L0++c1=L1 at hA
 have l1:L1.length=8:=by rw[← h1,List.length_append];omega
 refine z8 ⟨⟨59,[(1,.p (.box (Blk.mk k v a e q body).pv)),(5,.msl 0 1 0 (bx (L1++c2)).length)]⟩,[.row z1 1 (bx (L1++c2))]⟩ True (q7 hT ?_) (fun _=>?_)
 ·refine y9 (w7 w2 _ rfl rfl) ?_
  refine⟨rfl,key L1 c2 (by omega) (by omega),?_⟩
  rw[q1n]
  exact⟨q9 [1] [1,5] rfl,trivial⟩
 generalize h2:L1++c2=L2 at hA
 have l2:L2.length=12:=by rw[← h2,List.length_append];omega
 refine z8 ⟨⟨59,[(1,.p (.box (Blk.mk k v a e q body).pv)),(5,.msl 0 1 0 (bx (L2++c3)).length)]⟩,[.row z1 1 (bx (L2++c3))]⟩ True (q7 hT ?_) (fun _=>?_)
 ·refine y9 (w7 w3 _ rfl rfl) ?_
  refine⟨rfl,key L2 c3 (by omega) (by omega),?_⟩
  rw[q1n]
  exact⟨q9 [1] [1,5] rfl,trivial⟩
 generalize h3:L2++c3=L3 at hA
 have l3:L3.length=16:=by rw[← h3,List.length_append];omega
 refine z8 ⟨⟨59,[(1,.p (.box (Blk.mk k v a e q body).pv)),(5,.msl 0 1 0 (bx (L3++c4)).length)]⟩,[.row z1 1 (bx (L3++c4))]⟩ True (q7 hT ?_) (fun _=>?_)
 ·refine y9 (w7 w4 _ rfl rfl) ?_
  refine⟨rfl,key L3 c4 (by omega) (by omega),?_⟩
  rw[q1n]
  exact⟨q9 [1] [1,5] rfl,trivial⟩
 generalize h4:L3++c4=L4 at hA
 have l4:L4.length=20:=by rw[← h4,List.length_append];omega
 refine z8 ⟨⟨59,[(1,.p (.box (Blk.mk k v a e q body).pv)),(5,.msl 0 1 0 (bx (L4++c5)).length)]⟩,[.row z1 1 (bx (L4++c5))]⟩ True (q7 hT ?_) (fun _=>?_)
 ·refine y9 (w7 w5 _ rfl rfl) ?_
  refine⟨rfl,key L4 c5 (by omega) (by omega),?_⟩
  rw[q1n]
  exact⟨q9 [1] [1,5] rfl,trivial⟩
 generalize h5:L4++c5=L5 at hA
 have l5:L5.length=22:=by rw[← h5,List.length_append];omega
 refine z8 ⟨⟨59,[(1,.p (.box (Blk.mk k v a e q body).pv)),(5,.msl 0 1 0 (bx (L5++[0,0])).length)]⟩,[.row z1 1 (bx (L5++[0,0]))]⟩ True (W4 (fun k=>Nat.beq 1 k) hT ?_) (fun _=>?_)
 ·refine⟨⟨rfl,rfl⟩,?_⟩
  refine⟨rfl,key L5 [0,0] (by omega) (by decide),?_⟩
  rw[q1n]
  exact⟨q9 [1] [1,5] rfl,trivial⟩
 generalize h6:L5++[0,0]=L6 at hA
 have l6:L6.length=24:=by rw[← h6,List.length_append];simp;omega
 refine z8 ⟨⟨59,[(5,.msl 0 1 0 (bx (L6++body)).length)]⟩,[.row z1 1 (bx (L6++body))]⟩ True (q7 hT ?_) (fun _=>?_)
 ·refine⟨rfl,key L6 body (by omega) (by omega),?_⟩
  rw[q1n]
  exact⟨q9 [1] [5] rfl,trivial⟩
 generalize h7:L6++body=L7 at hA
 have l7:L7.length=24+body.length:=by rw[← h7,List.length_append];omega
 have l7':L7.length≤252:=by omega
 rw[show 228 - body.length=252 - L7.length by omega]at hA
 clear h1 h2 h3 h4 h5 h6 h7
 refine z8 ⟨⟨59,[(5,.p (.sl 1 (bx A)))]⟩,[]⟩ True (z3 ?_) (fun _=>?_)
 ·refine y8 (fun n s=>∃ L:z7,n+L.length=252∧A=L++List.replicate (252 - L.length) 0∧s=⟨⟨59,[(5,.msl 0 1 0 (bx L).length)]⟩,[.row z1 1 (bx L)]⟩) (252 - L7.length) ⟨⟨59,_⟩,[_]⟩ (q9 [0] [5] rfl) ⟨L7,by omega,hA,rfl⟩ ?_
  rintro n s ⟨L,hn,hAL,rfl⟩
  have hbL:=w9 L
  refine q8 (q8 (q7 hT ?_))
  refine z2 (y4 (fun h=>?_) (fun h=>?_))
  ·have h:=of_decide_eq_true (show decide (((bx L).length:Int)<252)=true from h)
   refine z5 ?_
   refine z3 (W4 (fun k=>Nat.beq 1 k) hT ?_)
   refine⟨⟨rfl,rfl⟩,?_⟩
   refine⟨rfl,key L [0] (by omega) (by decide),?_⟩
   refine⟨n - 1,by omega,_,q9 [1] [5] rfl,L++[0],by rw[List.length_append];simp;omega,?_,by rw[q1n];rfl⟩
   rw[hAL,List.append_assoc,List.length_append,show ([0]:z7).length=1 from rfl,show 252 - L.length=252 - (L.length+1)+1 by omega,List.replicate_succ];rfl
  ·have h:=of_decide_eq_false (show decide (((bx L).length:Int)<252)=false from h)
   have h252:L.length=252:=by omega
   rw[h252,Nat.sub_self,List.replicate_zero,List.append_nil]at hAL
   refine x9 ?_
   exact⟨Wk.trans (V3 5 0 _ (by rw[hAL]) rfl rfl rfl) (q9 [] [5] rfl),trivial⟩
 refine q8 (q7 hT ?_)
 refine y9 (w7 (w3y A (by omega)) _ rfl rfl) ?_
 refine y5 ?_
 exact z9 [] ⟨rfl,rfl⟩ rfl
theorem y5j (b:Blk):AF Tryz.prog z5h [b.av] [] (v9 (.tup [bA b.sld.1,i64 b.sld.2]) []):=by
 cases hn:b.nums with
 |true=>
  cases hl:decide (b.body.length > 228) with
  |false=>
   have hl:=of_decide_eq_false hl
   have e:b.sld=(J9 b.all,0):=by unfold Blk.sld;rw[hn,decide_eq_false hl]
   obtain⟨k,v,a,e',q,hb,_,_,hv,ha,he,hq⟩:=y5h hn
   rw[e]
   rw[hb]at hn ⊢
   exact y8f k v a e' q b.body hn (by omega) hv ha he hq
  |true=>
   have e:b.sld=([],2):=by unfold Blk.sld;rw[hn,hl]
   have hbl:=w9 b.body
   have hl:=of_decide_eq_true hl
   have wn:=q7w b
   rw[hn]at wn
   rw[e]
   refine v8 hT q9b rfl rfl q9c rfl ?_
   refine q8 (q7 hT ?_)
   refine Q1 (Q3 0 b.pv rfl rfl) ?_
   refine q8 (q7 hT ?_)
   refine y9 (w7 wn _ rfl rfl) ?_
   refine q8 (q8 (q7 hT ?_))
   refine z2 ?_
   refine z5 ?_
   refine q8 (q8 (q7 hT ?_))
   refine z2 (y4 (fun h=>?_) (fun h=>?_))
   ·refine q8 (q7 hT ?_)
    refine Q1 (q2t 2 1 rfl) ?_
    refine y5 ?_
    exact z9 [] ⟨rfl,rfl⟩ rfl
   ·have h:=of_decide_eq_false (show decide (((bx b.body).length:Int) > 228)=false from h)
    omega
 |false=>
  have e:b.sld=([],1):=by unfold Blk.sld;rw[hn]
  have wn:=q7w b
  rw[hn]at wn
  rw[e]
  refine v8 hT q9b rfl rfl q9c rfl ?_
  refine q8 (q7 hT ?_)
  refine Q1 (Q3 0 b.pv rfl rfl) ?_
  refine q8 (q7 hT ?_)
  refine y9 (w7 wn _ rfl rfl) ?_
  refine q8 (q8 (q7 hT ?_))
  refine z2 ?_
  refine q8 (q7 hT ?_)
  refine Q1 (q2t 2 1 rfl) ?_
  refine y5 ?_
  exact z9 [] ⟨rfl,rfl⟩ rfl
end Go.Proofs.YtinfbclgkghgaaaGreat.AL
namespace Go.Proofs.YtinfbclgkghgaaaGreat.AL
open Go Go.Proofs Go.Proofs.YtinfbclgkghgaaaGreat.AL.Crc
theorem q9m (l:z7):q0i (J9 l)=true:=by
 have h:=q6g l
 unfold q0i
 rw[decide_eq_true (show 4≤(J9 l).length by omega)]
 rw[show (J9 l).length - 4=l.length by omega]
 show ((J9 l).drop l.length==leB 4 (sum ((J9 l).take l.length)).toNat)=true
 unfold J9
 rw[List.drop_left,List.take_left]
 simp
end Go.Proofs.YtinfbclgkghgaaaGreat.AL
namespace Go.Proofs.YtinfbclgkghgaaaGreat.AL
open Go Go.Proofs
def inR (n lo hi:Int):Bool:=decide (n≥lo)&&decide (n≤hi)
theorem x4a (n lo hi:Int):AF Tryz.prog v3n [i64 n,i64 lo,i64 hi] [] (v9 (bl (inR n lo hi)) []):=by
 refine v8 hT v3p rfl rfl v3q rfl ?_
 refine q8 (q7 hT ?_)
 unfold inR
 refine q8 (q7 hT ?_)
 refine y4 (fun h=>?_) (fun h=>?_)
 ·rw[show decide (n≥lo)=true from h]
  refine y5 ?_
  exact z9 [] ⟨rfl,rfl⟩ rfl
 ·rw[show decide (n≥lo)=false from h]
  refine y5 ?_
  exact z9 [] ⟨rfl,rfl⟩ rfl
structure GeoV where
 w:Int
 s:Int
 k:Int
 m:Int
 deriving DecidableEq
abbrev GeoV.pv (g:GeoV):List PV:=[.raw (.int .i64 g.w),.raw (.int .i64 g.s),.raw (.int .i64 g.k),.raw (.int .i64 g.m)]
abbrev GeoV.av (g:GeoV):AV:=.agg [i64 g.w,i64 g.s,i64 g.k,i64 g.m]
def GeoV.fits (g:GeoV):Bool:=inR g.w 8 512&&inR g.s 1 32&&inR g.k 1 16&&inR g.m 1 8
def GeoV.may (g:GeoV):Bool:=g.fits&&decide (4+2*g.w+2*g.s*(g.k+g.m)≤4096)
def GeoV.room (g:GeoV):Int:=match g.may with|true=>g.s*g.k*228|false=>0
theorem U2 {g:GeoV}(h:g.fits=true):8≤g.w∧g.w≤512∧1≤g.s∧g.s≤32∧1≤g.k∧g.k≤16∧1≤g.m∧g.m≤8:=by
 unfold GeoV.fits inR at h
 simp only[Bool.and_eq_true,decide_eq_true_eq]at h
 omega
theorem z1f {g:GeoV}(h:g.fits=true):0≤g.s*(g.k+g.m)∧g.s*(g.k+g.m)≤768∧0≤g.s*g.k∧g.s*g.k≤512∧2*g.s*(g.k+g.m)=2*(g.s*(g.k+g.m)):=by
 obtain⟨h1,h2,h3,h4,h5,h6,h7,h8⟩:=U2 h
 have a:=Int.mul_le_mul (show g.s≤32 from h4) (show g.k+g.m≤24 by omega) (by omega) (by omega)
 have b:=Int.mul_le_mul (show g.s≤32 from h4) (show g.k≤16 by omega) (by omega) (by omega)
 exact⟨Int.mul_nonneg (by omega) (by omega),by omega,Int.mul_nonneg (by omega) (by omega),by omega,Int.mul_assoc _ _ _⟩
theorem x9u (g:GeoV)(h:g.fits=true):AF Tryz.prog y7n [g.av] [] (v9 (i64 (4+2*g.w+2*g.s*(g.k+g.m))) []):=by
 obtain⟨h1,h2,h3,h4,h5,h6,h7,h8⟩:=U2 h
 obtain⟨m1,m2,m3,m4,m5⟩:=z1f h
 have wl:AF Tryz.prog z5v [g.av] [] (v9 (i64 (4+2*g.w)) []):=by
  refine v8 hT z5w rfl rfl z5x rfl ?_
  refine q8 (q7 hT ?_)
  refine Q1 (Q3 0 g.pv rfl rfl) ?_
  refine q8 (q7 hT ?_)
  refine y5 ?_
  rw[show i64 (4+2*g.w)=i64 (IntKind.i64.wrap (4+IntKind.i64.wrap (2*g.w))) by rw[y7 (2*g.w) (by omega) (by omega),y7 _ (by omega) (by omega)]]
  exact z9 [] ⟨rfl,rfl⟩ rfl
 have ww:AF Tryz.prog y3j [g.av] [] (v9 (i64 (g.k+g.m)) []):=by
  refine v8 hT y3k rfl rfl y3m rfl ?_
  refine q8 (q7 hT ?_)
  refine Q1 (Q3 0 g.pv rfl rfl) ?_
  refine q8 (q7 hT ?_)
  refine y5 ?_
  rw[show i64 (g.k+g.m)=i64 (IntKind.i64.wrap (g.k+g.m)) by rw[y7 _ (by omega) (by omega)]]
  exact z9 [] ⟨rfl,rfl⟩ rfl
 refine v8 hT y7p rfl rfl y7q rfl ?_
 refine q8 (q7 hT ?_)
 refine Q1 (Q3 0 g.pv rfl rfl) ?_
 refine q8 ?_
 refine x6 [] [] hT z6 (by rfl) ?_
 refine⟨_,w7 wl _ rfl rfl,?_⟩
 refine⟨_,w7 ww _ rfl rfl,?_⟩
 refine y5 ?_
 rw[show i64 (4+2*g.w+2*g.s*(g.k+g.m))=i64 (IntKind.i64.wrap (4+2*g.w+IntKind.i64.wrap (IntKind.i64.wrap (2*g.s)*(g.k+g.m)))) by
  rw[y7 (2*g.s) (by omega) (by omega),y7 (2*g.s*(g.k+g.m)) (by omega) (by omega),y7 _ (by omega) (by omega)]]
 exact z9 [] ⟨rfl,rfl⟩ rfl
theorem x4b (g:GeoV):AF Tryz.prog w7u [g.av] [] (v9 (bl g.may) []):=by
 refine v8 hT w7v rfl rfl w7w rfl ?_
 refine q8 (q7 hT ?_)
 refine Q1 (Q3 0 g.pv rfl rfl) ?_
 refine z8 ⟨⟨28,[(1,.p (.box g.pv)),(3,bl g.fits)]⟩,[]⟩ True (q7 hT ?_) (fun _=>?_)
 ·unfold GeoV.fits
  refine y9 (w7 (x4a g.w 8 512) _ rfl rfl) ?_
  refine y4 (fun h=>?_) (fun h=>?_)
  ·rw[show inR g.w 8 512=true from h]
   refine y9 (w7 (x4a g.s 1 32) _ rfl rfl) ?_
   refine y4 (fun h=>?_) (fun h=>?_)
   ·rw[show inR g.s 1 32=true from h]
    refine y9 (w7 (x4a g.k 1 16) _ rfl rfl) ?_
    refine y4 (fun h=>?_) (fun h=>?_)
    ·rw[show inR g.k 1 16=true from h]
     refine y9 (w7 (x4a g.m 1 8) _ rfl rfl) ?_
     exact⟨q9 [] [1,3] rfl,trivial⟩
    ·rw[show inR g.k 1 16=false from h]
     exact⟨q9 [] [1,3] rfl,trivial⟩
   ·rw[show inR g.s 1 32=false from h]
    exact⟨q9 [] [1,3] rfl,trivial⟩
  ·rw[show inR g.w 8 512=false from h]
   exact⟨q9 [] [1,3] rfl,trivial⟩
 unfold GeoV.may
 refine q8 (q7 hT ?_)
 refine y4 (fun h=>?_) (fun h=>?_)
 ·have h:g.fits=true:=h
  rw[h]
  refine y9 (w7 (x9u g h) _ rfl rfl) ?_
  refine y5 ?_
  exact z9 [] ⟨rfl,rfl⟩ rfl
 ·rw[show g.fits=false from h]
  refine y5 ?_
  exact z9 [] ⟨rfl,rfl⟩ rfl
theorem w9d (g:GeoV)(h:g.fits=true):AF Tryz.prog z5y [g.av] [] (v9 (i64 (g.s*g.k*228)) []):=by
 obtain⟨m1,m2,m3,m4,m5⟩:=z1f h
 refine v8 hT x3f rfl rfl x3g rfl ?_
 refine q8 (q7 hT ?_)
 refine Q1 (Q3 0 g.pv rfl rfl) ?_
 refine q8 (q7 hT ?_)
 refine y5 ?_
 rw[show i64 (g.s*g.k*228)=i64 (IntKind.i64.wrap (IntKind.i64.wrap (g.s*g.k)*228)) by
  rw[y7 (g.s*g.k) (by omega) (by omega),y7 _ (by omega) (by omega)]]
 exact z9 [] ⟨rfl,rfl⟩ rfl
theorem y5k (g:GeoV):AF Tryz.prog w2p [g.av] [] (v9 (i64 g.room) []):=by
 have wo:AF Tryz.prog x6z [g.av,.clo (.func z5y) []] [] (v9 (i64 g.room) []):=by
  refine v8 hT x7a rfl rfl x7b rfl ?_
  refine q8 (q7 hT ?_)
  refine Q1 (Q3 0 g.pv rfl rfl) ?_
  unfold GeoV.room
  refine q8 (q8 (q7 hT ?_))
  refine y9 (w7 (x4b g) _ rfl rfl) ?_
  refine z2 (y4 (fun h=>?_) (fun h=>?_))
  ·have h:(!g.may)=true:=h
   rw[Bool.not_eq_true']at h
   rw[h]
   refine q8 (q7 hT ?_)
   refine y5 ?_
   exact z9 [] ⟨rfl,rfl⟩ rfl
  ·have h:(!g.may)=false:=h
   rw[Bool.not_eq_false']at h
   rw[h]
   have hf:g.fits=true:=by unfold GeoV.may at h;rw[Bool.and_eq_true]at h;exact h.1
   refine z5 ?_
   refine q8 (q7 hT ?_)
   refine y9 (w7 (w9d g hf) _ rfl rfl) ?_
   refine y5 ?_
   exact z9 [] ⟨rfl,rfl⟩ rfl
 refine v8 hT w2q rfl rfl w2r rfl ?_
 refine q8 (q7 hT ?_)
 refine Q1 (Q3 0 g.pv rfl rfl) ?_
 refine q8 (q7 hT ?_)
 refine y9 (w7 wo _ rfl rfl) ?_
 refine y5 ?_
 exact z9 [] ⟨rfl,rfl⟩ rfl
end Go.Proofs.YtinfbclgkghgaaaGreat.AL
namespace Go.Proofs.YtinfbclgkghgaaaGreat.AL
open Go Go.Proofs
theorem x9v (g:GeoV):(g.fits=true)=(8≤g.w∧g.w≤512∧1≤g.s∧g.s≤32∧1≤g.k∧g.k≤16∧1≤g.m∧g.m≤8):=by
 refine propext ⟨U2,fun h=>?_⟩
 unfold GeoV.fits inR
 simp only[Bool.and_eq_true,decide_eq_true_eq]
 omega
set_option maxRecDepth 20000 in
theorem x0a (g:GeoV):AF Tryz.prog x6i [g.av] [] (v9 (bl g.may) []):=by
 have no:¬ (8≤g.w∧g.w≤512∧1≤g.s∧g.s≤32∧1≤g.k∧g.k≤16∧1≤g.m∧g.m≤8)→g.may=false:=fun h=>by
  have h2:g.fits=false:=by rw[← Bool.not_eq_true,x9v];exact h
  unfold GeoV.may;rw[h2];rfl
 refine AF.mono (R:=fun r H'=>∃ b,b=g.may∧r=bl b∧H'=[]) ?_ (by rintro r H' ⟨b,rfl,rfl,rfl⟩;exact⟨rfl,rfl⟩)
 refine v8 hT x6j rfl rfl x6k rfl ?_
 refine q8 (q7 hT ?_)
 refine Q1 (Q3 0 g.pv rfl rfl) ?_
 refine z8 ⟨⟨56,[(1,.p (.box g.pv))]⟩,[]⟩ (g.fits=true) (q8 (q7 hT ?_)) ?_
 ·skip
  refine y4 (fun h0=>?_) (fun h0=>?_)
  ·skip
   have h0:=of_decide_eq_true (show decide (g.w<8)=true from h0)
   refine z2 ?_
   refine q8 (q7 hT ?_)
   refine y5 ?_
   exact z9 [] ⟨_,(no (by omega)).symm,rfl,rfl⟩ rfl
  ·have h0:=of_decide_eq_false (show decide (g.w<8)=false from h0)
   refine y4 (fun h1=>?_) (fun h1=>?_)
   ·skip
    have h1:=of_decide_eq_true (show decide (g.w > 512)=true from h1)
    refine z2 ?_
    refine q8 (q7 hT ?_)
    refine y5 ?_
    exact z9 [] ⟨_,(no (by omega)).symm,rfl,rfl⟩ rfl
   ·have h1:=of_decide_eq_false (show decide (g.w > 512)=false from h1)
    refine y4 (fun h2=>?_) (fun h2=>?_)
    ·skip
     have h2:=of_decide_eq_true (show decide (g.s<1)=true from h2)
     refine z2 ?_
     refine q8 (q7 hT ?_)
     refine y5 ?_
     exact z9 [] ⟨_,(no (by omega)).symm,rfl,rfl⟩ rfl
    ·have h2:=of_decide_eq_false (show decide (g.s<1)=false from h2)
     refine y4 (fun h3=>?_) (fun h3=>?_)
     ·skip
      have h3:=of_decide_eq_true (show decide (g.s > 32)=true from h3)
      refine z2 ?_
      refine q8 (q7 hT ?_)
      refine y5 ?_
      exact z9 [] ⟨_,(no (by omega)).symm,rfl,rfl⟩ rfl
     ·have h3:=of_decide_eq_false (show decide (g.s > 32)=false from h3)
      refine y4 (fun h4=>?_) (fun h4=>?_)
      ·skip
       have h4:=of_decide_eq_true (show decide (g.k<1)=true from h4)
       refine z2 ?_
       refine q8 (q7 hT ?_)
       refine y5 ?_
       exact z9 [] ⟨_,(no (by omega)).symm,rfl,rfl⟩ rfl
      ·have h4:=of_decide_eq_false (show decide (g.k<1)=false from h4)
       refine y4 (fun h5=>?_) (fun h5=>?_)
       ·skip
        have h5:=of_decide_eq_true (show decide (g.k > 16)=true from h5)
        refine z2 ?_
        refine q8 (q7 hT ?_)
        refine y5 ?_
        exact z9 [] ⟨_,(no (by omega)).symm,rfl,rfl⟩ rfl
       ·have h5:=of_decide_eq_false (show decide (g.k > 16)=false from h5)
        refine y4 (fun h6=>?_) (fun h6=>?_)
        ·skip
         have h6:=of_decide_eq_true (show decide (g.m<1)=true from h6)
         refine z2 ?_
         refine q8 (q7 hT ?_)
         refine y5 ?_
         exact z9 [] ⟨_,(no (by omega)).symm,rfl,rfl⟩ rfl
        ·have h6:=of_decide_eq_false (show decide (g.m<1)=false from h6)
         refine z2 (y4 (fun h7=>?_) (fun h7=>?_))
         ·skip
          have h7:=of_decide_eq_true (show decide (g.m > 8)=true from h7)
          skip
          refine q8 (q7 hT ?_)
          refine y5 ?_
          exact z9 [] ⟨_,(no (by omega)).symm,rfl,rfl⟩ rfl
         ·have h7:=of_decide_eq_false (show decide (g.m > 8)=false from h7)
          exact z5 ⟨q9 [] [1] rfl,by rw[x9v];omega⟩
 intro hf
 obtain⟨h1,h2,h3,h4,h5,h6,h7,h8⟩:=U2 hf
 obtain⟨m1,m2,m3,m4,m5⟩:=z1f hf
 refine q8 (q7 hT ?_)
 refine y5 ?_
 refine z9 [] ⟨_,?_,rfl,rfl⟩ rfl
 show decide (IntKind.i64.wrap (IntKind.i64.wrap (4+IntKind.i64.wrap (2*g.w))+IntKind.i64.wrap (IntKind.i64.wrap (2*g.s)*IntKind.i64.wrap (g.k+g.m)))≤4096)=_
 unfold GeoV.may
 rw[hf,Bool.true_and,y7 (2*g.w) (by omega) (by omega),y7 (4+2*g.w) (by omega) (by omega),y7 (2*g.s) (by omega) (by omega),y7 (g.k+g.m) (by omega) (by omega),y7 (2*g.s*(g.k+g.m)) (by omega) (by omega),y7 _ (by omega) (by omega)]
end Go.Proofs.YtinfbclgkghgaaaGreat.AL
namespace Go.Proofs.YtinfbclgkghgaaaGreat.AL
open Go Go.Proofs
def v5f (s:z7):z7:=y1p s.length++s
end Go.Proofs.YtinfbclgkghgaaaGreat.AL
namespace Go.Proofs.YtinfbclgkghgaaaGreat.AL
open Go Go.Proofs Go.Proofs.YtinfbclgkghgaaaGreat.AL.Crc
theorem v5g (k n:Nat):leB (k+1) n=UInt8.ofNat n :: leB k (n / 256):=by
 unfold leB
 rw[List.range_succ_eq_map,List.map_cons,List.map_map]
 congr 1
 ·rw[Nat.pow_zero,Nat.div_one]
 ·apply List.map_congr_left
  intro j _
  show UInt8.ofNat (n / 256 ^ (j+1))=UInt8.ofNat (n / 256 / 256 ^ j)
  rw[Nat.pow_succ,Nat.mul_comm,Nat.div_div_eq_div_mul]
theorem q6h:∀ k n,q9x (leB k n)=n % 256 ^ k
 |0,n=>by show 0=n % 1;omega
 |k+1,n=>by
  rw[v5g,q9x,q6h k,UInt8.toNat_ofNat',show (256:Nat) ^ (k+1)=256*256 ^ k by rw[Nat.pow_succ,Nat.mul_comm],Nat.mod_mul,Nat.mul_comm]
  omega
theorem z6s {s p c r:z7}{a w n:Nat}(hs:s=p++(c++r))(hp:p.length=a)(hc:c.length=w)(hl:q9x c=n):q2c s a w=n:=by
 subst hs;subst hp;subst hc
 unfold q2c
 rw[List.drop_left,List.take_left];exact hl
theorem z9e {b:Blk}(hn:b.nums=true)(hb:b.body.length≤228):U3 (J9 b.all)=(b,0):=by
 obtain⟨k,v,a,e,q,hbk,k1,k4,hv,ha,he,hq⟩:=y5h hn
 generalize hbody:b.body=body at hbk hb
 have hall:=q9k b (by rw[hbody];exact hb)
 have hs:J9 b.all=[81,77,UInt8.ofNat k,0]++(leB 4 v++(leB 4 a++(leB 4 e++(leB 4 q++(leB 2 body.length++(leB 2 0++(body++(List.replicate (228 - body.length) 0++leB 4 (sum b.all).toNat)))))))):=by
  show b.all++leB 4 (sum b.all).toNat=_
  have:b.all=[81,77,UInt8.ofNat k,0]++(leB 4 v++(leB 4 a++(leB 4 e++(leB 4 q++(leB 2 body.length++(leB 2 0++(body++List.replicate (228 - body.length) 0))))))):=by
   unfold Blk.all Blk.head
   rw[hbk]
   simp only[y9z,x9t,Int.toNat_natCast,List.append_assoc,List.append_nil]
  generalize leB 4 (sum b.all).toNat=z
  rw[this]
  simp only[List.append_assoc]
 have hlen:=q6g b.all
 have hw:=q9m b.all
 have hseal:b.sld=(J9 b.all,0):=by unfold Blk.sld;rw[hn,decide_eq_false (by rw[hbody];omega)]
 generalize J9 b.all=s at hs hlen hw hseal
 have l4:=fun n=>U9 4 n
 have n20:q2c s 20 2=body.length:=z6s (p:=[81,77,UInt8.ofNat k,0]++(leB 4 v++(leB 4 a++(leB 4 e++leB 4 q)))) (c:=leB 2 body.length) (by rw[hs];simp only[List.append_assoc];rfl) (by simp only[List.length_append,l4];rfl) (U9 _ _) (by rw[q6h];omega)
 have n4:q2c s 4 4=v:=z6s (p:=[81,77,UInt8.ofNat k,0]) (c:=leB 4 v) hs rfl (U9 _ _) (by rw[q6h];omega)
 have n8:q2c s 8 4=a:=z6s (p:=[81,77,UInt8.ofNat k,0]++leB 4 v) (c:=leB 4 a) (by rw[hs];simp only[List.append_assoc];rfl) (by simp only[List.length_append,l4];rfl) (U9 _ _) (by rw[q6h];omega)
 have n12:q2c s 12 4=e:=z6s (p:=[81,77,UInt8.ofNat k,0]++(leB 4 v++leB 4 a)) (c:=leB 4 e) (by rw[hs];simp only[List.append_assoc];rfl) (by simp only[List.length_append,l4];rfl) (U9 _ _) (by rw[q6h];omega)
 have n16:q2c s 16 4=q:=z6s (p:=[81,77,UInt8.ofNat k,0]++(leB 4 v++(leB 4 a++leB 4 e))) (c:=leB 4 q) (by rw[hs];simp only[List.append_assoc];rfl) (by simp only[List.length_append,l4];rfl) (U9 _ _) (by rw[q6h];omega)
 have hd:(s.drop 24).take body.length=body:=by
  have e1:s=([81,77,UInt8.ofNat k,0]++(leB 4 v++(leB 4 a++(leB 4 e++(leB 4 q++(leB 2 body.length++leB 2 0))))))++(body++(List.replicate (228 - body.length) 0++leB 4 (sum b.all).toNat)):=by rw[hs];simp only[List.append_assoc]
  have e2:([81,77,UInt8.ofNat k,0]++(leB 4 v++(leB 4 a++(leB 4 e++(leB 4 q++(leB 2 body.length++leB 2 0)))))).length=24:=by simp only[List.length_append,l4,U9];rfl
  rw[e1,← e2,List.drop_left,List.take_left]
 have hk:s.getD 2 0=UInt8.ofNat k:=by rw[hs];rfl
 have hblk:z6r s=b:=by
  unfold z6r
  rw[n20,n4,n8,n12,n16,hd,hk,hbk,UInt8.toNat_ofNat']
  congr 1
  omega
 unfold U3
 rw[hw,n20,hblk,hseal,decide_eq_true (show s.length=256 by omega),decide_eq_false (show ¬ (body.length:Int) > 228 by omega)]
 show (match (0:Int) != 0||!(s==s) with|true=>(Blk.zero,7)|false=>(b,0):Blk × Int)=_
 rw[show (s==s)=true from beq_self_eq_true s]
 rfl
end Go.Proofs.YtinfbclgkghgaaaGreat.AL
namespace Go.Proofs.YtinfbclgkghgaaaGreat.AL
open Go Go.Proofs
structure Pc where
 seq:Int
 epoch:Int
 frm:Int
 chain:Int
 index:Int
 of_:Int
 b:z7
 deriving DecidableEq
abbrev Pc.pv (p:Pc):List PV:=[.raw (.int .i64 p.seq),.raw (.int .i64 p.epoch),.raw (.int .i64 p.frm),.raw (.int .i64 p.chain),.raw (.int .i64 p.index),.raw (.int .i64 p.of_),bP p.b]
abbrev Pc.cv (p:Pc):List AV:=[i64 p.seq,i64 p.epoch,i64 p.frm,i64 p.chain,i64 p.index,i64 p.of_,bA p.b]
abbrev Pc.av (p:Pc):AV:=.agg p.cv
def Pc.words (p:Pc):Bool:=[p.seq,p.epoch,p.frm,p.chain].all Y1
def Pc.may (p:Pc):Bool:=p.words&&decide (p.frm≤p.seq)&&decide (p.of_≥1)&&decide (p.of_≤64)&&decide (p.index≥0)&&decide (p.index<p.of_)&&decide (p.b.length≤200)
end Go.Proofs.YtinfbclgkghgaaaGreat.AL
namespace Go.Proofs.YtinfbclgkghgaaaGreat.AL
open Go Go.Proofs
def pcB (p:Pc):z7:=y1p p.frm.toNat++(y1p p.chain.toNat++(y1p p.index.toNat++(y1p p.of_.toNat++v5f p.b)))
def q3g (g:GeoV)(m slot:Int):Int:=4+m*g.w+slot
def Pc.blk (p:Pc)(vol:Int)(g:GeoV)(m:Int):Blk:=⟨3,vol,q3g g m (p.seq.tmod g.w),p.epoch,p.seq,pcB p⟩
def Pc.sector (p:Pc)(vol:Int)(g:GeoV)(m:Int):z7 × Int:=match p.may&&(g.may&&(Y1 vol&&(!decide (m<0)&&!decide (m≥2)))) with
 |false=>([],1)
 |true=>(p.blk vol g m).sld
theorem Pc.of_may {p:Pc}(h:p.may=true):(0≤p.seq∧p.seq≤4294967295)∧(0≤p.epoch∧p.epoch≤4294967295)∧(0≤p.frm∧p.frm≤4294967295)∧(0≤p.chain∧p.chain≤4294967295)∧p.frm≤p.seq∧1≤p.of_∧p.of_≤64∧0≤p.index∧p.index<p.of_∧p.b.length≤200:=by
 unfold Pc.may Pc.words Y1 at h
 simp only[List.all_cons,List.all_nil,Bool.and_true,Bool.and_eq_true,decide_eq_true_eq]at h
 omega
theorem w6j {p:Pc}(h:p.may=true):(pcB p).length≤214:=by
 obtain⟨h1,h2,h3,h4,h5,h6,h7,h8,h9,h10⟩:=p.of_may h
 have a:=q8g 4 p.frm.toNat (by omega)
 have b:=q8g 4 p.chain.toNat (by omega)
 have c:=q8g 0 p.index.toNat (by omega)
 have d:=q8g 0 p.of_.toNat (by omega)
 have e:=q8g 1 p.b.length (by omega)
 unfold pcB v5f
 simp only[List.length_append]
 omega
theorem GeoV.of_may {g:GeoV}(h:g.may=true):8≤g.w∧g.w≤512∧1≤g.s∧g.s≤32∧1≤g.k∧g.k≤16∧1≤g.m∧g.m≤8:=by
 unfold GeoV.may at h
 rw[Bool.and_eq_true]at h
 exact U2 h.1
end Go.Proofs.YtinfbclgkghgaaaGreat.AL
namespace Go.Proofs.YtinfbclgkghgaaaGreat.AL
open Go Go.Proofs
theorem x4c:∀ k:Nat,k≤255→∀ i,i<k→(stT k).1[i]?=some (Gf.pw i)∧(stT k).1[i+255]?=some (Gf.pw i)
 |0,_,i,h=>by omega
 |k+1,hk,i,hi=>by
  obtain⟨l1,_⟩:=q9j k
  rw[stT]
  by_cases e:i=k
  ·subst e
   refine⟨?_,List.getElem?_set_self (by rw[List.length_set,l1];omega)⟩
   rw[List.getElem?_set_ne (by omega),List.getElem?_set_self (by rw[l1];omega)]
  ·obtain⟨h1,h2⟩:=x4c k (by omega) i (by omega)
   refine⟨?_,?_⟩
   ·rw[List.getElem?_set_ne (by omega),List.getElem?_set_ne (by omega)];exact h1
   ·rw[List.getElem?_set_ne (by omega),List.getElem?_set_ne (by omega)];exact h2
theorem w6k:∀ k:Nat,k≤255→∀ i,i<k→(stT k).2[(Gf.pw i).toNat]?=some (i:Int)
 |0,_,i,h=>by omega
 |k+1,hk,i,hi=>by
  obtain⟨_,l2⟩:=q9j k
  rw[stT]
  by_cases e:i=k
  ·subst e
   exact List.getElem?_set_self (by rw[l2];exact(Gf.pw i).toNat_lt)
  ·rw[List.getElem?_set_ne]
   ·exact w6k k (by omega) i (by omega)
   ·intro h
    have h:=UInt8.toNat_inj.mp h
    have h1:=Gf.lg_pw (show k<255 by omega)
    rw[h,Gf.lg_pw (by omega)]at h1
    exact e h1
theorem v5h {n:Nat}(h:n<510):fP[n]?=some (u8 (Gf.pw n)):=by
 obtain⟨l1,l2⟩:=q9j 255
 unfold fP
 rw[List.append_assoc,List.getElem?_append_left (by rw[List.length_map,l1];exact h),List.getElem?_map]
 by_cases e:n<255
 ·rw[(x4c 255 (Nat.le_refl _) n e).1];rfl
 ·have:=(x4c 255 (Nat.le_refl _) (n - 255) (by omega)).2
  rw[show n - 255+255=n by omega]at this
  rw[this]
  have h2:=Gf.pw_add (n - 255)
  rw[show n - 255+255=n by omega]at h2
  rw[h2];rfl
theorem x4d {a:UInt8}(h:a≠0):fP[510+a.toNat]?=some (.raw (.int .i64 (Gf.lg a))):=by
 obtain⟨l1,l2⟩:=q9j 255
 obtain⟨h1,h2⟩:=Gf.lg_ok h
 have ha:=a.toNat_lt
 unfold fP
 rw[List.append_assoc,List.getElem?_append_right (by rw[List.length_map,l1];omega),List.length_map,l1,Nat.add_sub_cancel_left,List.getElem?_append_left (by rw[List.length_map,l2];omega),List.getElem?_map]
 have:=w6k 255 (Nat.le_refl _) (Gf.lg a) h1
 rw[h2]at this
 rw[this];rfl
theorem v8b:fP[766]?=some (.raw (.bool true)):=by
 obtain⟨l1,l2⟩:=q9j 255
 unfold fP
 rw[List.getElem?_append_right (by rw[List.length_append,List.length_map,List.length_map,l1,l2];omega),List.length_append,List.length_map,List.length_map,l1,l2];rfl
theorem u7s {cs:List PV}{x:PV}(h:cs[0]?=some x):cs.take 1=[x]∧1≤cs.length:=by
 cases cs with
 |nil=>simp at h
 |cons y r=>
  obtain rfl:y=x:=by simpa using h
  exact⟨rfl,by simp⟩
theorem u7t {l:List PV}{n:Nat}{x:PV}(h:l[n]?=some x):(l.drop n)[0]?=some x:=by rw[List.getElem?_drop];exact h
theorem z2t {l:List PV}{n k m:Nat}{x:PV}(hm:m=n+k)(h:l[m]?=some x):(l.drop n).drop k=x :: l.drop (m+1):=by
 subst hm
 rw[List.drop_drop]
 obtain⟨h1,h2⟩:=List.getElem?_eq_some_iff.mp h
 rw[List.drop_eq_getElem_cons h1,h2]
abbrev q2j:AV:=.p (.box fP)
set_option maxRecDepth 20000 in
theorem x0b:AF Tryz.prog z6d [q2j] [] (v9 q2j []):=by
 have h:=v8b
 unfold q2j
 generalize fP=F at h ⊢
 refine v8 hT z6e rfl rfl z6f rfl ?_
 refine q8 (q7 hT ?_)
 refine q8 (q8 (q7 hT ?_))
 obtain⟨e1,e2⟩:=u7s (u7t h)
 conv=>whnf
 refine y2h (decide_eq_true e2) ?_
 rw[e1]
 refine z2 ?_
 refine z5 ?_
 refine q8 (q7 hT ?_)
 refine y5 ?_
 exact z9 [] ⟨rfl,rfl⟩ rfl
set_option maxRecDepth 20000 in
theorem w4a (x:AV)(a b:UInt8):AF Tryz.prog y4e [x,.p (u8 a),.p (u8 b)] [] (v9 (.p (u8 (a ^^^ b))) []):=by
 refine AF.mono (R:=fun r H'=>∃ z:Int,z=((a ^^^ b).toNat:Int)∧r=.p (.raw (.int .u8 z))∧H'=[]) ?_ (by rintro r H' ⟨z,rfl,rfl,rfl⟩;exact⟨rfl,rfl⟩)
 refine v8 hT y4f rfl rfl y4g rfl ?_
 refine q8 (q7 hT ?_)
 refine q8 (q7 hT ?_)
 refine y5 ?_
 exact z9 [] ⟨_,w3r a b,rfl,rfl⟩ rfl
theorem u8z {a:UInt8}(h:(((a.toNat:Nat):Int)==0)=true):a=0:=by
 rw[beq_iff_eq]at h
 exact UInt8.toNat_inj.mp (by show a.toNat=0;omega)
theorem u7u {a:UInt8}(h:(((a.toNat:Nat):Int)==0)=false):a≠0:=by
 rintro rfl
 exact absurd h (by decide)
set_option maxHeartbeats 1000000 in
set_option maxRecDepth 20000 in
theorem w4b (a b:UInt8):AF Tryz.prog y4h [q2j,.p (u8 a),.p (u8 b)] [] (v9 (.p (u8 (Gf.mul a b))) []):=by
 refine AF.mono (R:=fun r H'=>∃ z,z=Gf.mul a b∧r=.p (u8 z)∧H'=[]) ?_ (by rintro r H' ⟨z,rfl,rfl,rfl⟩;exact⟨rfl,rfl⟩)
 have wt:=x0b
 have hexp:=@v5h
 have hla:=@x4d a
 have hlb:=@x4d b
 unfold q2j at wt ⊢
 generalize fP=F at hexp hla hlb wt ⊢
 refine v8 hT y4i rfl rfl y4j rfl ?_
 refine q8 (q7 hT ?_)
 refine z8 ⟨⟨34,[(0,.p (.box F)),(1,.p (u8 a)),(2,.p (u8 b))]⟩,[]⟩ (a≠0∧b≠0) (q8 (q7 hT ?_)) ?_
 ·refine y4 (fun h=>?_) (fun h=>?_)
  ·refine z2 ?_
   refine q8 (q7 hT ?_)
   refine y5 ?_
   exact z9 [] ⟨0,by rw[u8z h];exact(Gf.zero_mul b).symm,rfl,rfl⟩ rfl
  have ha:=u7u h
  refine z2 (y4 (fun h=>?_) (fun h=>?_))
  ·refine q8 (q7 hT ?_)
   refine y5 ?_
   exact z9 [] ⟨0,by rw[u8z h];exact(Gf.mul_zero a).symm,rfl,rfl⟩ rfl
  exact z5 ⟨q9 [] [0,1,2] rfl,ha,u7u h⟩
 rintro⟨ha,hb⟩
 obtain⟨a1,a2⟩:=Gf.lg_ok ha
 obtain⟨b1,b2⟩:=Gf.lg_ok hb
 have a3:=a.toNat_lt
 have b3:=b.toNat_lt
 have hm:Gf.mul a b=Gf.pw (Gf.lg a+Gf.lg b):=by
  unfold Gf.mul
  rw[show (a==0)=false from beq_eq_false_iff_ne.mpr ha,show (b==0)=false from beq_eq_false_iff_ne.mpr hb];rfl
 have hla:=hla ha
 have hlb:=hlb hb
 have hex:=hexp (n:=Gf.lg a+Gf.lg b) (by omega)
 rw[← hm]at hex
 generalize Gf.mul a b=m at hex
 generalize Gf.lg a=la at hla hex a1
 generalize Gf.lg b=lb at hlb hex b1
 have hw:IntKind.i64.wrap ((la:Int)+(lb:Int))=((la+lb:Nat):Int):=by rw[y7 _ (by omega) (by omega)];omega
 refine q8 (q7 hT ?_)
 refine y9 (w7 wt _ rfl rfl) ?_
 refine q8 ?_
 refine x6 [] [] hT z6 (by rfl) ?_
 refine⟨⟨by omega,by show ((a.toNat:Nat):Int)<256;omega⟩,?_⟩
 rw[z2t (n:=510) (k:=((a.toNat:Nat):Int).toNat*1) (m:=510+a.toNat) (by omega) hla]
 refine⟨⟨by omega,by show ((b.toNat:Nat):Int)<256;omega⟩,?_⟩
 rw[z2t (n:=510) (k:=((b.toNat:Nat):Int).toNat*1) (m:=510+b.toNat) (by omega) hlb]
 refine⟨⟨by rw[hw];omega,by rw[hw];show ((la+lb:Nat):Int)<510;omega⟩,?_⟩
 rw[z2t (n:=0) (k:=(IntKind.i64.wrap ((la:Int)+(lb:Int))).toNat*1) (m:=la+lb) (by rw[hw];omega) hex]
 refine y5 ?_
 exact z9 [] ⟨m,rfl,rfl,rfl⟩ rfl
set_option maxHeartbeats 1000000 in
set_option maxRecDepth 20000 in
theorem y5m (a:UInt8)(ha:a≠0):AF Tryz.prog y3z [q2j,.p (u8 a)] [] (v9 (.tup [.p (u8 (Gf.inv a)),i64 0]) []):=by
 have wd:AF Tryz.prog y4k [q2j,.p (u8 1),.p (u8 a)] [] (v9 (.tup [.p (u8 (Gf.inv a)),i64 0]) []):=by
  refine AF.mono (R:=fun r H'=>∃ z,z=Gf.inv a∧r=.tup [.p (u8 z),i64 0]∧H'=[]) ?_ (by rintro r H' ⟨z,rfl,rfl,rfl⟩;exact⟨rfl,rfl⟩)
  have wt:=x0b
  obtain⟨a1,a2⟩:=Gf.lg_ok ha
  have hla:=x4d ha
  have hl1:=x4d (a:=1) (by decide)
  rw[show Gf.lg 1=0 from Gf.lg_pw (n:=0) (by decide)]at hl1
  have hex:=v5h (n:=255 - Gf.lg a) (by omega)
  have hm:Gf.inv a=Gf.pw (255 - Gf.lg a):=rfl
  have a3:=a.toNat_lt
  rw[← hm]at hex
  generalize Gf.inv a=m at hex
  generalize Gf.lg a=la at hla hex a1
  unfold q2j at wt ⊢
  generalize fP=F at hla hl1 hex wt ⊢
  have hw:IntKind.i64.wrap (IntKind.i64.wrap (((0:Nat):Int)+255) - (la:Int))=((255 - la:Nat):Int):=by rw[y7 (((0:Nat):Int)+255) (by omega) (by omega),y7 _ (by omega) (by omega)];omega
  refine v8 hT y4m rfl rfl y4n rfl ?_
  refine q8 (q7 hT ?_)
  refine z8 ⟨⟨36,[(0,.p (.box F)),(1,.p (u8 1)),(2,.p (u8 a))]⟩,[]⟩ True (z3 (q8 (q7 hT ?_))) (fun _=>?_)
  ·refine z2 (y4 (fun h=>?_) (fun h=>?_))
   ·exact absurd (u8z h) ha
   ·refine q8 (q7 hT ?_)
    refine z2 ?_
    exact z5 ⟨q9 [] [0,1,2] rfl,trivial⟩
  refine q8 (q7 hT ?_)
  refine y9 (w7 wt _ rfl rfl) ?_
  refine q8 ?_
  refine x6 [] [] hT z6 (by rfl) ?_
  refine⟨⟨by decide,by decide⟩,?_⟩
  rw[z2t (n:=510) (k:=(((1:UInt8).toNat:Nat):Int).toNat*1) (m:=510+1) (by decide) hl1]
  refine⟨⟨by omega,by show ((a.toNat:Nat):Int)<256;omega⟩,?_⟩
  rw[z2t (n:=510) (k:=((a.toNat:Nat):Int).toNat*1) (m:=510+a.toNat) (by omega) hla]
  refine⟨⟨by rw[hw];omega,by rw[hw];show ((255 - la:Nat):Int)<510;omega⟩,?_⟩
  rw[z2t (n:=0) (k:=(IntKind.i64.wrap (IntKind.i64.wrap (((0:Nat):Int)+255) - (la:Int))).toNat*1) (m:=255 - la) (by rw[hw];omega) hex]
  refine y5 ?_
  exact z9 [] ⟨m,rfl,rfl,rfl⟩ rfl
 generalize Gf.inv a=m at wd ⊢
 refine v8 hT y4a rfl rfl y4b rfl ?_
 refine q8 (q7 hT ?_)
 refine q8 (q7 hT ?_)
 refine y9 (w7 wd _ rfl rfl) ?_
 refine y5 ?_
 exact z9 [] ⟨rfl,rfl⟩ rfl
end Go.Proofs.YtinfbclgkghgaaaGreat.AL
namespace Go.Proofs.YtinfbclgkghgaaaGreat.AL
open Go Go.RowKit
theorem J2 {m:Nat}{s:St}(b:Nat){t:TypeId}{xs:List (List PV)}(ps:List PV)(hb:s.H[b]?=some (.row t 1 xs))(hx:xs=ps.map fun p=>[p])(hne:ps≠[]):Wk m s ⟨s.fr,s.H.set b (.cells t (ps.map .p))⟩:=fun N w I ι a hs hm=>by
 subst hx
 have hlive:live s.H b:=⟨_,hb,rfl⟩
 have hlv:∀ c,live (s.H.set b (.cells t (ps.map .p))) c→live s.H c:=fun c hc=>q1j hc hlive
 have hsim:SimH w I ι (s.H.set b (.cells t (ps.map .p))):=by
  refine⟨fun c k hc=>?_,fun c c' B hc hc'=>hs.H.inj c c' B (hlv c hc) (hlv c' hc'),hs.H.Ilt,fun c hc=>hs.H.dom c (by simpa using hc),hs.H.rng⟩
  by_cases e:c=b
  ·subst e
   rw[List.getElem?_set_self (V6 hlive)]at hc
   obtain rfl:=Option.some.inj hc
   rcases hs.H.blk c _ hb with ⟨g1,g2⟩|⟨B,cs,g1,g2,g3,g4,g5,g6⟩
   ·exact absurd (List.map_eq_nil_iff.mp g1) hne
   ·refine⟨B,cs,g1,g2,g3,by simpa using g4,fun i u hu=>?_⟩
    rw[List.getElem?_map]at hu
    cases hp:ps[i]? with
    |none=>rw[hp]at hu;cases hu
    |some p=>
     rw[hp]at hu
     obtain rfl:=Option.some.inj hu
     have:=(g6 i [p] (by rw[List.getElem?_map,hp];rfl)).2 0 p rfl
     rw[Nat.mul_one,Nat.add_zero]at this
     exact .p this
  ·rw[List.getElem?_set_ne (by omega)]at hc
   exact hs.H.blk c k hc
 have hx:Ex m w I ι s.H w I ι (s.H.set b (.cells t (ps.map .p))):=⟨⟨rfl,rfl,rfl,Nat.le_refl _,Shape.refl w,fun _ h=>h,fun _ _ _=>rfl,fun _ h=>.inl h,fun c B hc h=>.inr ⟨c,hlv c hc,h⟩⟩,fun _ _=>rfl,by simpa using hm⟩
 exact⟨I,ι,hs.turn ⟨hs.fr.1,hs.fr.2⟩ hsim hx,hx⟩
theorem q1d {m:Nat}{s:St}(b:Nat){t:TypeId}{l:List AV}(ps:List PV)(hb:s.H[b]?=some (.cells t l))(hx:l=ps.map .p)(hl:ps.length≤140737488355328):Wk m s ⟨s.fr,s.H.set b (.row t 1 (ps.map fun p=>[p]))⟩:=fun N w I ι a hs hm=>by
 subst hx
 have hlive:live s.H b:=⟨_,hb,rfl⟩
 have hlv:∀ c,live (s.H.set b (.row t 1 (ps.map fun p=>[p]))) c→live s.H c:=fun c hc=>q1j hc hlive
 have hsim:SimH w I ι (s.H.set b (.row t 1 (ps.map fun p=>[p]))):=by
  refine⟨fun c k hc=>?_,fun c c' B hc hc'=>hs.H.inj c c' B (hlv c hc) (hlv c' hc'),hs.H.Ilt,fun c hc=>hs.H.dom c (by simpa using hc),hs.H.rng⟩
  by_cases e:c=b
  ·subst e
   rw[List.getElem?_set_self (V6 hlive)]at hc
   obtain rfl:=Option.some.inj hc
   obtain⟨B,cs,g1,g2,g3,g4,g5⟩:=hs.H.blk c _ hb
   refine .inr ⟨B,cs,g1,g2,g3,by simpa using g4,by simpa using hl,fun j e he=>?_⟩
   rw[List.getElem?_map]at he
   cases hp:ps[j]? with
   |none=>rw[hp]at he;cases he
   |some p=>
    rw[hp]at he
    obtain rfl:=Option.some.inj he
    refine⟨rfl,fun i u hu=>?_⟩
    have h1:=g5 j (.p p) (by rw[List.getElem?_map,hp];rfl)
    cases i with
    |zero=>
     obtain rfl:=Option.some.inj hu
     rw[Nat.mul_one,Nat.add_zero]
     cases h1 with
     |p h=>exact h
    |succ i=>simp at hu
  ·rw[List.getElem?_set_ne (by omega)]at hc
   exact hs.H.blk c k hc
 have hx:Ex m w I ι s.H w I ι (s.H.set b (.row t 1 (ps.map fun p=>[p]))):=⟨⟨rfl,rfl,rfl,Nat.le_refl _,Shape.refl w,fun _ h=>h,fun _ _ _=>rfl,fun _ h=>.inl h,fun c B hc h=>.inr ⟨c,hlv c hc,h⟩⟩,fun _ _=>rfl,by simpa using hm⟩
 exact⟨I,ι,hs.turn ⟨hs.fr.1,hs.fr.2⟩ hsim hx,hx⟩
end Go.Proofs.YtinfbclgkghgaaaGreat.AL
