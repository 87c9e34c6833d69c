/- A part of the proof. -/
import Derived.Deep.AppendSrc
import Derived.Deep.Upon
import Derived.Test.YtkjklhcfgbaceaaGreatScruhA
open Option.some renaming inj→k0x
open List renaming getElem?_eq_getElem→k0w,getD_eq_getElem?_getD→k0v,getElem?_eq_some_iff→k0t,getElem?_append_left→k0s,getElem?_append_right→k1q,getElem?_map→k1z,length_append→k1y,getElem_mem→k1w,getElem?_set_self→k2y,mem_of_getElem?→k2x,length_take→k2u,getElem?_range→k2s,getElem?_set_ne→k3z
open Nat renaming le_refl→k1v,mul_le_mul_right→k2v
open Bool renaming and_eq_true→k1u
open Array renaming getD_eq_getD_getElem?→k2q
namespace Go.Proofs.YtkjklhcfgbaceaaGreat.AL
open Go Go.RowKit
theorem w6f {α β γ:Type}(l:List (α × β))(g:β→γ):(l.map (·.1)).zip ((l.map (·.2)).map g)=l.map fun p=>(p.1,g p.2):=by
 induction l with
 |nil=>rfl
 |cons p r ih=>simp only[List.map_cons,List.zip_cons_cons,ih]
theorem w8j {α:Type}(l:List α)(o:Nat)(v:α)(r:List α)(h:o+(r.length+1)≤l.length):V8 (l.set o v) (o+1) r=V8 l o (v :: r):=by
 apply List.ext_getElem?
 intro i
 rw[q5c (by simp;omega),q5c (by simp;omega)]
 simp only[List.length_cons]
 by_cases c1:i=o
 ·subst c1
  rw[if_neg (by omega),if_pos (by omega),k2y (by omega)]
  simp
 ·by_cases c2:o+1≤i∧i<o+1+r.length
  ·rw[if_pos c2,if_pos (by omega)]
   obtain⟨j,rfl⟩:∃ j,i=o+1+j:=⟨i - (o+1),by omega⟩
   rw[show o+1+j - o=j+1 by omega,show o+1+j - (o+1)=j by omega,List.getElem?_cons_succ]
  ·rw[if_neg c2,if_neg (by omega),k3z (by omega)]
theorem y5u (off:Nat):∀ (vs:List Value) (k:Nat) (cs:Array Value),off+k+vs.length≤cs.size →
 ((vs.zipIdx k).foldl (fun(cs:Array Value) (c:Value × Nat)=>cs.setIfInBounds (off+c.2) c.1) cs).toList=V8 cs.toList (off+k) vs
 |[],k,cs,_=>by simp[V8]
 |v :: r,k,cs,h=>by
  simp only[List.length_cons]at h
  rw[List.zipIdx_cons,List.foldl_cons,y5u off r (k+1) (cs.setIfInBounds (off+k) v) (by simp;omega)]
  rw[Array.toList_setIfInBounds,← Nat.add_assoc,w8j _ _ _ _ (by simp;omega)]
section
variable {P:Program} {T:J0} {w:World} {I:Nat→Prop} {ι:Nat→Option Nat} {H:List ABlk} {K:AV→List ABlk→Prop} {o:Oper} {a:Act} {next:Act→World→Prop} {Q:Exit→Act→World→Prop} {ev:Operand→AV}
/-- Cells that say a list of abstract values. -/
def Says (w:World)(I:Nat→Prop)(ι:Nat→Option Nat)(l:List AV)(cs:Array Value):Prop:=cs.size=l.length∧∀ i u,l[i]?=some u→ARep w I ι u (cs.getD i undef)
theorem Says.set {l l':List AV}{cs cs':Array Value}{off:Nat}(h:Says w I ι l cs)(h':Says w I ι l' cs')(hle:off+l'.length≤l.length):Says w I ι (V8 l off l') (V8 cs.toList off cs'.toList).toArray:=by
 have hle':off+cs'.toList.length≤cs.toList.length:=by simp;rw[h.1,h'.1];exact hle
 refine⟨by simp[V7 hle',V7 hle,h.1],fun i u hu=>?_⟩
 rw[q4t _ _ _ _ hle']
 rw[q5c hle]at hu
 have e:cs'.toList.length=l'.length:=by simp[h'.1]
 split at hu
 ·rw[if_pos (by omega),← U6];exact h'.2 _ u hu
 ·rw[if_neg (by omega),← U6];exact h.2 i u hu
theorem y4q {place:Nat→Option (Nat × Nat)}:∀ {parts:List (Nat × Operand)} {l:List AV} {cs:Array Value} {l':List AV},Says w I ι l cs→(∀ p∈parts,ARep w I ι (ev p.2) (a.eval p.2)) →
 z6t T place l (parts.map fun p=>(p.1,ev p.2))=some l'→∃ cs',Instr.fill place cs (parts.map fun p=>(p.1,a.eval p.2))=some cs'∧Says w I ι l' cs'
 |[],l,cs,l',h,_,hf=>by simp[z6t]at hf;subst hf;exact⟨cs,by simp[Instr.fill],h⟩
 |(i,x) :: r,l,cs,l',h,hp,hf=>by
  simp only[List.map_cons,z6t,x3n]at hf
  split at hf
  ·rename_i off size l1 h1 h2
   split at hf
   ·rename_i hc
    rw[k1u]at hc
    obtain⟨c1,c2⟩:=hc
    have c1:l1.length=size:=by simpa using c1
    have c2:=Nat.le_of_ble_eq_true c2
    obtain⟨e1,e2,e3⟩:=y5r (show ARep w I ι (ev x) (a.eval x) from hp (i,x) (by simp)) h2
    have hle:off+(a.eval x).cells.size≤cs.size:=by rw[h.1,e1];exact c2
    have hs:Says w I ι l1 (a.eval x).cells:=⟨e1,e2⟩
    have hset:=h.set hs c2
    obtain⟨cs',f1,f2⟩:=y4q (place:=place) (parts:=r) hset (fun p hp'=>hp p (by simp[hp'])) hf
    refine⟨cs',?_,f2⟩
    simp only[List.map_cons,Instr.fill,h1]
    rw[if_neg (by simp;omega)]
    have e:(a.eval x).cells.zipIdx.foldl (fun(cs:Array Value) (c:Value × Nat)=>cs.setIfInBounds (off+c.2) c.1) cs=(V8 cs.toList off (a.eval x).cells.toList).toArray:=by
     apply Array.ext'
     rw[← Array.foldl_toList,Array.toList_zipIdx,y5u off _ 0 cs (by simpa using hle)]
     rfl
    have e':(a.eval x).cells.zipIdx.foldl (fun(cs:Array Value) x=>match x with|(c,j)=>cs.setIfInBounds (off+j) c) cs=(V8 cs.toList off (a.eval x).cells.toList).toArray:=e
    rw[e'];exact f1
   ·exact absurd hf (by simp)
  ·exact absurd hf (by simp)
theorem z3n (hT:TOk P T):∀ {fs:List Field} {pl:List (Nat × Nat)},q6t T (fs.map fun f=>(f.offset,f.type))=some pl→fs.mapM (fun f=>(P.info? f.type).map fun i=>(f.offset,i.size))=some pl
 |[],pl,h=>by simp[q6t]at h;subst h;rfl
 |f :: fs,pl,h=>by
  simp only[List.map_cons,q6t]at h
  split at h
  ·rename_i ti l h1 h2
   obtain rfl:=k0x h
   obtain⟨i,d,z,g1,_,_,_,g5,_⟩:=tok hT h1
   have:=z3n hT h2
   simp[List.mapM_cons,g1,this,g5]
  ·exact absurd h (by simp)
theorem y1k (ti:TI)(z:Value)(h:ti.zero=z.cells.toList)(h8:∀ v∈z.cells.toList,v.oneCell'=true):Says w I ι (q7y ti) z.cells:=by
 refine⟨by simp[q7y,h],fun i u hu=>?_⟩
 simp only[q7y,h,List.getElem?_map,Option.map_eq_some_iff]at hu
 obtain⟨y,hy,rfl⟩:=hu
 rw[U6,k0v,hy]
 exact .p (.raw y (h8 y (k2x hy)))
theorem v3g {t:TypeId}{parts:Array (Nat × Operand)}(hT:TOk P T)(ho:o.op=.build t parts)(hs:SimH w I ι H)(hx:∀ p∈parts.toList,ARep w I ι (ev p.2) (a.eval p.2))
 {C:CallA} (h:aop P T C ev H K (.build t parts)) (hn:Nx w I ι H K fun v w'=>next (a.put o.dst v) w'):o.wp P a w next Q:=by
 simp only[aop,opV,J8,w6f]at h
 obtain⟨ti,hti,h⟩:=W9 h
 obtain⟨i,d,z,h1,h2,h3,h4,h5,h6,h7,h8⟩:=tok hT hti
 split at h
 ·rename_i fs hfs
  rw[hfs]at h4
  obtain⟨F,rfl,rfl⟩:=z3m h4
  obtain⟨pl,hpl,h⟩:=W9 h
  obtain⟨l,hl,h⟩:=W9 h
  have hm:=z3n hT hpl
  obtain⟨cs',f1,f2⟩:=y4q (w:=w) (I:=I) (ι:=ι) (y1k ti z h7 h8) hx hl
  refine W3 (v:=.agg cs') (w':=w) ?_ (hn.here hs h (.agg l cs' f2.1 f2.2))
  have hb:P.built t (parts.map fun(i,x)=>(i,a.eval x)).toList=some cs':=by
   simp only[Program.built,h1,h2,h3,hm,Array.toList_map]
   have:(fun i:Nat=>pl.toArray[i]?)=fun i:Nat=>pl[i]?:=by funext i;simp
   rw[this];exact f1
  simp[execOp,ho,run_build w t _ cs' hb]
 ·rename_i n e he
  rw[he]at h4
  obtain rfl:=z1i h4
  obtain⟨ei,hei,h⟩:=W9 h
  obtain⟨ie,de,ze,g1,g2,g3,g4,g5,g6,g7,g8⟩:=tok hT hei
  obtain⟨l,hl,h⟩:=W9 h
  obtain⟨cs',f1,f2⟩:=y4q (w:=w) (I:=I) (ι:=ι) (y1k ti z h7 h8) hx hl
  refine W3 (v:=.agg cs') (w':=w) ?_ (hn.here hs h (.agg l cs' f2.1 f2.2))
  have hb:P.built t (parts.map fun(i,x)=>(i,a.eval x)).toList=some cs':=by
   simp only[Program.built,h1,h2,h3,g1,Array.toList_map]
   rw[g5]at f1
   exact f1
  simp[execOp,ho,run_build w t _ cs' hb]
 ·exact h.elim
theorem x0y {α:Type}(sz:Nat):∀ (n:Nat) (l:List α) (j:Nat),j<n→(y5m sz n l)[j]?=some ((l.drop (j*sz)).take sz)
 |0,_,j,h=>by omega
 |n+1,l,0,_=>by simp[y5m]
 |n+1,l,j+1,h=>by
  simp only[y5m,List.getElem?_cons_succ]
  rw[x0y sz n (l.drop sz) j (by omega),List.drop_drop,Nat.succ_mul,Nat.add_comm]
theorem q7r {α:Type}(sz:Nat):∀ (n:Nat) (l:List α),(y5m sz n l).length=n
 |0,_=>rfl
 |n+1,l=>by simp[y5m,q7r sz n]
theorem q4c {α:Type}(l:List α)(o n i:Nat)(u:α)(h:((l.drop o).take n)[i]?=some u):i<n∧l[o+i]?=some u:=by
 have hlt:i<n:=by
  have:=(k0t.1 h).1
  simp at this;omega
 rw[List.getElem?_take_of_lt hlt,List.getElem?_drop]at h
 exact⟨hlt,h⟩
theorem u2m {e:TypeId}{sz n:Nat}{l:List AV}{cs:Array Value}(hs:SimH w I ι H)(h:Says w I ι l cs)(hsz:0<sz)(hl:l.length=n*sz)(hn:n≤140737488355328){w':World}(g:Grew w w' (.cells cs e)) :
 SimH w' I (upd ι H.length w.heap.size) (H++[x3p e sz n l])∧Ex H.length w I ι H w' I (upd ι H.length w.heap.size) (H++[x3p e sz n l]):=by
 unfold x3p
 cases hp:pvs l with
 |none=>exact y1j hs (Nat.le_of_eq h.1.symm) h.2 g
 |some ps=>
  have:=x3t hp
  subst this
  refine g.sim hs _ (.inr ⟨w.heap.size,cs,by simp[upd],g.new,fun hI=>by have:=hs.Ilt _ hI;omega,?_,by rw[q7r];exact hn,fun j el hj=>?_⟩)
  ·have:=h.1;simp only[List.length_map]at this hl
   rw[q7r];omega
  ·have hjn:j<n:=by have:=(k0t.1 hj).1;rw[q7r]at this;exact this
   rw[x0y sz n ps j hjn]at hj
   obtain rfl:=k0x hj
   simp only[List.length_map]at hl
   have hmul:j*sz+sz≤n*sz:=by rw[← Nat.succ_mul];exact k2v _ hjn
   refine⟨by simp;omega,fun k u hu=>?_⟩
   obtain⟨_,hu⟩:=q4c _ _ _ _ _ hu
   exact(z3k (h.2 (j*sz+k) (.p u) (by rw[k1z,hu];rfl))).move (fun B hB=>g.old B (hs.Ilt B hB)) (fun _ h=>h)
theorem v3h (zero:List AV)(n i:Nat)(u:AV)(h:(List.replicate n zero).flatten[i]?=some u):zero[i % zero.length]?=some u:=by
 induction n generalizing i with
 |zero=>simp at h
 |succ n ih=>
  rw[List.replicate_succ,List.flatten_cons]at h
  rcases Nat.lt_or_ge i zero.length with hi|hi
  ·rw[k0s hi]at h
   rw[Nat.mod_eq_of_lt hi];exact h
  ·rw[k1q hi]at h
   have:=ih (i - zero.length) h
   rw[Nat.mod_eq_sub_mod hi];exact this
theorem w2j (ei:TI)(z:Value)(h:ei.zero=z.cells.toList)(h8:∀ v∈z.cells.toList,v.oneCell'=true)(n:Nat)(h0:0<ei.size)(hz:ei.zero.length=ei.size) :
 Says w I ι (List.replicate n (q7y ei)).flatten ((Array.range (n*ei.size)).map (z.cells[· % z.cells.size]!)):=by
 have hzl:(q7y ei).length=ei.size:=by simp[q7y,hz]
 have hzs:z.cells.size=ei.size:=by rw[← hz,h];simp
 refine⟨by simp[hzl],fun i u hu=>?_⟩
 have hi:i<n*ei.size:=by
  have:=(k0t.1 hu).1
  simp[hzl]at this;exact this
 have hg:=v3h _ _ _ _ hu
 rw[hzl]at hg
 have hm:i % ei.size<z.cells.size:=by rw[hzs];exact Nat.mod_lt _ h0
 have hs:=(y1k (w:=w) (I:=I) (ι:=ι) ei z h h8).2 _ u hg
 rw[k2q,Array.getElem?_eq_getElem hm]at hs
 rw[k2q,Array.getElem?_map,Array.getElem?_range,if_pos hi]
 simp only[Option.map_some,Option.getD_some,hzs]
 rw[getElem!_pos z.cells (i % ei.size) hm]
 exact hs
theorem y9w {t:TypeId}{n:Nat}{parts:Array (Nat × Operand)}(hT:TOk P T)(ho:o.op=.buildSlice t n parts)(hs:SimH w I ι H)(hx:∀ p∈parts.toList,ARep w I ι (ev p.2) (a.eval p.2))
 {C:CallA} (h:aop P T C ev H K (.buildSlice t n parts)) (hn:Nx w I ι H K fun v w'=>next (a.put o.dst v) w'):o.wp P a w next Q:=by
 simp only[aop,opV,J8,w6f]at h
 obtain⟨ti,hti,h⟩:=W9 h
 obtain⟨i,d,z,h1,h2,h3,h4,h5,h6,h7,h8⟩:=tok hT hti
 split at h
 ·rename_i e he
  obtain⟨ei,hei,h⟩:=W9 h
  obtain⟨ie,de,ze,g1,g2,g3,g4,g5,g6,g7,g8⟩:=tok hT hei
  obtain⟨c,h⟩:=J3 h
  simp only[Bool.and_eq_true,decide_eq_true_eq,beq_iff_eq]at c
  obtain⟨⟨c1,c2⟩,c3⟩:=c
  obtain⟨l,hl,h⟩:=W9 h
  rw[he]at h4
  obtain rfl:=q0t h4
  obtain⟨cs',f1,f2⟩:=y4q (w:=w) (I:=I) (ι:=ι) (w2j ei ze g7 g8 n c2 c3) hx hl
  have hll:l.length=n*ei.size:=by
   have:∀ {parts:List (Nat × AV)} {l l':List AV} {pl:Nat→Option (Nat × Nat)},z6t T pl l parts=some l'→l'.length=l.length:=by
    intro parts
    induction parts with
    |nil=>intro l l' pl h;simp[z6t]at h;subst h;rfl
    |cons p r ih=>
     intro l l' pl h
     simp only[z6t,x3n]at h
     split at h
     ·split at h
      ·rename_i hc
       rw[k1u]at hc
       rw[ih h,V7 (Nat.le_of_ble_eq_true hc.2)]
      ·exact absurd h (by simp)
     ·exact absurd h (by simp)
   rw[this hl];simp[q7y,c3]
  have g:=q4k w (.cells cs' e)
  have hbound:n≤140737488355328:=by
   have:n≤n*ei.size:=Nat.le_mul_of_pos_right _ c2
   omega
  have k:=u2m (e:=e) (n:=n) hs f2 c2 hll hbound g
  refine W3 (v:=.slice (some ⟨w.heap.size,0,none⟩) n n) (w':=w.alloc (.cells cs' e)) ?_ (hn _ _ _ _ _ _ h ?_ k.1 k.2)
  ·have hlim:¬ (2 ^ 24<n*ie.size):=by rw[← g5];omega
   have hne:ei.size≠0:=by omega
   have key:(Instr.buildSlice t n (parts.map fun(i,x)=>(i,a.eval x))).run P w=.ok (.slice (some ⟨w.heap.size,0,none⟩) n n) (w.alloc (.cells cs' e)):=by
    unfold Instr.buildSlice
    simp only[Sem.run_bind,run_underlying h2,Result.andThen_ok,q0e g1]
    rw[← g5]
    have hl24:¬ (n*ei.size > 2 ^ 24):=by rw[g5];exact hlim
    simp only[hl24,if_false]
    have f1':Instr.fill (fun i=>some (i*ei.size,ei.size)) ((Array.range (n*ei.size)).map (fun x=>ze.cells[x % ze.cells.size]!)) (parts.toList.map fun p=>(p.1,a.eval p.2))=some cs':=f1
    by_cases h0:n*ei.size=0
    ·have e0:∀ f g:Nat→Value,(Array.range (n*ei.size)).map f=(Array.range (n*ei.size)).map g:=fun f g=>by rw[h0];simp
     simp only[if_pos h0,Sem.run_bind,Sem.run_pure,Result.andThen_ok,Array.toList_map]
     rw[e0 _ (fun x=>ze.cells[x % ze.cells.size]!),f1']
     rfl
    ·simp only[if_neg h0,Sem.run_bind,Sem.run_pure,Result.andThen_ok,q6k g1 g3,Array.toList_map,f1']
     rfl
   simp[execOp,ho,key]
  ·have:(⟨w.heap.size,0,none⟩:Addr)=⟨w.heap.size,0*ei.size,none⟩:=by simp
   rw[this]
   refine .msl _ _ _ _ _ _ (by simp[upd]) (k1v _) ⟨cs',e,(0,0),g.new,?_⟩
   rw[f2.1,hll];simp
 ·exact h.elim
end
end Go.Proofs.YtkjklhcfgbaceaaGreat.AL
namespace Go.Proofs.YtkjklhcfgbaceaaGreat.AL
open Go Go.RowKit
section
variable {P:Program} {T:J0} {w:World} {I:Nat→Prop} {ι:Nat→Option Nat} {H:List ABlk} {K:AV→List ABlk→Prop} {o:Oper} {a:Act} {next:Act→World→Prop} {Q:Exit→Act→World→Prop} {ev:Operand→AV}
theorem x3x {t:TypeId}{l c:Operand}(hT:TOk P T)(ho:o.op=.makeSlice t l c)(hs:SimH w I ι H)(hl:ARep w I ι (ev l) (a.eval l))(hc:ARep w I ι (ev c) (a.eval c))
 {C:CallA} (h:aop P T C ev H K (.makeSlice t l c)) (hn:Nx w I ι H K fun v w'=>next (a.put o.dst v) w'):o.wp P a w next Q:=by
 simp only[aop,opV,J8,List.map_cons,List.map_nil,on2]at h
 replace h:=W9 h
 obtain⟨ti,hti,h⟩:=h
 obtain⟨i,d,z,h1,h2,h3,h4,h5,h6,h7,h8⟩:=tok hT hti
 split at h
 ·rename_i e he
  replace h:=W9 h
  obtain⟨ei,hei,h⟩:=h
  obtain⟨ie,de,ze,g1,g2,g3,g4,g5,g6,g7,g8⟩:=tok hT hei
  replace h:=J3 h
  obtain⟨q,h⟩:=h
  simp only[Bool.and_eq_true,decide_eq_true_eq,beq_iff_eq]at q
  obtain⟨q1,q2⟩:=q
  rw[he]at h4
  obtain rfl:=q0t h4
  split at h
  ·rename_i n n' e1 e2
   rw[e1]at hl;rw[e2]at hc
   have v1:=Y8 hl;have v2:=Y8 hc
   obtain⟨⟨hnn,k1,k2,k3⟩,h⟩:=h
   rw[hnn]at v2
   have hzl:(q5z ei).length=ei.size:=by simp[q5z,q2]
   have hzs:ze.cells.size=ei.size:=by rw[← q2,g7];simp
   let cs:=madeCells ze.cells (n.toNat*ie.size)
   have hcs:cs.size=n.toNat*ei.size:=by simp[cs,size_madeCells,g5]
   have g:=q4k w (.cells cs e)
   have key:=g.sim hs (.row e ei.size (List.replicate n.toNat (q5z ei))) (.inr ⟨w.heap.size,cs,by simp[upd],g.new,fun hI=>by have:=hs.Ilt _ hI;omega,by simp[hcs],by simp;omega,fun j el hj=>?_⟩)
   ·refine W3 (v:=.slice (some ⟨w.heap.size,0,none⟩) n.toNat n.toNat) (w':=w.alloc (.cells cs e)) ?_ (hn _ _ _ _ _ _ h ?_ key.1 key.2)
    ·have hb:(ie.bytes:Int)*n≤281474976710656:=by rw[← g6,Int.mul_comm];omega
     have:=run_make (P:=P) w t e ie ze h2 g1 g3 .i64 .i64 n n k1 (Int.le_refl _) hb (by omega)
     simp[execOp,ho,v1,v2,this,cs]
    ·have:(⟨w.heap.size,0,none⟩:Addr)=⟨w.heap.size,0*ei.size,none⟩:=by simp
     rw[this]
     exact .msl _ _ _ _ _ _ (by simp[upd]) (k1v _) ⟨cs,e,(0,0),g.new,by rw[hcs];simp⟩
   ·have hjn:j<n.toNat:=by have:=(k0t.1 hj).1;simpa using this
    rw[List.getElem?_replicate,if_pos hjn]at hj
    obtain rfl:=k0x hj
    refine⟨hzl,fun k u hu=>?_⟩
    have hk:k<ei.size:=by have:=(k0t.1 hu).1;omega
    simp only[q5z,g7,List.getElem?_map,Option.map_eq_some_iff]at hu
    obtain⟨y,hy,rfl⟩:=hu
    have hmul:j*ei.size+ei.size≤n.toNat*ei.size:=by rw[← Nat.succ_mul];exact k2v _ hjn
    have:cs.getD (j*ei.size+k) undef=y:=by
     simp only[cs,madeCells]
     rw[k2q,Array.getElem?_map,Array.getElem?_range,if_pos (by rw[← g5];omega)]
     simp only[Option.map_some,Option.getD_some]
     rw[hzs,Nat.add_comm,Nat.add_mul_mod_self_right,Nat.mod_eq_of_lt hk,getElem!_pos ze.cells k (by omega)]
     have:=(Array.getElem?_toList (xs:=ze.cells) (i:=k)).symm.trans hy
     rw[Array.getElem?_eq_getElem (by omega)]at this
     exact k0x this
    rw[this]
    exact .raw y (g8 y (k2x hy))
  ·exact h.elim
 ·exact h.elim
theorem z5e {len c:Nat}{A:Option Addr}{t e:TypeId}{ie:TypeInfo}(h2:P.underlying t=some (.slice e))(g1:P.info? e=some ie){lo hi:Option Value}{l h:Int}
 (hlo:match lo with|none=>l=0|some (.int _ n)=>l=n|_=>False) (hhi:match hi with|none=>h=len|some (.int _ n)=>h=n|_=>False) (b:0≤l∧l≤h∧h≤len) (hc:len≤c) (w:World) :
 (Instr.sliceAt t (.slice A len c) lo hi none).run P w=.ok (.slice (if c=l.toNat then A else A.map (·.add (l.toNat*ie.size))) (h.toNat - l.toNat) (c - l.toNat)) w:=by
 obtain⟨b1,b2,b3⟩:=b
 have sb:∀ (k:IntKind) (i:Int) (y:Nat) (code:BoundsCode),0≤i→i≤y→(Instr.sliceBound (.int k i) y code).run P w=.ok i.toNat w:=fun k i y code p q=>run_sliceBound w k i y code p q
 have key:(Instr.sliceBounds true len c lo hi none).run P w=.ok (l.toNat,h.toNat,c) w:=by
  cases lo with
  |none=>
   subst hlo
   cases hi with
   |none=>subst hhi;simp[Instr.sliceBounds]
   |some v=>cases v <;> first|exact hhi.elim|(subst hhi;simp[Instr.sliceBounds,sb,b2,show h≤(c:Int) by omega])
  |some u=>
   cases u <;> first|exact hlo.elim|skip
   subst hlo
   cases hi with
   |none=>subst hhi;simp[Instr.sliceBounds,sb,b1,b2]
   |some v=>cases v <;> first|exact hhi.elim|(subst hhi;simp[Instr.sliceBounds,sb,b1,show (0:Int)≤h by omega,show h≤(c:Int) by omega,show (h.toNat:Int)=h by omega,b2])
 simp[Instr.sliceAt,run_underlying h2,Instr.slice,key,q0e g1]
theorem w8k {s:ByteArray}{t:TypeId}(h2:P.underlying t=some .string){lo hi:Option Value}{l h:Int}
 (hlo:match lo with|none=>l=0|some (.int _ n)=>l=n|_=>False) (hhi:match hi with|none=>h=s.size|some (.int _ n)=>h=n|_=>False) (b:0≤l∧l≤h∧h≤s.size) (w:World) :
 (Instr.sliceAt t (.string s) lo hi none).run P w=.ok (.string (s.extract l.toNat h.toNat)) w:=by
 obtain⟨b1,b2,b3⟩:=b
 have sb:∀ (k:IntKind) (i:Int) (y:Nat) (code:BoundsCode),0≤i→i≤y→(Instr.sliceBound (.int k i) y code).run P w=.ok i.toNat w:=fun k i y code p q=>run_sliceBound w k i y code p q
 have key:(Instr.sliceBounds false s.size s.size lo hi none).run P w=.ok (l.toNat,h.toNat,s.size) w:=by
  cases lo with
  |none=>
   subst hlo
   cases hi with
   |none=>subst hhi;simp[Instr.sliceBounds]
   |some v=>cases v <;> first|exact hhi.elim|(subst hhi;simp[Instr.sliceBounds,sb,b2,b3])
  |some u=>
   cases u <;> first|exact hlo.elim|skip
   subst hlo
   cases hi with
   |none=>subst hhi;simp[Instr.sliceBounds,sb,b1,b2]
   |some v=>cases v <;> first|exact hhi.elim|(subst hhi;simp[Instr.sliceBounds,sb,b1,b3,show (0:Int)≤h by omega,show (h.toNat:Int)=h by omega,b2])
 simp[Instr.sliceAt,run_underlying h2,Instr.slice,key]
theorem q4d {x:Option Operand}{d:Nat}{l:Int}(hx:∀ y,x=some y→ARep w I ι (ev y) (a.eval y))(h:q3m d (x.map ev)=some l):match x.map a.eval with|none=>l=d|some (.int _ n)=>l=n|_=>False:=by
 cases x with
 |none=>simp[q3m]at h;exact h.symm
 |some y=>
  have hy:=hx y rfl
  simp only[Option.map_some]at h ⊢
  unfold q3m at h
  split at h
  ·rename_i he;simp at he
  ·rename_i k n he
   injection he with he
   rw[he]at hy
   rw[Y8 hy]
   exact(k0x h).symm
  ·exact absurd h (by simp)
theorem q7z {t:TypeId}{x:Operand}{lo hi:Option Operand}{v r:Value}(ho:o.op=.slice t x lo hi none)(hv:a.eval x=v)
 (hrun:(Instr.sliceAt t v (lo.map a.eval) (hi.map a.eval) none).run P w=.ok r w):(execOp a.eval o).run P w=.ok (.value r) w:=by
 simp only[execOp,ho,hv,Option.map_none,Sem.run_bind,hrun]
 rfl
theorem v3i {t:TypeId}{x:Operand}{lo hi mx:Option Operand}(hT:TOk P T)(ho:o.op=.slice t x lo hi mx)(hs:SimH w I ι H)(hx:ARep w I ι (ev x) (a.eval x))
 (hlo:∀ y,lo=some y→ARep w I ι (ev y) (a.eval y)) (hhi:∀ y,hi=some y→ARep w I ι (ev y) (a.eval y))
 (h:chk mx.isNone (W8 (T t) fun ti=>match ti.d with
 |.slice e=>W8 (T e) fun ei=>y5n ei.size (ev x) (lo.map ev) (hi.map ev) fun u=>K u H
 |.string=>match ev x with
  |.p (.raw (.string s))=>W8 (q3m 0 (lo.map ev)) fun l=>W8 (q3m s.size (hi.map ev)) fun h=>
   (0≤l∧l≤h∧h≤s.size)∧K (.p (.raw (.string (s.extract l.toNat h.toNat)))) H
  |_=>False
 |_=>False)) (hn:Nx w I ι H K fun v w'=>next (a.put o.dst v) w'):o.wp P a w next Q:=by
 replace h:=J3 h
 obtain⟨q,h⟩:=h
 have q:mx=none:=by simpa using q
 subst q
 replace h:=W9 h
 obtain⟨ti,hti,h⟩:=h
 obtain⟨i,d,z,h1,h2,h3,h4,h5,h6,h7,h8⟩:=tok hT hti
 split at h
 ·rename_i e he
  replace h:=W9 h
  obtain⟨ei,hei,h⟩:=h
  obtain⟨ie,de,ze,g1,g2,g3,g4,g5,g6,g7,g8⟩:=tok hT hei
  rw[he]at h4
  obtain rfl:=q0t h4
  unfold y5n at h
  split at h
  ·rename_i sz' xs hxe
   replace h:=J3 h
   obtain⟨c1,h⟩:=h
   have c1:sz'=ei.size:=k0z c1
   subst c1
   replace h:=W9 h
   obtain⟨l,hl,h⟩:=h
   replace h:=W9 h
   obtain⟨hh,hhh,h⟩:=h
   obtain⟨b,h⟩:=h
   rw[hxe]at hx
   generalize hv:a.eval x=v at hx
   cases z3k hx with
   |sl sz xs A c f hc hlen hA hr=>
    have hrun:=z5e (A:=A) (c:=c) h2 g1 (q4d hlo hl) (q4d hhi hhh) b hc w
    refine W3 (w':=w) (q7z ho hv hrun) (hn.here hs h ?_)
    have hlenr:((xs.take hh.toNat).drop l.toNat).length=hh.toNat - l.toNat:=by simp;omega
    have hget:∀ (j:Nat) (e:List PV),((xs.take hh.toNat).drop l.toNat)[j]?=some e→xs[l.toNat+j]?=some e:=fun j e hj=>by
     rw[List.getElem?_drop]at hj
     rw[List.getElem?_take_of_lt (by have:=(k0t.1 hj).1;simp at this;omega)]at hj
     exact hj
    rw[← hlenr]
    refine .p (.sl ei.size _ _ _ (fun j k=>f (l.toNat+j) k) (by rw[hlenr];omega) (by rw[hlenr];omega) ?_ (fun j e i u h1 h2=>hr (l.toNat+j) e i u (hget j e h1) h2))
    by_cases hem:(xs.take hh.toNat).drop l.toNat=[]
    ·exact .inl hem
    ·have hne:l.toNat<hh.toNat:=by
      rcases Nat.lt_or_ge l.toNat hh.toNat with h|h
      ·exact h
      ·exact absurd (List.length_eq_zero_iff.1 (by rw[hlenr];omega)) hem
     rcases hA with hA|⟨bb,oo,hA1,hA2,hA3⟩
     ·subst hA;simp at hem
     ·refine .inr ⟨bb,oo+l.toNat*ei.size,?_,hA2,fun j e hj=>?_⟩
      ·subst hA1
       rw[if_neg (by omega),← g5]
       simp only[Option.map_some]
       rw[Addr.add_mid]
      ·obtain⟨r1,r2⟩:=hA3 (l.toNat+j) e (hget j e hj)
       refine⟨r1,fun i hi=>?_⟩
       have:=r2 i hi
       rw[Nat.add_mul,← Nat.add_assoc]at this
       exact this
  ·rename_i b sz' off len hxe
   replace h:=J3 h
   obtain⟨c1,h⟩:=h
   have c1:sz'=ei.size:=k0z c1
   subst c1
   replace h:=W9 h
   obtain⟨l,hl,h⟩:=h
   replace h:=W9 h
   obtain⟨hh,hhh,h⟩:=h
   obtain⟨bd,h⟩:=h
   rw[hxe]at hx
   generalize hv:a.eval x=v at hx
   cases hx with
   |msl _ _ _ _ B c hB hc hsz=>
    have hrun:=z5e (A:=some ⟨B,off*ei.size,none⟩) (c:=c) h2 g1 (q4d hlo hl) (q4d hhi hhh) bd hc w
    refine W3 (w':=w) (q7z ho hv hrun) (hn.here hs h ?_)
    by_cases hcl:c=l.toNat
    ·rw[if_pos hcl]
     have e1:hh.toNat - l.toNat=0:=by omega
     have e2:c - l.toNat=0:=by omega
     rw[e1,e2]
     exact .msl0 _ _ _ _
    ·rw[if_neg hcl]
     simp only[Option.map_some]
     rw[Addr.add_mid,← g5,← Nat.add_mul]
     obtain⟨cs,tt,fr,k1,k2⟩:=hsz
     refine .msl _ _ _ _ _ _ hB (by omega) ⟨cs,tt,fr,k1,?_⟩
     have:off+l.toNat+(c - l.toNat)=off+c:=by omega
     rw[this];exact k2
   |msl0 _ _ _ A=>
    have hrun:=z5e (A:=A) (c:=0) h2 g1 (q4d hlo hl) (q4d hhi hhh) bd (k1v _) w
    refine W3 (w':=w) (q7z ho hv hrun) (hn.here hs h ?_)
    have e1:hh.toNat - l.toNat=0:=by omega
    rw[e1,Nat.zero_sub]
    exact .msl0 _ _ _ _
  ·rename_i hxe
   replace h:=W9 h
   obtain⟨l,hl,h⟩:=h
   replace h:=W9 h
   obtain⟨hh,hhh,h⟩:=h
   obtain⟨⟨hl0,hh0⟩,h⟩:=h
   subst hl0
   subst hh0
   rw[hxe]at hx
   have hv:=Y8 hx
   have hrun:=z5e (A:=none) (len:=0) (c:=0) h2 g1 (q4d hlo hl) (q4d hhi hhh) ⟨Int.le_refl _,Int.le_refl _,by simp⟩ (k1v _) w
   refine W3 (w':=w) (q7z ho hv hrun) (hn.here hs h ?_)
   simp only[Int.toNat_zero,if_true,Nat.sub_zero]
   exact .p (.raw _ rfl)
  ·exact h.elim
 ·rename_i he
  rw[he]at h4
  obtain rfl:=q8x h4
  split at h
  ·rename_i s hxe
   replace h:=W9 h
   obtain⟨l,hl,h⟩:=h
   replace h:=W9 h
   obtain⟨hh,hhh,h⟩:=h
   obtain⟨bd,h⟩:=h
   rw[hxe]at hx
   have hv:=Y8 hx
   exact W3 (w':=w) (q7z ho hv (w8k h2 (q4d hlo hl) (q4d hhi hhh) bd w)) (hn.here hs h (.p (.raw _ rfl)))
  ·exact h.elim
 ·exact h.elim
theorem x3y {t:TypeId}{x y:Operand}(hT:TOk P T)(ho:o.op=.indexAddr t x y)(hs:SimH w I ι H)(hx:ARep w I ι (ev x) (a.eval x))(hy:ARep w I ι (ev y) (a.eval y))
 {C:CallA} (h:aop P T C ev H K (.indexAddr t x y)) (hn:Nx w I ι H K fun v w'=>next (a.put o.dst v) w'):o.wp P a w next Q:=by
 simp only[aop,opV,J8,List.map_cons,List.map_nil,on2]at h
 replace h:=W9 h
 obtain⟨ti,hti,h⟩:=h
 obtain⟨i,d,z,h1,h2,h3,h4,h5,h6,h7,h8⟩:=tok hT hti
 split at h
 ·rename_i e he
  replace h:=W9 h
  obtain⟨ei,hei,h⟩:=h
  obtain⟨ie,de,ze,g1,g2,g3,g4,g5,g6,g7,g8⟩:=tok hT hei
  rw[he]at h4
  obtain rfl:=q0t h4
  unfold y1h at h
  split at h
  ·rename_i k n hye
   rw[hye]at hy
   have hvy:=Y8 hy
   split at h
   ·rename_i sz' xs hd hxe
    replace h:=J3 h
    obtain⟨c1,h⟩:=h
    have c1:sz'=ei.size:=k0z c1
    subst c1
    obtain⟨c2,h⟩:=h
    replace h:=W9 h
    obtain⟨el,hel,h⟩:=h
    rw[hxe]at hx
    generalize hv:a.eval x=v at hx
    have hlt:n.toNat<xs.length:=(k0t.1 hel).1
    cases z3k hx with
    |sl sz xs A c f hc hlen hA hr=>
     rcases hA with hA|⟨bb,oo,hA1,hA2,hA3⟩
     ·subst hA;simp at hel
     ·subst hA1
      obtain⟨r1,r2⟩:=hA3 n.toNat el hel
      refine W3 (v:=.pointer (some ⟨bb,oo+n.toNat*ei.size,none⟩)) (w':=w) ?_ (hn.here hs h ?_)
      ·have hb:(0:Int)≤n∧n<(xs.length:Int):=⟨c2,by omega⟩
       simp[execOp,ho,hv,hvy,Instr.indexAt,asIntOf,run_underlying h2,hb,q0e g1,← g5,Addr.add_mid]
      ·exact .p (.box el bb _ (fun i=>f n.toNat i) hA2 (fun i hi=>r2 i (by omega)) (fun i u hu=>hr n.toNat el i u hel hu))
   ·rename_i b sz' off len hd hxe
    replace h:=J3 h
    obtain⟨c1,h⟩:=h
    have c1:sz'=ei.size:=k0z c1
    subst c1
    obtain⟨⟨c2,c3⟩,h⟩:=h
    rw[hxe]at hx
    generalize hv:a.eval x=v at hx
    cases hx with
    |msl _ _ _ _ B c hB hc hsz=>
     refine W3 (v:=.pointer (some ⟨B,(off+n.toNat)*ei.size+0,none⟩)) (w':=w) ?_ (hn.here hs h (.elr _ _ _ _ _ hB))
     have hb:(0:Int)≤n∧n<(len:Int):=⟨c2,c3⟩
     simp[execOp,ho,hv,hvy,Instr.indexAt,asIntOf,run_underlying h2,hb,q0e g1,← g5,Addr.add_mid,Nat.add_mul]
    |msl0 _ _ _ A=>omega
   ·rename_i hd _;simp at hd
   ·rename_i hd _;simp at hd
   ·rename_i hd _;simp at hd
   ·exact h.elim
  ·exact h.elim
 ·rename_i N e he
  replace h:=W9 h
  obtain⟨ei,hei,h⟩:=h
  obtain⟨ie,de,ze,g1,g2,g3,g4,g5,g6,g7,g8⟩:=tok hT hei
  rw[he]at h4
  obtain rfl:=z1i h4
  unfold y1h at h
  split at h
  ·rename_i k n hye
   rw[hye]at hy
   have hvy:=Y8 hy
   split at h
   ·rename_i hd _;simp at hd
   ·rename_i hd _;simp at hd
   ·rename_i N' e' b off hd hxe
    injection hd with hd1 hd2
    subst hd1
    obtain⟨⟨c2,c3⟩,h⟩:=h
    rw[hxe]at hx
    generalize hv:a.eval x=v at hx
    cases hx with
    |ref _ _ B hB=>
     refine W3 (v:=.pointer (some ⟨B,off+n.toNat*ei.size,none⟩)) (w':=w) ?_ (hn.here hs h (.ref _ _ _ hB))
     have hb:(0:Int)≤n∧n<(N:Int):=⟨c2,c3⟩
     simp[execOp,ho,hv,hvy,Instr.indexAt,asIntOf,run_underlying h2,Instr.sureAddr,hb,q0e g1,← g5,Addr.add_mid]
   ·rename_i N' e' cs hd hxe
    injection hd with hd1 hd2
    subst hd1
    obtain⟨⟨c2,c3⟩,h⟩:=h
    rw[hxe]at hx
    obtain⟨u,ad,k1,k2,k3⟩:=x0x (x:=.p (.box cs)) (n:=n.toNat*ei.size) (K:=fun u=>K u H) h hx
    refine W3 (v:=.pointer (some (ad.add (n.toNat*ei.size)))) (w':=w) ?_ (hn.here hs k1 k3)
    have hb:(0:Int)≤n∧n<(N:Int):=⟨c2,c3⟩
    simp[execOp,ho,k2,hvy,Instr.indexAt,asIntOf,run_underlying h2,Instr.sureAddr,hb,q0e g1,← g5]
   ·rename_i N' e' b sz' r off hd hxe
    injection hd with hd1 hd2
    subst hd1
    replace h:=J3 h
    obtain⟨c1,h⟩:=h
    rw[k1u]at c1
    have c0:sz'=ei.size:=k0z c1.1
    have c5:off=0:=k0z c1.2
    clear c1
    subst c0
    subst c5
    obtain⟨⟨c2,c3⟩,h⟩:=h
    rw[hxe]at hx
    generalize hv:a.eval x=v at hx
    cases hx with
    |elr _ _ _ _ B hB=>
     refine W3 (v:=.pointer (some ⟨B,(r+n.toNat)*ei.size+0,none⟩)) (w':=w) ?_ (hn.here hs h (.elr _ _ _ _ _ hB))
     have hb:(0:Int)≤n∧n<(N:Int):=⟨c2,c3⟩
     simp[execOp,ho,hv,hvy,Instr.indexAt,asIntOf,run_underlying h2,Instr.sureAddr,hb,q0e g1,← g5,Addr.add_mid,Nat.add_mul]
   ·exact h.elim
  ·exact h.elim
 ·exact h.elim
end
end Go.Proofs.YtkjklhcfgbaceaaGreat.AL
namespace Go.Proofs.YtkjklhcfgbaceaaGreat.AL
open Go Go.RowKit
section
variable {P:Program} {T:J0} {w:World} {I:Nat→Prop} {ι:Nat→Option Nat} {H:List ABlk}
def RowVals (w:World)(I:Nat→Prop)(sz:Nat)(ys:List (List PV))(vs:List Value):Prop:=
 vs.length=ys.length*sz∧∀ j e,ys[j]?=some e→e.length=sz∧∀ i u,e[i]?=some u→PRep w I u (vs.getD (j*sz+i) undef)
theorem RowVals.one {sz:Nat}{ys:List (List PV)}{vs:List Value}(h:RowVals w I sz ys vs)(h0:0<sz):∀ u∈vs,u.oneCell'=true:=by
 intro u hu
 obtain⟨k,hk,rfl⟩:=List.getElem_of_mem hu
 have hk':k<ys.length*sz:=by rw[← h.1];exact hk
 have hj:k / sz<ys.length:=by rw[Nat.div_lt_iff_lt_mul h0];exact hk'
 obtain⟨r1,r2⟩:=h.2 (k / sz) _ (k0w hj)
 have hm:k % sz<sz:=Nat.mod_lt _ h0
 have:=(r2 (k % sz) _ (k0w (by rw[r1];exact hm))).one
 rw[Nat.div_add_mod' k sz]at this
 rw[k0v,k0w hk]at this
 exact this
theorem RowVals.append {sz:Nat}{xs ys:List (List PV)}{us vs:List Value}(h:RowVals w I sz xs us)(k:RowVals w I sz ys vs):RowVals w I sz (xs++ys) (us++vs):=by
 refine⟨by simp[h.1,k.1,Nat.add_mul],fun j e hj=>?_⟩
 rcases Nat.lt_or_ge j xs.length with hlt|hge
 ·rw[k0s hlt]at hj
  obtain⟨r1,r2⟩:=h.2 j e hj
  refine⟨r1,fun i u hu=>?_⟩
  have hi:i<sz:=by rw[← r1];exact(k0t.1 hu).1
  have hmul:j*sz+sz≤xs.length*sz:=by rw[← Nat.succ_mul];exact k2v _ hlt
  have:=r2 i u hu
  rw[k0v]at this ⊢
  rw[k0s (by rw[h.1];omega)]
  exact this
 ·rw[k1q hge]at hj
  obtain⟨r1,r2⟩:=k.2 _ e hj
  refine⟨r1,fun i u hu=>?_⟩
  have:=r2 i u hu
  obtain⟨d,rfl⟩:∃ d,j=xs.length+d:=⟨j - xs.length,by omega⟩
  rw[k0v]at this ⊢
  rw[Nat.add_mul,Nat.add_assoc,k1q (by rw[h.1];omega),h.1]
  rw[show xs.length*sz+(d*sz+i) - xs.length*sz=(xs.length+d - xs.length)*sz+i by
   rw[Nat.add_sub_cancel_left,Nat.add_sub_cancel_left]]
  exact this
theorem RowVals.move {w':World}{I':Nat→Prop}{sz:Nat}{ys:List (List PV)}{vs:List Value}(hw:∀ B,I B→w'.heap[B]?=w.heap[B]?)(hI:∀ B,I B→I' B)(h:RowVals w I sz ys vs):RowVals w' I' sz ys vs:=
 ⟨h.1,fun j e hj=>⟨(h.2 j e hj).1,fun i u hu=>((h.2 j e hj).2 i u hu).move hw hI⟩⟩
theorem y1m {size:Nat}{tx e':TypeId}(hk:P.underlying tx=some (.slice e'))(A:Option Addr)(c:Nat)(w:World):Src P size tx (.slice A 0 c) 0 [] w:=by
 refine⟨.inl ⟨e',hk⟩,fun _=>rfl,?_,?_,by simp,fun _ h=>by cases h⟩ <;> cases A <;> simp[Builtin.firstCells,loadCells,loadCellsFrom]
theorem x7c {sz:Nat}{xs:List (List PV)}{cs:Array Value}(h4:xs.length*sz≤cs.size)
 (h6:∀ j e,xs[j]?=some e→e.length=sz∧∀ i u,e[i]?=some u→PRep w I u (cs.getD (j*sz+i) undef)) {off len:Nat} (hle:off+len≤xs.length) :
 RowVals w I sz ((xs.drop off).take len) ((cs.toList.drop (off*sz)).take (len*sz)):=by
 have hmul:(off+len)*sz≤xs.length*sz:=k2v _ hle
 rw[Nat.add_mul]at hmul
 refine⟨?_,fun j e hj=>?_⟩
 ·simp only[List.length_take,List.length_drop,Array.length_toList]
  rw[Nat.min_eq_left (by omega),Nat.min_eq_left (by omega)]
 ·obtain⟨hjl,hj⟩:=q4c _ _ _ _ _ hj
  obtain⟨r1,r2⟩:=h6 _ e hj
  refine⟨r1,fun i u hu=>?_⟩
  have hi:i<sz:=by rw[← r1];exact(k0t.1 hu).1
  have:=r2 i u hu
  have hm:j*sz+sz≤len*sz:=by rw[← Nat.succ_mul];exact k2v _ hjl
  rw[k0v,List.getElem?_take_of_lt (by omega),List.getElem?_drop]
  rw[k2q,Nat.add_mul,Nat.add_assoc,← Array.getElem?_toList]at this
  exact this
theorem y5v {tx e':TypeId}(hk:P.underlying tx=some (.slice e')){sz:Nat}(h0:0<sz){x:AV}{v:Value}{ys:List (List PV)}(hs:SimH w I ι H)(h:z8t H sz x=some ys)(hx:ARep w I ι x v) :
 ∃ news,Src P sz tx v ys.length news w∧RowVals w I sz ys news:=by
 have made:∀ (ad:Addr) (c:Nat) (news:List Value),RowVals w I sz ys news→(∀ j u,news[j]?=some u→w.cell? (ad.add j)=some u)→∃ news,Src P sz tx (.slice (some ad) ys.length c) ys.length news w∧RowVals w I sz ys news:=
  fun ad c news hr hc=>⟨news,Src.ofSlice w hk ad ys.length c news hr.1 hc (hr.one h0),hr⟩
 unfold z8t at h
 split at h
 ·rename_i sz' xs
  split at h
  ·rename_i hsz
   have hsz:sz'=sz:=k0z hsz
   subst hsz
   obtain rfl:=k0x h
   cases z3k hx with
   |sl sz xs A c f hc hlen hA hr=>
    rcases hA with hA|⟨b,o,rfl,hI,hcell⟩
    ·subst hA
     exact⟨[],y1m hk A c w,by simp,fun j e hj=>by simp at hj⟩
    ·refine made ⟨b,o,none⟩ c ((List.range (xs.length*sz')).map fun k=>f (k / sz') (k % sz')) ⟨by simp,fun j e hj=>?_⟩ (fun k u hu=>?_)
     ·obtain⟨r1,r2⟩:=hcell j e hj
      refine⟨r1,fun i u hu=>?_⟩
      have hi:i<sz':=by rw[← r1];exact(k0t.1 hu).1
      have hjl:j<xs.length:=(k0t.1 hj).1
      have hmul:j*sz'+sz'≤xs.length*sz':=by rw[← Nat.succ_mul];exact k2v _ hjl
      rw[k0v,k1z,k2s (by omega)]
      simp only[Option.map_some,Option.getD_some]
      have e1:(j*sz'+i) / sz'=j:=by rw[Nat.mul_comm,Nat.mul_add_div h0,Nat.div_eq_of_lt hi];simp
      have e2:(j*sz'+i) % sz'=i:=by rw[Nat.add_comm,Nat.add_mul_mod_self_right,Nat.mod_eq_of_lt hi]
      rw[e1,e2]
      exact hr j e i u hj hu
     ·simp only[List.getElem?_map,Option.map_eq_some_iff]at hu
      obtain⟨k',hk',rfl⟩:=hu
      obtain⟨hlt,he⟩:=k0t.1 hk'
      simp at hlt he;subst he
      have hjl:k / sz'<xs.length:=by rw[Nat.div_lt_iff_lt_mul h0];exact hlt
      have:=(hcell (k / sz') _ (k0w hjl)).2 (k % sz') (Nat.mod_lt _ h0)
      rw[Nat.add_assoc,Nat.div_add_mod' k sz']at this
      rw[Addr.add_mid];exact this
  ·exact absurd h (by simp)
 ·rename_i b sz' off len
  split at h
  ·rename_i t sz'' xs hb
   split at h
   ·rename_i hc
    simp only[Bool.and_eq_true,beq_iff_eq]at hc
    obtain⟨⟨c1,c2⟩,c3⟩:=hc
    subst c1
    subst c2
    have c3:=Nat.le_of_ble_eq_true c3
    obtain rfl:=k0x h
    have hylen:((xs.drop off).take len).length=len:=by simp;omega
    cases hx with
    |msl _ _ _ _ B c hB hcc hsz=>
     rcases hs.blk b _ (X4 hb rfl) with ⟨_,g1⟩|⟨B',cs,g1,g2,g3,g4,gl,g6⟩
     ·rw[g1]at hB;exact absurd hB (by simp)
     ·rw[g1]at hB;obtain rfl:=k0x hB
      have hr:=x7c (w:=w) (I:=I) g4 g6 c3
      have:=made ⟨B',off*sz'',none⟩ c _ hr (fun k u hu=>by
       obtain⟨_,hu⟩:=q4c _ _ _ _ _ hu
       rw[Addr.add_mid,cell_of_row w B' _ cs t (0,0) g2,← Array.getElem?_toList]
       exact hu)
      rw[hylen]at this ⊢
      exact this
    |msl0 _ _ _ A=>
     refine⟨[],?_,by simp,fun j e hj=>by simp at hj⟩
     rw[hylen];exact y1m hk A 0 w
   ·exact absurd h (by simp)
  ·exact absurd h (by simp)
 ·obtain rfl:=k0x h
  have:=Y8 hx
  subst this
  exact⟨[],y1m hk none 0 w,by simp,fun j e hj=>by simp at hj⟩
 ·exact absurd h (by simp)
theorem SimH.kill (hs:SimH w I ι H)(b:Nat):SimH w I ι (H.set b .dead)∧Ex H.length w I ι H w I ι (H.set b .dead):=by
 have hlive:∀ c,live (H.set b .dead) c→live H c:=fun c hc=>by
  obtain⟨k,hk,hl⟩:=hc
  by_cases e:c=b
  ·subst e
   rw[List.getElem?_set]at hk
   simp at hk
   obtain⟨_,rfl⟩:=hk
   simp[ABlk.live]at hl
  ·rw[k3z (by omega)]at hk
   exact⟨k,hk,hl⟩
 refine⟨⟨fun c k hk=>?_,fun c c' B hc hc'=>hs.inj c c' B (hlive c hc) (hlive c' hc'),hs.Ilt,fun c hc=>hs.dom c (by simpa using hc),hs.rng⟩,⟨⟨rfl,rfl,rfl,k1v _,Shape.refl w,fun _ h=>h,fun _ _ _=>rfl,fun _ h=>.inl h,fun c B hc h=>.inr ⟨c,hlive c hc,h⟩⟩,fun _ _=>rfl,by simp⟩⟩
 by_cases e:c=b
 ·subst e
  rw[List.getElem?_set]at hk
  simp at hk
  obtain⟨_,rfl⟩:=hk
  trivial
 ·rw[k3z (by omega)]at hk
  exact hs.blk c k hk
theorem SimH.phantom (hs:SimH w I ι H)(e:TypeId)(sz:Nat):SimH w I ι (H++[.row e sz []])∧Ex H.length w I ι H w I ι (H++[.row e sz []]):=by
 have hn:ι H.length=none:=hs.dom _ (k1v _)
 refine⟨⟨fun b k hb=>?_,fun b b' B hb hb' h1 h2=>?_,hs.Ilt,fun b hb=>hs.dom b (by simp at hb;omega),hs.rng⟩,⟨⟨rfl,rfl,rfl,k1v _,Shape.refl w,fun _ h=>h,fun _ _ _=>rfl,fun _ h=>.inl h,fun b B hb h=>?_⟩,fun _ _=>rfl,by simp⟩⟩
 ·rcases Nat.lt_or_ge b H.length with hlt|hge
  ·rw[k0s hlt]at hb;exact hs.blk b k hb
  ·have hbl:b=H.length:=by
    have:=(k0t.1 hb).1
    simp only[List.length_append,List.length_cons,List.length_nil]at this
    omega
   subst hbl
   rw[J9]at hb
   obtain rfl:=k0x hb
   exact .inl ⟨rfl,hn⟩
 ·rcases q2i hb with hb|rfl
  ·rcases q2i hb' with hb'|rfl
   ·exact hs.inj b b' B hb hb' h1 h2
   ·rw[hn]at h2;exact absurd h2 (by simp)
  ·rw[hn]at h1;exact absurd h1 (by simp)
 ·rcases q2i hb with hb|rfl
  ·exact .inr ⟨b,hb,h⟩
  ·rw[hn]at h;exact absurd h (by simp)
theorem Wrote.moved {w':World}{b B:Nat}{t:TypeId}{cs cs':Array Value}(g:Wrote w w' B)(hs:SimH w I ι H)(hb:live H b)(hι:ι b=some B)
 (h0:w.heap[B]?=some (.cells cs t (0,0))) (h1:w'.heap[B]?=some (.cells cs' t (0,0))) (hsz:cs'.size=cs.size) (k:ABlk) (hk:z8r w' I (upd ι H.length B) H.length k) :
 SimH w' I (upd ι H.length B) (H.set b .dead++[k])∧Ex H.length w I ι H w' I (upd ι H.length B) (H.set b .dead++[k]):=by
 obtain⟨s1,x1⟩:=g.sim hs hb hι h0 h1 hsz .dead trivial
 have hlen:(H.set b .dead).length=H.length:=by simp
 have hBl:B<w'.heap.size:=s1.rng b B hι
 have hold:∀ c,c<H.length→upd ι H.length B c=ι c:=fun c hc=>by unfold upd;rw[if_neg (by omega)]
 have hmono:∀ c C,ι c=some C→upd ι H.length B c=some C:=fun c C hc=>by
  rw[hold c];exact hc
  rcases Nat.lt_or_ge c H.length with h|h
  ·exact h
  ·rw[hs.dom c h]at hc;exact absurd hc (by simp)
 have hnl:∀ c,live (H.set b .dead) c→c≠b:=fun c hc e=>by
  subst e
  obtain⟨k',hk',hl⟩:=hc
  rw[k2y (J6 hb)]at hk'
  obtain rfl:=k0x hk'
  simp[ABlk.live]at hl
 have hne:∀ c,live (H.set b .dead) c→ι c≠some B:=fun c hc e=>hnl c hc (hs.inj c b B (q2r hc hb) hb e hι)
 have hnew:upd ι H.length B H.length=some B:=by simp[upd]
 have hsh:Shape w' w':=Shape.refl _
 constructor
 ·refine⟨fun c kc hc=>?_,fun c c' C hc hc' h2 h3=>?_,s1.Ilt,fun c hc=>?_,fun c C hc=>?_⟩
  ·rcases Nat.lt_or_ge c H.length with hlt|hge
   ·rw[k0s (by omega)]at hc
    have h2:=s1.blk c kc hc
    cases kc with
    |dead=>trivial
    |cells t l=>
     obtain⟨C,ds,g1,g2,g3,g4,g5⟩:=h2
     exact⟨C,ds,hmono c C g1,g2,g3,g4,fun i u hu=>(g5 i u hu).move (fun _ _=>rfl) (fun _ h=>h) hmono hsh⟩
    |lp q st pe l=>
     obtain⟨C,ds,g1,g2,g3,g4,g5⟩:=h2
     exact⟨C,ds,hmono c C g1,g2,g3,g4,fun i u hu=>(g5 i u hu).move (fun _ _=>rfl) (fun _ h=>h) hmono hsh⟩
    |row t sz xs=>
     rcases h2 with ⟨g1,g2⟩|⟨C,ds,g1,g2⟩
     ·exact .inl ⟨g1,by rw[hold c hlt];exact g2⟩
     ·exact .inr ⟨C,ds,hmono c C g1,g2⟩
    |obj o=>
     obtain⟨g0,C,g1,g2,g3⟩:=h2
     exact⟨g0,C,hmono c C g1,g2,g3⟩
   ·have hcl:c=H.length:=by
     have:=(k0t.1 hc).1
     simp only[List.length_append,List.length_cons,List.length_nil,hlen]at this
     omega
    subst hcl
    have:(H.set b .dead++[k])[H.length]?=some k:=by
     have:=J9 (H.set b .dead) k
     rw[hlen]at this;exact this
    rw[this]at hc
    obtain rfl:=k0x hc
    exact hk
  ·have e1:∀ c,live (H.set b .dead++[k]) c→live (H.set b .dead) c∨c=H.length:=fun c hc=>by
    have:=q2i hc;rw[hlen]at this;exact this
   rcases e1 c hc with hc|rfl <;> rcases e1 c' hc' with hc'|rfl
   ·rw[hold c (by have:=J6 hc;omega)]at h2;rw[hold c' (by have:=J6 hc';omega)]at h3
    exact s1.inj c c' C hc hc' h2 h3
   ·rw[hold c (by have:=J6 hc;omega)]at h2;rw[hnew]at h3
    obtain rfl:=k0x h3
    exact absurd h2 (hne c hc)
   ·rw[hold c' (by have:=J6 hc';omega)]at h3;rw[hnew]at h2
    obtain rfl:=k0x h2
    exact absurd h3 (hne c' hc')
   ·rfl
  ·simp only[List.length_append,List.length_cons,List.length_nil,hlen]at hc
   unfold upd;rw[if_neg (by omega)];exact hs.dom c (by omega)
  ·unfold upd at hc
   split at hc
   ·obtain rfl:=k0x hc;exact hBl
   ·exact s1.rng c C hc
 ·have x:=x1.ext
  refine⟨⟨x.os,x.tape,x.output,x.size,x.shape,x.Isub,x.frame,x.Inew,fun c C hc h2=>?_⟩,fun c hc=>hold c hc,by simp⟩
  have e1:=q2i hc
  rw[hlen]at e1
  rcases e1 with hc|rfl
  ·rw[hold c (by have:=J6 hc;omega)]at h2;exact x.own c C hc h2
  ·rw[hnew]at h2;obtain rfl:=k0x h2;exact .inr ⟨b,hb,hι⟩
theorem y1n {b B:Nat}{e:TypeId}{sz:Nat}{xs:List (List PV)}{vs:List Value}{cs:Array Value}(hι:ι b=some B)(hh:w.heap[B]?=some (.cells cs e (0,0)))(hnI:¬ I B)(hr:RowVals w I sz xs vs)
 (hl:xs.length≤140737488355328) (hle:xs.length*sz≤cs.size) (hcs:∀ k,k<xs.length*sz→cs.getD k undef=vs.getD k undef):z8r w I ι b (.row e sz xs):=by
 refine .inr ⟨B,cs,hι,hh,hnI,hle,hl,fun j el hj=>?_⟩
 obtain⟨r1,r2⟩:=hr.2 j el hj
 refine⟨r1,fun i u hu=>?_⟩
 have hi:i<sz:=by rw[← r1];exact(k0t.1 hu).1
 have hmul:j*sz+sz≤xs.length*sz:=by rw[← Nat.succ_mul];exact k2v _ (k0t.1 hj).1
 rw[hcs _ (by omega)]
 exact r2 i u hu
end
end Go.Proofs.YtkjklhcfgbaceaaGreat.AL
namespace Go.Proofs.YtkjklhcfgbaceaaGreat.AL
open Go Go.RowKit
section
variable {P:Program} {T:J0} {w:World} {I:Nat→Prop} {ι:Nat→Option Nat} {H:List ABlk} {K:AV→List ABlk→Prop} {o:Oper} {a:Act} {next:Act→World→Prop} {Q:Exit→Act→World→Prop} {ev:Operand→AV}
theorem y5w (us zs:List Value)(k:Nat)(h:k<us.length):(us.toArray++zs.toArray).getD k undef=us.getD k undef:=by
 rw[U6,k0v,k0v]
 simp only[Array.toList_append]
 rw[k0s (by simpa using h)]
theorem w6g {t e:TypeId}{ie:TypeInfo}{ze:Value}(ht:P.underlying t=some (.slice e))(g1:P.info? e=some ie)(g3:ie.zero=some ze)(hs:SimH w I ι H){xs ys:List (List PV)}{us vs:List Value}{A:Option Addr}{c:Nat}{x:Value}{ty:TypeId}
 (hx:RowVals w I ie.size xs us) (hy:RowVals w I ie.size ys vs) (hzs:ze.cells.size=ie.size) (hold:(Builtin.firstCells ie.size xs.length (.slice A xs.length c)).run P w.drew=.ok us.toArray w.drew) (hsrc:Src P ie.size t x ys.length vs w)
 (hg:c<xs.length+ys.length) (hb:(xs.length+ys.length)*ie.bytes≤140737488355328) (hl:xs.length+ys.length≤140737488355328) {H0:List ABlk} (hx0:Ex H.length w I ι H0 w I ι H) (hlen0:H0.length=H.length) :
 ∃ v' w' ι',(Builtin.append_ #[t,t] ty #[.slice A xs.length c,x]).run P w=.ok v' w'∧ARep w' I ι' (.msl H.length ie.size 0 (xs++ys).length) v'∧SimH w' I ι' (H++[.row e ie.size (xs++ys)])∧Ex H0.length w I ι H0 w' I ι' (H++[.row e ie.size (xs++ys)]):=by
 have hrun:=run_append_grow_src (P:=P) w t t ty e ie ze ht g1 g3 A xs.length c us hold x ys.length vs hsrc hg (by omega) (growslice_fits hg hb)
 let cs:Array Value:=(us++vs).toArray++Builtin.zeroCells ze.cells (grownCap w (xs.length+ys.length) c e - (xs.length+ys.length))
 have g:=q7f w (.cells cs e)
 have hv:=hx.append hy
 have hcs:(xs++ys).length*ie.size≤cs.size:=by
  have:=hv.1
  simp only[cs,Array.size_append,List.size_toArray]
  omega
 have key:=g.sim hs (.row e ie.size (xs++ys)) (y1n (vs:=us++vs) (cs:=cs) (by simp[upd]) g.new (fun hI=>by have:=hs.Ilt _ hI;omega) (hv.move (fun B hB=>g.old B (hs.Ilt B hB)) (fun _ h=>h)) (by simpa using hl) hcs (fun k hk=>by
  have hk':k<(us++vs).length:=by rw[hv.1];exact hk
  have:=y5w (us++vs) (Builtin.zeroCells ze.cells (grownCap w (xs.length+ys.length) c e - (xs.length+ys.length))).toList k hk'
  simpa [cs] using this))
 have hcap:=grownCap_ge w (xs.length+ys.length) c e
 refine⟨_,_,_,hrun,?_,key.1,?_⟩
 ·have e0:(⟨w.heap.size,0,none⟩:Addr)=⟨w.heap.size,0*ie.size,none⟩:=by simp
  rw[e0,k1y]
  refine .msl _ _ _ _ _ _ (by simp[upd]) hcap ⟨cs,e,(0,0),g.new,?_⟩
  have:=hv.1
  simp only[cs,Array.size_append,List.size_toArray,size_zeroCells,hzs,this,List.length_append,← Nat.add_mul]
  exact k2v _ (by omega)
 ·rw[hlen0];exact hx0.trans key.2
theorem q3e {sz n:Nat}{A:Option Addr}{c:Nat}{us:List Value}(hl:us.length=n*sz)(h:n=0∨∃ ad,A=some ad∧∀ j u,us[j]?=some u→w.cell? (ad.add j)=some u) :
 (Builtin.firstCells sz n (.slice A n c)).run P w.drew=.ok us.toArray w.drew:=by
 rcases h with h|⟨ad,rfl,h⟩
 ·subst h
  have:us=[]:=List.length_eq_zero_iff.1 (by rw[hl];simp)
  subst this
  cases A <;> simp[Builtin.firstCells,loadCells,loadCellsFrom]
 ·exact run_firstCells_some w.drew sz n ad n c us hl (by simpa using h)
theorem x0z {t e:TypeId}{ei:TI}{ie:TypeInfo}{de:TypeDesc}{ze:Value}{s x:AV}{vs vx:Value}{ty:TypeId}(ht:P.underlying t=some (.slice e))(g1:P.info? e=some ie)(_g2:P.underlying e=some de)(g3:ie.zero=some ze)
 (g5:ei.size=ie.size) (g6:ei.bytes=ie.bytes) (hzs:ze.cells.size=ie.size) (h0:0<ei.size) (_hb0:0<ei.bytes) (hs:SimH w I ι H) (hvs:ARep w I ι s vs) (hvx:ARep w I ι x vx) (h:z5a H e ei s x K) :
 ∃ v' w' I' ι' r H',(Builtin.append_ #[t,t] ty #[vs,vx]).run P w=.ok v' w'∧K r H'∧ARep w' I' ι' r v'∧SimH w' I' ι' H'∧Ex H.length w I ι H w' I' ι' H':=by
 unfold z5a at h
 obtain⟨ys,hys,h⟩:=W9 h
 rw[g5]at h hys h0
 rw[g6]at h
 obtain⟨news,hsrc,hrv⟩:=y5v ht h0 hs hys hvx
 have fromNil:∀ (H1:List ABlk) (A:Option Addr),SimH w I ι H1→Ex H.length w I ι H w I ι H1→H1.length=H.length→ys.length*ie.bytes≤140737488355328→ys.length≤140737488355328 →
  K (.msl H.length ie.size 0 ys.length) (H1++[.row e ie.size ys])→∃ v' w' I' ι' r H',(Builtin.append_ #[t,t] ty #[.slice A 0 0,vx]).run P w=.ok v' w'∧K r H'∧ARep w' I' ι' r v'∧SimH w' I' ι' H'∧Ex H.length w I ι H w' I' ι' H':=by
  intro H1 A hs1 hx1 hl1 hb hl hK
  rcases Nat.eq_zero_or_pos ys.length with hn|hn
  ·have hyn:ys=[]:=List.length_eq_zero_iff.1 hn
   subst hyn
   have hn0:news=[]:=List.length_eq_zero_iff.1 (by rw[hrv.1];simp)
   subst hn0
   have hrun:=run_append_nothing (P:=P) w t t ty e ie ht g1 A 0 0 (k1v _) vx hsrc
   have k:=hs1.phantom e ie.size
   have hx2:=hx1.trans (k.2.less (by omega))
   refine⟨_,_,I,ι,_,_,hrun,hK,.msl0 _ _ _ A,k.1,hx2⟩
  ·have hxs:RowVals w I ie.size [] []:=⟨by simp,fun j e hj=>by simp at hj⟩
   have:=w6g (ty:=ty) (xs:=[]) (ys:=ys) (us:=[]) (c:=0) (A:=A) ht g1 g3 hs1 hxs hrv hzs (q3e (n:=0) (by simp) (.inl rfl)) hsrc (by simp;omega) (by simpa using hb) (by simpa using hl) (H0:=H) (by rw[hl1];exact hx1) hl1.symm
   obtain⟨v',w',ι',r1,r2,r3,r4⟩:=this
   rw[hl1]at r2
   exact⟨v',w',I,ι',_,_,r1,hK,r2,r3,r4⟩
 split at h
 ·obtain⟨⟨b1,b2⟩,hK⟩:=h
  have:=Y8 hvs
  subst this
  exact fromNil H none hs (Ex.refl (k1v _)) rfl b1 b2 hK
 ·rename_i b sz off len _
  split at h
  ·rename_i e' sz' xs hb
   replace h:=J3 h
   obtain⟨c1,hlen,⟨b1,b2⟩,hK⟩:=h
   simp only[Bool.and_eq_true,beq_iff_eq]at c1
   obtain⟨⟨⟨c1,c2⟩,c3⟩,c4⟩:=c1
   subst c1 c2 c3 c4
   have hbk:=X4 hb rfl
   have hlive:live H b:=⟨_,hbk,rfl⟩
   have kk:=hs.kill b
   cases hvs with
   |msl0 _ _ _ A=>
    have hxn:xs=[]:=List.length_eq_zero_iff.1 hlen
    subst hxn
    simp only[List.nil_append]at hK
    exact fromNil (H.set b .dead) A kk.1 kk.2 (by simp) (by simpa using b1) (by simpa using b2) hK
   |msl _ _ _ _ B c hB hc hsz=>
    rcases hs.blk b _ hbk with ⟨_,q1⟩|⟨B',cs,q1,q2,q3,q4,ql,q6⟩
    ·rw[q1]at hB;exact absurd hB (by simp)
    ·rw[q1]at hB;obtain rfl:=k0x hB
     obtain⟨cs',t',fr',s1,s2⟩:=hsz
     rw[q2]at s1
     injection s1 with s1;injection s1 with s1 s1' s1''
     subst s1 s1' s1''
     have hxv:=x7c (w:=w) (I:=I) q4 q6 (off:=0) (len:=xs.length) (by omega)
     have e1:(xs.drop 0).take xs.length=xs:=by simp
     rw[e1,Nat.zero_mul,List.drop_zero]at hxv
     have hA:(⟨B',0*ie.size,none⟩:Addr)=⟨B',0,none⟩:=by simp
     subst hlen
     rw[hA]
     rcases Nat.lt_or_ge c (xs.length+ys.length) with hg|hg
     ·have:=w6g (xs:=xs) (ys:=ys) (c:=c) (A:=some ⟨B',0,none⟩) (ty:=ty) ht g1 g3 kk.1 hxv hrv hzs (q3e hxv.1 (.inr ⟨_,rfl,fun j u hu=>by
       rw[Addr.add_mid,Nat.zero_add,cell_of_row w B' j cs e' (0,0) q2,← Array.getElem?_toList]
       rw[List.getElem?_take_of_lt (by have:=(k0t.1 hu).1;simp at this;omega)]at hu
       exact hu⟩)) hsrc hg b1 b2 (H0:=H) (by simpa using kk.2) (by simp)
      obtain⟨v',w',ι',r1,r2,r3,r4⟩:=this
      rw[List.length_set]at r2
      exact⟨v',w',I,ι',_,_,r1,hK,r2,r3,r4⟩
     ·have hnl:=hrv.1
      have hmul:(xs.length+ys.length)*ie.size≤c*ie.size:=k2v _ hg
      rw[Nat.add_mul]at hmul
      rw[Nat.zero_add]at s2
      have hth:=q2c (w:=w) (o:=xs.length*ie.size) (n:=news.length) q2 (by omega)
      have hrun:=run_append_room_src (P:=P) w t t ty e' ie ht g1 B' 0 xs.length c vx ys.length news hsrc hg (fun j hj=>by simpa using (hth j hj).1) (fun j hj=>by simpa using (hth j hj).2)
      rw[Nat.zero_add]at hrun
      have hw:=q4a w B' e' news (xs.length*ie.size) cs q2 (by omega)
      have hle:xs.length*ie.size+news.length≤cs.toList.length:=by simp;omega
      have hsz':(V8 cs.toList (xs.length*ie.size) news).toArray.size=cs.size:=by simp[V7 hle]
      have hW:=J7 w B' news (xs.length*ie.size)
      have hv:=hxv.append hrv
      have hI:∀ C,I C→(w.setCells B' (xs.length*ie.size) news).heap[C]?=w.heap[C]?:=fun C hC=>hW.old C (fun e=>q3 (e ▸ hC))
      have key:=hW.moved hs hlive q1 q2 hw hsz' (.row e' ie.size (xs++ys)) (y1n (vs:=cs.toList.take (xs.length*ie.size)++news) (by simp[upd]) hw q3 (hv.move hI (fun _ h=>h)) (by simpa using b2)
       (by rw[hsz',k1y,Nat.add_mul];omega) (fun k hk=>by
        rw[k1y,Nat.add_mul]at hk
        rw[q4t _ _ _ _ hle]
        rcases Nat.lt_or_ge k (xs.length*ie.size) with h1|h1
        ·rw[if_neg (by omega),k0v,k0v,k0s (by simp;omega),List.getElem?_take_of_lt h1]
        ·rw[if_pos (by omega),k0v,k0v,k1q (by simp;omega)]
         simp only[List.length_take,Array.length_toList]
         rw[Nat.min_eq_left (by omega)]))
      refine⟨_,_,I,_,_,_,hrun,hK,?_,key.1,key.2⟩
      have hA':(⟨B',0,none⟩:Addr)=⟨B',0*ie.size,none⟩:=by simp
      rw[hA',k1y]
      exact .msl _ _ _ _ _ _ (by simp[upd]) hg ⟨_,e',(0,0),hw,by rw[hsz',Nat.zero_add];exact s2⟩
  ·exact h.elim
 ·exact h.elim
def CVals (w:World)(I:Nat→Prop)(ι:Nat→Option Nat)(us:List AV)(vs:List Value):Prop:=
 vs.length=us.length∧(∀ v∈vs,v.oneCell'=true)∧∀ k u,us[k]?=some u→ARep w I ι u (vs.getD k undef)
theorem CVals.append {xs ys:List AV}{us vs:List Value}(h:CVals w I ι xs us)(k:CVals w I ι ys vs):CVals w I ι (xs++ys) (us++vs):=by
 refine⟨by rw[k1y,k1y,h.1,k.1],fun v hv=>(List.mem_append.mp hv).elim (h.2.1 v) (k.2.1 v),fun j u hu=>?_⟩
 rcases Nat.lt_or_ge j xs.length with hlt|hge
 ·rw[k0s hlt]at hu
  rw[k0v,k0s (by rw[h.1];exact hlt),← k0v]
  exact h.2.2 j u hu
 ·rw[k1q hge]at hu
  rw[k0v,k1q (by rw[h.1];exact hge),h.1,← k0v]
  exact k.2.2 _ u hu
theorem CVals.move {w':World}{I':Nat→Prop}{ι':Nat→Option Nat}{us:List AV}{vs:List Value}(hw:∀ B,I B→w'.heap[B]?=w.heap[B]?)(hI:∀ B,I B→I' B)(hι:∀ b B,ι b=some B→ι' b=some B)(hs:Shape w w')(h:CVals w I ι us vs):CVals w' I' ι' us vs:=
 ⟨h.1,h.2.1,fun k u hu=>(h.2.2 k u hu).move hw hI hι hs⟩
theorem y5x {cs:Array Value}{us:List AV}(h1:us.length≤cs.size)(ho:us.all AV.one=true)(h:∀ i u,us[i]?=some u→ARep w I ι u (cs.getD i undef)):CVals w I ι us (cs.toList.take us.length):=by
 have hg:∀ k u,us[k]?=some u→ARep w I ι u ((cs.toList.take us.length).getD k undef):=fun k u hu=>by
  have hk:=(k0t.1 hu).1
  rw[k0v,List.getElem?_take_of_lt hk,Array.getElem?_toList,← k2q]
  exact h k u hu
 have hl:(cs.toList.take us.length).length=us.length:=by
  have:cs.toList.length=cs.size:=Array.length_toList
  rw[k2u];omega
 refine⟨hl,fun v hv=>?_,hg⟩
 obtain⟨k,hk,rfl⟩:=List.getElem_of_mem hv
 have hu:=k0w (l:=us) (i:=k) (by omega)
 have:=hg k _ hu
 rw[k0v,k0w hk]at this
 exact w2f this (List.all_eq_true.mp ho _ (k1w _))
theorem x7d (hs:SimH w I ι H)(B:Nat):∀ b C,ι b=some C→upd ι H.length B b=some C:=fun b C hb=>by
 rcases Nat.lt_or_ge b H.length with h|h
 ·unfold upd;rw[if_neg (by omega)];exact hb
 ·rw[hs.dom b h]at hb;exact absurd hb (by simp)
theorem x7e {t e:TypeId}{ie:TypeInfo}{ze:Value}(ht:P.underlying t=some (.slice e))(g1:P.info? e=some ie)(g3:ie.zero=some ze)(h1:ie.size=1)(hs:SimH w I ι H){xs ys:List AV}{us vs:List Value}{A:Option Addr}{c:Nat}{x:Value}{ty:TypeId}
 (hx:CVals w I ι xs us) (hy:CVals w I ι ys vs) (hzs:ze.cells.size=ie.size) (hold:(Builtin.firstCells ie.size xs.length (.slice A xs.length c)).run P w.drew=.ok us.toArray w.drew) (hsrc:Src P ie.size t x ys.length vs w)
 (hg:c<xs.length+ys.length) (hb:(xs.length+ys.length)*ie.bytes≤140737488355328) (hl:xs.length+ys.length≤140737488355328) {H0:List ABlk} (hx0:Ex H.length w I ι H0 w I ι H) (hlen0:H0.length=H.length) :
 ∃ v' w' ι',(Builtin.append_ #[t,t] ty #[.slice A xs.length c,x]).run P w=.ok v' w'∧ARep w' I ι' (.msl H.length 1 0 (xs.length+ys.length)) v'∧SimH w' I ι' (H++[.cells e (xs++ys)])∧Ex H0.length w I ι H0 w' I ι' (H++[.cells e (xs++ys)]):=by
 have hrun:=run_append_grow_src (P:=P) w t t ty e ie ze ht g1 g3 A xs.length c us hold x ys.length vs hsrc hg (by omega) (growslice_fits hg hb)
 let cs:Array Value:=(us++vs).toArray++Builtin.zeroCells ze.cells (grownCap w (xs.length+ys.length) c e - (xs.length+ys.length))
 have g:=q7f w (.cells cs e)
 have hv:=hx.append hy
 have hcs:(xs++ys).length≤cs.size:=by
  have:=hv.1
  simp only[cs,Array.size_append,List.size_toArray]
  omega
 have hv':=hv.move (fun B hB=>g.old B (hs.Ilt B hB)) (fun _ h=>h) (x7d hs w.heap.size) g.shape
 have key:=g.sim hs (.cells e (xs++ys)) ⟨w.heap.size,cs,by simp[upd],g.new,fun hI=>by have:=hs.Ilt _ hI;omega,hcs,fun k u hu=>by
  have hk:=(k0t.1 hu).1
  have hk':k<(us++vs).length:=by rw[hv.1];exact hk
  have:=y5w (us++vs) (Builtin.zeroCells ze.cells (grownCap w (xs.length+ys.length) c e - (xs.length+ys.length))).toList k hk'
  have h2:=hv'.2.2 k u hu
  rw[← this]at h2
  simpa [cs] using h2⟩
 have hcap:=grownCap_ge w (xs.length+ys.length) c e
 refine⟨_,_,_,hrun,?_,key.1,?_⟩
 ·have e0:(⟨w.heap.size,0,none⟩:Addr)=⟨w.heap.size,0*1,none⟩:=by simp
  rw[e0]
  refine .msl _ _ _ _ _ _ (by simp[upd]) hcap ⟨cs,e,(0,0),g.new,?_⟩
  have:=hv.1
  rw[k1y]at this
  simp only[cs,Array.size_append,List.size_toArray,size_zeroCells,hzs,h1]
  have h5:=k1y (as:=us) (bs:=vs)
  have h6:=hx.1
  have h7:=hy.1
  omega
 ·rw[hlen0];exact hx0.trans key.2
theorem w2k {t e:TypeId}{ei:TI}{ie:TypeInfo}{de:TypeDesc}{ze:Value}{s x:AV}{vs vx:Value}{ty:TypeId}(ht:P.underlying t=some (.slice e))(g1:P.info? e=some ie)(g2:P.underlying e=some de)(g3:ie.zero=some ze)
 (g5:ei.size=ie.size) (g6:ei.bytes=ie.bytes) (hzs:ze.cells.size=ie.size) (h0:0<ei.size) (hb0:0<ei.bytes) (hs:SimH w I ι H) (hvs:ARep w I ι s vs) (hvx:ARep w I ι x vx) (h:z8u H e ei s x K) :
 ∃ v' w' I' ι' r H',(Builtin.append_ #[t,t] ty #[vs,vx]).run P w=.ok v' w'∧K r H'∧ARep w' I' ι' r v'∧SimH w' I' ι' H'∧Ex H.length w I ι H w' I' ι' H':=by
 unfold z8u at h
 split at h
 ·rename_i b sz off len
  split at h
  ·rename_i tb us hbd
   replace h:=J3 h
   obtain⟨c1,hC⟩:=h
   simp only[Bool.and_eq_true,beq_iff_eq]at c1
   obtain⟨⟨⟨⟨⟨c1,c2⟩,c3⟩,c4⟩,c5⟩,c6⟩:=c1
   have c5:0<len:=Nat.le_of_ble_eq_true c5
   have h1:ie.size=1:=g5.symm.trans c1
   subst c2 c3
   have hbk:=X4 hbd rfl
   obtain⟨B,cs,q1,q2,q3,q4,q5⟩:=hs.blk b _ hbk
   have hnews:=y5x q4 c6 q5
   obtain⟨c,hvx2⟩:∃ c,vx=.slice (some ⟨B,0,none⟩) us.length c:=by
    cases hvx with
    |msl _ _ _ _ B' c hB hc hsz=>
     rw[q1]at hB;obtain rfl:=k0x hB
     exact⟨c,by rw[Nat.zero_mul,c4]⟩
    |msl0=>omega
   subst hvx2
   have hsrc:Src P ie.size t (.slice (some ⟨B,0,none⟩) us.length c) us.length (cs.toList.take us.length) w:=by
    refine Src.ofSlice w ht ⟨B,0,none⟩ us.length c _ (by rw[hnews.1,h1,Nat.mul_one]) (fun j u hu=>?_) hnews.2.1
    rw[Addr.add_mid,Nat.zero_add,cell_of_row w B j cs tb (0,0) q2,← Array.getElem?_toList]
    rw[List.getElem?_take_of_lt (by have:=(k0t.1 hu).1;rw[k2u]at this;omega)]at hu
    exact hu
   generalize cs.toList.take us.length=news at hnews hsrc
   generalize Value.slice (some ⟨B,0,none⟩) us.length c=vx at hsrc hvx
   unfold x3q at hC
   rw[g6]at hC
   split at hC
   ·obtain⟨⟨b1,b2⟩,hK⟩:=hC
    have:=Y8 hvs
    subst this
    have:=x7e (ty:=ty) (xs:=[]) (ys:=us) (us:=[]) (c:=0) (A:=none) ht g1 g3 h1 hs ⟨rfl,fun v hv=>(List.not_mem_nil hv).elim,fun k u hu=>by simp at hu⟩ hnews hzs (q3e (n:=0) (by simp) (.inl rfl)) hsrc (by simp;omega) (by simpa using b1) (by simpa using b2) (H0:=H) (Ex.refl (k1v _)) rfl
    obtain⟨v',w',ι',r1,r2,r3,r4⟩:=this
    rw[List.length_nil,Nat.zero_add]at r2
    exact⟨v',w',I,ι',_,_,r1,hK,r2,r3,r4⟩
   ·rename_i b2 sz off len2
    split at hC
    ·rename_i e' xs hb
     replace hC:=J3 hC
     obtain⟨d1,⟨b1,b2'⟩,hK⟩:=hC
     simp only[Bool.and_eq_true,beq_iff_eq]at d1
     obtain⟨⟨⟨⟨d1,d2⟩,d3⟩,d4⟩,d5⟩:=d1
     subst d1 d2 d3
     have hbk2:=X4 hb rfl
     have hlive:live H b2:=⟨_,hbk2,rfl⟩
     have kk:=hs.kill b2
     obtain⟨B2,cs2,p1,p2,p3,p4,p5⟩:=hs.blk b2 _ hbk2
     have hxv:=y5x p4 d5 p5
     have hcl:cs2.toList.length=cs2.size:=Array.length_toList
     have fin:∀ (A:Option Addr) (c2:Nat),vs=.slice A xs.length c2→(Builtin.firstCells ie.size xs.length (.slice A xs.length c2)).run P w.drew=.ok (cs2.toList.take xs.length).toArray w.drew→c2<xs.length+us.length →
      ∃ v' w' I' ι' r H',(Builtin.append_ #[t,t] ty #[vs,vx]).run P w=.ok v' w'∧K r H'∧ARep w' I' ι' r v'∧SimH w' I' ι' H'∧Ex H.length w I ι H w' I' ι' H':=fun A c2 hv hold hg=>by
      have:=x7e (ty:=ty) (xs:=xs) (ys:=us) (c:=c2) (A:=A) ht g1 g3 h1 kk.1 hxv hnews hzs hold hsrc hg b1 b2' (H0:=H) (by simpa using kk.2) (by simp)
      obtain⟨v',w',ι',r1,r2,r3,r4⟩:=this
      rw[List.length_set]at r2
      rw[hv]
      exact⟨v',w',I,ι',_,_,r1,hK,r2,r3,r4⟩
     cases hvs with
     |msl0 _ _ _ A=>
      have hx0:xs=[]:=List.length_eq_zero_iff.1 d4
      exact fin A 0 (by rw[d4]) (q3e (by rw[k2u,h1];omega) (.inl (by omega))) (by omega)
     |msl _ _ _ _ B' c2 hB hc hsz=>
      rw[p1]at hB;obtain rfl:=k0x hB
      rw[Nat.zero_mul,← d4]at *
      obtain⟨cs',t',fr',s1,s2⟩:=hsz
      rw[p2]at s1
      injection s1 with s1;injection s1 with s1 s1' s1''
      subst s1 s1' s1''
      have hl1:=hxv.1
      rcases Nat.lt_or_ge c2 (xs.length+us.length) with hg|hg
      ·refine fin _ c2 rfl (q3e (by rw[hl1,h1,Nat.mul_one]) (.inr ⟨_,rfl,fun j u hu=>?_⟩)) hg
       rw[Addr.add_mid,Nat.zero_add,cell_of_row w B2 j cs2 _ (0,0) p2,← Array.getElem?_toList]
       rw[List.getElem?_take_of_lt (by have:=(k0t.1 hu).1;rw[k2u]at this;omega)]at hu
       exact hu
      ·have hnl:=hnews.1
       have hth:=q2c (w:=w) (o:=xs.length*ie.size) (n:=news.length) p2 (by rw[h1];omega)
       have hrun:=run_append_room_src (P:=P) w t t ty _ ie ht g1 B2 0 xs.length c2 vx us.length news hsrc hg (fun j hj=>by simpa using (hth j hj).1) (fun j hj=>by simpa using (hth j hj).2)
       rw[Nat.zero_add]at hrun
       have hw:=q4a w B2 _ news (xs.length*ie.size) cs2 p2 (by rw[h1];omega)
       have hle:xs.length*ie.size+news.length≤cs2.toList.length:=by rw[h1];omega
       have hsz':(V8 cs2.toList (xs.length*ie.size) news).toArray.size=cs2.size:=by simp[V7 hle]
       have hW:=J7 w B2 news (xs.length*ie.size)
       have hI:∀ C,I C→(w.setCells B2 (xs.length*ie.size) news).heap[C]?=w.heap[C]?:=fun C hC=>hW.old C (fun e=>p3 (e ▸ hC))
       have hsh:Shape w (w.setCells B2 (xs.length*ie.size) news):=fun C cs0 t0 fr h=>by
        by_cases e:C=B2
        ·subst e
         rw[p2]at h
         injection h with h;injection h with h1' h2' h3'
         subst h1' h2' h3'
         exact⟨_,hw,hsz'⟩
        ·exact⟨cs0,by rw[hW.old C e];exact h,rfl⟩
       have hv':=(hxv.append hnews).move hI (fun _ h=>h) (x7d hs B2) hsh
       have key:=hW.moved hs hlive p1 p2 hw hsz' (.cells _ (xs++us)) ⟨B2,_,by simp[upd],hw,p3,by rw[hsz',k1y];omega,fun k u hu=>by
        have h2:=hv'.2.2 k u hu
        have hk:=(k0t.1 hu).1
        rw[k1y]at hk
        rw[q4t _ _ _ _ hle]
        rcases Nat.lt_or_ge k xs.length with h3|h3
        ·rw[if_neg (by rw[h1];omega)]
         rw[k0v,k0s (by rw[hl1];exact h3),List.getElem?_take_of_lt h3,← k0v]at h2
         exact h2
        ·rw[if_pos (by rw[h1];omega)]
         rw[k0v,k1q (by rw[hl1];exact h3),hl1,← k0v]at h2
         rw[show k - xs.length*ie.size=k - xs.length by rw[h1,Nat.mul_one]]
         exact h2⟩
       refine⟨_,_,I,_,_,_,hrun,hK,?_,key.1,key.2⟩
       have hA':(⟨B2,0,none⟩:Addr)=⟨B2,0*1,none⟩:=by simp
       rw[hA']
       exact .msl _ _ _ _ _ _ (by simp[upd]) hg ⟨_,_,(0,0),hw,by rw[hsz'];omega⟩
    ·exact hC.elim
   ·exact hC.elim
  ·exact x0z ht g1 g2 g3 g5 g6 hzs h0 hb0 hs hvs hvx h
 ·exact x0z ht g1 g2 g3 g5 g6 hzs h0 hb0 hs hvs hvx h
end
end Go.Proofs.YtkjklhcfgbaceaaGreat.AL
namespace Go.Proofs.YtkjklhcfgbaceaaGreat.AL
open Go Go.RowKit
section
variable {P:Program} {T:J0} {w:World} {I:Nat→Prop} {ι:Nat→Option Nat} {H:List ABlk} {K:AV→List ABlk→Prop} {o:Oper} {a:Act} {next:Act→World→Prop} {Q:Exit→Act→World→Prop} {ev:Operand→AV}
theorem x1a {b B:Nat}{e:TypeId}{sz off:Nat}{xs ys:List (List PV)}{vs:List Value}{cs:Array Value}(hs:SimH w I ι H)(hb:H[b]?=some (.row e sz xs))(hι:ι b=some B)
 (hh:w.heap[B]?=some (.cells cs e (0,0))) (hle:xs.length*sz≤cs.size) (hl:xs.length≤140737488355328)
 (h6:∀ j e,xs[j]?=some e→e.length=sz∧∀ i u,e[i]?=some u→PRep w I u (cs.getD (j*sz+i) undef))
 (hr:RowVals w I sz ys vs) (ho:off+ys.length≤xs.length) :
 SimH (w.setCells B (off*sz) vs) I ι (H.set b (.row e sz (V8 xs off ys)))∧Ex H.length w I ι H (w.setCells B (off*sz) vs) I ι (H.set b (.row e sz (V8 xs off ys))):=by
 have hlive:live H b:=⟨_,hb,rfl⟩
 have hnI:=hs.notI hlive hι
 have hmul:(off+ys.length)*sz≤xs.length*sz:=k2v _ ho
 rw[Nat.add_mul]at hmul
 have hvl:=hr.1
 have hle':off*sz+vs.length≤cs.toList.length:=by simp;omega
 have hw:=q4a w B e vs (off*sz) cs hh (by simpa using hle')
 have hsz:(V8 cs.toList (off*sz) vs).toArray.size=cs.size:=by simp[V7 hle']
 have hW:=J7 w B vs (off*sz)
 have hI:∀ C,I C→(w.setCells B (off*sz) vs).heap[C]?=w.heap[C]?:=fun C hC=>hW.old C (fun e=>hnI (e ▸ hC))
 refine hW.sim hs hlive hι hh hw hsz _ (.inr ⟨B,_,hι,hw,hnI,by rw[hsz,V7 ho];exact hle,by rw[V7 ho];exact hl,fun j el hj=>?_⟩)
 rw[q5c ho]at hj
 split at hj
 ·rename_i hc
  obtain⟨r1,r2⟩:=hr.2 _ el hj
  refine⟨r1,fun i u hu=>?_⟩
  have hi:i<sz:=by rw[← r1];exact(k0t.1 hu).1
  have hm:(j - off)*sz+sz≤ys.length*sz:=by rw[← Nat.succ_mul];exact k2v _ (by omega)
  have hd:j*sz=off*sz+(j - off)*sz:=by rw[← Nat.add_mul];congr 1;omega
  rw[q4t _ _ _ _ hle',if_pos (by omega),show j*sz+i - off*sz=(j - off)*sz+i by omega]
  exact(r2 i u hu).move hI (fun _ h=>h)
 ·rename_i hc
  obtain⟨r1,r2⟩:=h6 j el hj
  refine⟨r1,fun i u hu=>?_⟩
  have hi:i<sz:=by rw[← r1];exact(k0t.1 hu).1
  have hne:¬ (off*sz≤j*sz+i∧j*sz+i<off*sz+vs.length):=by
   rcases Nat.lt_or_ge j off with hlt|hge
   ·have:j*sz+sz≤off*sz:=by rw[← Nat.succ_mul];exact k2v _ hlt
    omega
   ·have:(off+ys.length)*sz≤j*sz:=k2v _ (by omega)
    rw[Nat.add_mul]at this
    omega
  rw[q4t _ _ _ _ hle',if_neg hne,← U6]
  exact(r2 i u hu).move hI (fun _ h=>h)
theorem v3j {t:TypeId}{x y:Operand}(hT:TOk P T)(ho:o.op=.index t x y)(hs:SimH w I ι H)(hx:ARep w I ι (ev x) (a.eval x))(hy:ARep w I ι (ev y) (a.eval y))
 {C:CallA} (h:aop P T C ev H K (.index t x y)) (hn:Nx w I ι H K fun v w'=>next (a.put o.dst v) w'):o.wp P a w next Q:=by
 simp only[aop,opV,J8,List.map_cons,List.map_nil,on2]at h
 obtain⟨ti,hti,h⟩:=W9 h
 obtain⟨i,d,z,h1,h2,h3,h4,h5,h6,h7,h8⟩:=tok hT hti
 split at h
 ·rename_i N e he
  rw[he]at h4
  obtain rfl:=z1i h4
  obtain⟨ei,hei,h⟩:=W9 h
  obtain⟨ie,de,ze,g1,g2,g3,g4,g5,g6,g7,g8⟩:=tok hT hei
  unfold x3r at h
  split at h
  ·rename_i k n _ _ l e1 _ e3
   obtain⟨⟨b1,b2⟩,h⟩:=h
   obtain⟨c,h⟩:=J3 h
   rw[k1u]at c
   obtain⟨c1,c2⟩:=c
   have c1:=k0z c1
   rw[e1]at hy
   have hvy:=Y8 hy
   rw[e3]at hx
   generalize hv:a.eval x=v at hx
   cases hx with
   |agg l vs hn' hr=>
    rw[g4,g5]at h
    rw[g5]at c1 c2
    obtain⟨v,k1,k2⟩:=x7b (w:=w) g1 g2 hn' hr (off:=n.toNat*ie.size) c1 (by rw[g4]at c2;simpa using c2)
    refine W3 (v:=v) (w':=w) ?_ (hn.here hs h k2)
    simp[execOp,ho,hv,hvy,Instr.index,asIntOf,run_underlying h2,q0e g1,b1,b2,k1]
  ·exact h.elim
 ·rename_i he
  rw[he]at h4
  obtain rfl:=q8x h4
  unfold x3s at h
  split at h
  ·rename_i k n s e1 e2
   obtain⟨b1,h⟩:=h
   obtain⟨c,hc,h⟩:=W9 h
   rw[e1]at hy
   have hvy:=Y8 hy
   rw[e2]at hx
   have hvx:=Y8 hx
   refine W3 (v:=.int .u8 c.toNat) (w':=w) ?_ (hn.here hs h (.p (.raw _ rfl)))
   have hc':s[n.toNat]?=some c:=by
    rw[← hc]
    rcases Nat.lt_or_ge n.toNat s.size with hlt|hge
    ·have hlt':n.toNat<s.data.size:=hlt
     rw[getElem?_pos s n.toNat hlt,Array.getElem?_eq_getElem hlt'];rfl
    ·have hge':s.data.size≤n.toNat:=hge
     rw[getElem?_neg s n.toNat (by omega),Array.getElem?_eq_none hge']
   simp[execOp,ho,hvx,hvy,Instr.index,asIntOf,run_underlying h2,b1,hc']
  ·exact h.elim
 ·exact h.elim
theorem y1p {d:TypeDesc}(h:z1h (q4b d)=true):(∃ k,d=.int k)∨d=.string:=by
 cases d <;> simp[q4b,z1h]at h <;> simp
theorem x1b {d:TypeDesc}(h:z1h (q4b d)=true):u2e (q4b d)=d:=by
 rcases y1p h with ⟨k,rfl⟩|rfl <;> rfl
theorem q0p {b:Bool}{kt:TypeId}{d:TypeDesc}(hd:P.underlying kt=some d)(h:z1h (q4b d)=true)(v:Value):(Instr.checkKey b 10000 kt v).run P w=.ok () w:=by
 rw[show (10000:Nat)=9999+1 from rfl,Instr.checkKey]
 rcases y1p h with ⟨k,rfl⟩|rfl <;> simp[run_underlying hd]
theorem q1i {kt:TypeId}{d:TypeDesc}(hd:P.underlying kt=some d){k:Value}{es:List MapEntry}{r:Option (Nat × Value)}(h:Instr.findNow d k es 0=some r):(Instr.findKey kt k es).run P w=.ok r w:=by
 simp[Instr.findKey,run_underlying hd,h]
theorem v3k (x y:ByteArray):(x==y)=true↔x=y:=by
 obtain⟨x⟩:=x
 obtain⟨y⟩:=y
 constructor
 ·intro h
  have e:x=y:=by simpa using (show (x==y)=true from h)
  rw[e]
 ·intro h
  cases h
  show (x==x)=true
  simp
theorem z8z {d:TypeDesc}(hd:z1h (q4b d)=true){k v:Value}:∀ {es:List MapEntry} {n i:Nat},Instr.findNow d k es n=some (some (i,v))→n≤i∧∃ e,es[i - n]?=some e∧e.val=v∧Instr.sameBits 10000 e.key k=true
 |[],n,i,h=>by simp[Instr.findNow]at h
 |e :: es,n,i,h=>by
  simp only[Instr.findNow]at h
  split at h
  ·rename_i hs
   simp only[Option.some.injEq,Prod.mk.injEq]at h
   obtain⟨rfl,rfl⟩:=h
   refine⟨k1v _,e,by simp,rfl,?_⟩
   generalize e.key=ek at hs ⊢
   rcases y1p hd with ⟨q,rfl⟩|rfl
   ·cases k <;> cases ek <;> simp[Instr.sameNow]at hs
    simp[Instr.sameBits,hs]
   ·cases k <;> cases ek <;> simp[Instr.sameNow]at hs
    have hs:=(v3k _ _).1 hs
    subst hs
    exact(v3k _ _).2 rfl
  ·have ih:=z8z hd h
   refine⟨by omega,?_⟩
   obtain⟨h1,e',h2,h3⟩:=ih
   refine⟨e',?_,h3⟩
   rw[show i - n=(i - (n+1))+1 by omega,List.getElem?_cons_succ];exact h2
  ·simp at h
theorem z3p (es:Array MapEntry)(clock:Nat):(Obj.map es clock).noCells:=fun _ _ _ h=>by cases h
theorem z1j (w:World)(B:Nat)(o:Obj):Wrote w (w.putObj B o) B:=
 ⟨rfl,rfl,rfl,World.putObj_size,fun _ hk=>World.putObj_heap_other hk⟩
theorem z3q {B:Nat}{o0:Obj}(h:w.heap[B]?=some o0)(h0:o0.noCells)(o:Obj):(setObj B o).run P w=.ok () (w.putObj B o):=by
 cases o0 <;> first|exact absurd rfl (h0 _ _ _)|simp[setObj,Sem.run,World.putObj,h]
theorem w2m {b:Nat}{o:Obj}(hs:SimH w I ι H)(hb:H.getD b .dead=.obj o):o.noCells∧∃ B,ι b=some B∧w.heap[B]?=some o∧¬ I B:=
 hs.blk b _ (X4 hb rfl)
theorem w8m {b B:Nat}{o o':Obj}(hs:SimH w I ι H)(hb:H.getD b .dead=.obj o)(hι:ι b=some B)(ho':o'.noCells) :
 SimH (w.putObj B o') I ι (H.set b (.obj o'))∧Ex H.length w I ι H (w.putObj B o') I ι (H.set b (.obj o')):=by
 obtain⟨h0,B',h1,h2,h3⟩:=w2m hs hb
 rw[hι]at h1;obtain rfl:=k0x h1
 exact(z1j w B o').simO hs ⟨_,X4 hb rfl,rfl⟩ hι h2 h0 _ ⟨ho',B,hι,World.putObj_heap_same (Array.getElem?_eq_some_iff.1 h2).1,h3⟩
theorem v3m {u:AV}{x v:Value}(h:u2f u=some x)(hu:ARep w I ι u v):v=x:=by
 unfold u2f at h
 split at h
 ·obtain rfl:=k0x h;exact Y8 hu
 ·obtain rfl:=k0x h
  cases hu with
  |clo fn caps vs hn _=>
   have:vs = #[]:=Array.eq_empty_of_size_eq_zero (by simpa using hn)
   rw[this]
 ·cases h
theorem x1c {t:TypeId}{m k x:Operand}(hT:TOk P T)(ho:o.op=.mapUpdate t m k x∨o.op=.insert t m k x)(hs:SimH w I ι H)(hm:ARep w I ι (ev m) (a.eval m))(hk:ARep w I ι (ev k) (a.eval k))(hx:ARep w I ι (ev x) (a.eval x))
 (h:z5d T t H (ev m) (ev k) (ev x) fun H'=>K .top H') (hn:Nx w I ι H K fun v w'=>next (a.put o.dst v) w'):o.wp P a w next Q:=by
 unfold z5d at h
 split at h
 ·rename_i b kv e1 e2
  rw[e1]at hm;rw[e2]at hk
  have vk:=Y8 hk
  obtain⟨xv,hxv,h⟩:=W9 h
  have vx:=v3m hxv hx
  obtain⟨ti,hti,h⟩:=W9 h
  obtain⟨i,d,z,h1,h2,h3,h4,h5,h6,h7,h8⟩:=tok hT hti
  split at h
  ·rename_i kt et he
   rw[he]at h4
   obtain rfl:=x6y h4
   obtain⟨ki,hki,h⟩:=W9 h
   obtain⟨ik,dk,zk,g1,g2,g3,g4,_⟩:=tok hT hki
   obtain⟨c,h⟩:=J3 h
   rw[g4]at c h
   split at h
   ·rename_i es clock hb
    obtain⟨o',ho',h⟩:=W9 h
    rw[x1b c]at ho'
    generalize hv:a.eval m=v at hm
    cases hm with
    |mp _ B hι=>
     obtain⟨q0,B',q1,q2,q3⟩:=w2m hs hb
     rw[hι]at q1;obtain rfl:=k0x q1
     have hget:(getObj B).run P w=.ok (.map es clock) w:=by simp[getObj,Sem.run,q2]
     have key:(Instr.mapUpdate t (.map (some B)) kv xv).run P w=.ok () (w.putObj B o')∧o'.noCells:=by
      unfold v2z at ho'
      split at ho'
      ·rename_i hf
       obtain rfl:=k0x ho'
       refine⟨?_,z3p _ _⟩
       simp[Instr.mapUpdate,run_underlying h2,hget,q0p g2 c,q1i g2 hf,z3q q2 q0]
      ·rename_i j y hf
       obtain rfl:=k0x ho'
       refine⟨?_,z3p _ _⟩
       obtain⟨_,e,p1,p2,p3⟩:=z8z c hf
       have p1':es[j]?=some e:=by rw[← Array.getElem?_toList];simpa using p1
       simp[Instr.mapUpdate,run_underlying h2,hget,q0p g2 c,q1i g2 hf,p1',Instr.keyThatStays,p3,z3q q2 q0]
      ·exact absurd ho' (by simp)
     obtain⟨key,hno⟩:=key
     have k:=w8m hs hb hι hno
     refine v3c (w':=w.putObj B o') ?_ (hn undef _ _ _ _ _ h (.top _) k.1 k.2)
     rcases ho with ho|ho <;> simp[execOp,ho,hv,vk,vx,key]
   ·exact h.elim
  ·exact h.elim
 ·exact h.elim
theorem w2n {t:TypeId}{r:Option Operand}(ho:o.op=.makeMap t r)(hs:SimH w I ι H)
 (h:chk r.isNone (K (.mp H.length) (H++[.obj (.map #[] 0)]))) (hn:Nx w I ι H K fun v w'=>next (a.put o.dst v) w'):o.wp P a w next Q:=by
 obtain⟨c,h⟩:=J3 h
 have c:r=none:=by simpa using c
 subst c
 have g:=q4k w (.map #[] 0)
 have k:=g.sim hs (.obj (.map #[] 0)) ⟨z3p _ _,w.heap.size,by simp[upd],g.new,fun h=>by have:=hs.Ilt _ h;omega⟩
 refine W3 (v:=.map (some w.heap.size)) (w':=w.alloc (.map #[] 0)) ?_ (hn _ _ _ _ _ _ h (.mp _ _ (by simp[upd])) k.1 k.2)
 simp[execOp,ho,Instr.makeMap]
theorem w8n {t:TypeId}{m k:Operand}{ok:Bool}(hT:TOk P T)(ho:o.op=.lookup t m k ok)(hs:SimH w I ι H)(hm:ARep w I ι (ev m) (a.eval m))(hk:ARep w I ι (ev k) (a.eval k))
 (h:z8w P T t ok H (ev m) (ev k) fun u=>K u H) (hn:Nx w I ι H K fun v w'=>next (a.put o.dst v) w'):o.wp P a w next Q:=by
 unfold z8w at h
 split at h
 ·rename_i b kv e1 e2
  rw[e1]at hm;rw[e2]at hk
  have vk:=Y8 hk
  obtain⟨ti,hti,h⟩:=W9 h
  obtain⟨i,d,z,h1,h2,h3,h4,h5,h6,h7,h8⟩:=tok hT hti
  split at h
  ·rename_i kt et he
   rw[he]at h4
   obtain rfl:=x6y h4
   obtain⟨ki,hki,h⟩:=W9 h
   obtain⟨ik,dk,zk,g1,g2,g3,g4,_⟩:=tok hT hki
   obtain⟨ei,hei,h⟩:=W9 h
   obtain⟨ie,de,ze0,r1,r2,r3,r4,r5,_,r7,r8⟩:=tok hT hei
   obtain⟨c,h⟩:=J3 h
   simp only[Bool.and_eq_true,beq_iff_eq]at c
   obtain⟨⟨c,c2⟩,c3⟩:=c
   rw[g4]at c h
   split at h
   ·rename_i es clock hb
    obtain⟨r,hf,h⟩:=W9 h
    rw[x1b c]at hf
    generalize hv:a.eval m=v at hm
    cases hm with
    |mp _ B hι=>
     obtain⟨q0,B',q1,q2,q3⟩:=w2m hs hb
     rw[hι]at q1;obtain rfl:=k0x q1
     have hget:(getObj B).run P w=.ok (.map es clock) w:=by simp[getObj,Sem.run,q2]
     have tup:∀ (v:Value) (b:Bool),v.oneCell'=true→ARep w I ι (.tup [.p (.raw v),.p (.raw (.bool b))]) (.tuple #[v,.bool b]):=fun v b h1=>by
      refine .tup _ _ rfl (fun i u hu=>?_)
      match i with
      |0=>simp at hu;subst hu;exact .p (.raw v h1)
      |1=>simp at hu;subst hu;exact .p (.raw _ rfl)
      |i+2=>simp at hu
     split at h
     ·rename_i j y
      obtain⟨c1,h⟩:=J3 h
      cases ok with
      |true=>
       refine W3 (v:=.tuple #[y,.bool true]) (w':=w) ?_ (hn.here hs h (tup y true c1))
       simp[execOp,ho,hv,vk,Instr.lookup,run_underlying h2,hget,q0p g2 c,q1i g2 hf]
      |false=>
       refine W3 (v:=y) (w':=w) ?_ (hn.here hs h (.p (.raw y c1)))
       simp[execOp,ho,hv,vk,Instr.lookup,run_underlying h2,hget,q0p g2 c,q1i g2 hf]
     ·obtain⟨iz,ze,s1,s2,h1,h⟩:=h
      have hzero:=q6k s1 s2 w
      cases ok with
      |true=>
       refine W3 (v:=.tuple #[ze,.bool false]) (w':=w) ?_ (hn.here hs h (tup ze false h1))
       simp[execOp,ho,hv,vk,Instr.lookup,run_underlying h2,hget,q0p g2 c,q1i g2 hf,hzero]
      |false=>
       refine W3 (v:=ze) (w':=w) ?_ (hn.here hs h (.p (.raw ze h1)))
       simp[execOp,ho,hv,vk,Instr.lookup,run_underlying h2,hget,q0p g2 c,q1i g2 hf,hzero]
   ·exact h.elim
  ·exact h.elim
 ·exact h.elim
end
end Go.Proofs.YtkjklhcfgbaceaaGreat.AL
