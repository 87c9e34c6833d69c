/- The abstract layer (second make), part k2: a row is written; maps; parts of arrays and strings. -/
import Derived.Test.YtolefphdldmlkaaBLk
namespace Go.Proofs.Ytolefphdldmlkaa.AL
open Go Go.RowKit

section
variable {P : Program} {T : TTab} {w : World} {I : Nat → Prop} {ι : Nat → Option Nat} {H : List ABlk} {K : AV → List ABlk → Prop} {o : Oper} {a : Act} {next : Act → World → Prop} {Q : Exit → Act → World → Prop} {ev : Operand → AV}

/-- Elements of a row are others. -/
theorem row_write {b B : Nat} {e : TypeId} {sz off : Nat} {xs ys : List (List PV)} {vs : List Value} {cs : Array Value} (hs : SimH w I ι H) (hb : H[b]? = some (.row e sz xs)) (hι : ι b = some B)
    (hh : w.heap[B]? = some (.cells cs e (0, 0))) (hle : xs.length * sz ≤ cs.size) (hl : xs.length ≤ 140737488355328)
    (h6 : ∀ j e, xs[j]? = some e → e.length = sz ∧ ∀ i u, e[i]? = some u → PRep w I u (cs.getD (j * sz + i) undef))
    (hr : RowVals w I sz ys vs) (ho : off + ys.length ≤ xs.length) :
    SimH (w.setCells B (off * sz) vs) I ι (H.set b (.row e sz (setL xs off ys))) ∧ Ex H.length w I ι H (w.setCells B (off * sz) vs) I ι (H.set b (.row e sz (setL xs off ys))) := by
  have hlive : live H b := ⟨_, hb, rfl⟩
  have hnI := hs.notI hlive hι
  have hmul : (off + ys.length) * sz ≤ xs.length * sz := Nat.mul_le_mul_right _ ho
  rw [Nat.add_mul] at hmul
  have hvl := hr.1
  have hle' : off * sz + vs.length ≤ cs.toList.length := by simp; omega
  have hw := heap_setCells w B e vs (off * sz) cs hh (by simpa using hle')
  have hsz : (setL cs.toList (off * sz) vs).toArray.size = cs.size := by simp [setL_length hle']
  have hW := wrote_setCells w B vs (off * sz)
  have hI : ∀ C, I C → (w.setCells B (off * sz) vs).heap[C]? = w.heap[C]? := fun C hC => hW.old C (fun e => hnI (e ▸ hC))
  refine hW.sim hs hlive hι hh hw hsz _ (.inr ⟨B, _, hι, hw, hnI, by rw [hsz, setL_length ho]; exact hle, by rw [setL_length ho]; exact hl, fun j el hj => ?_⟩)
  rw [setL_get ho] at hj
  split at hj
  · rename_i hc
    obtain ⟨r1, r2⟩ := hr.2 _ el hj
    refine ⟨r1, fun i u hu => ?_⟩
    have hi : i < sz := by rw [← r1]; exact (List.getElem?_eq_some_iff.1 hu).1
    have hm : (j - off) * sz + sz ≤ ys.length * sz := by rw [← Nat.succ_mul]; exact Nat.mul_le_mul_right _ (by omega)
    have hd : j * sz = off * sz + (j - off) * sz := by rw [← Nat.add_mul]; congr 1; omega
    rw [getD_setL _ _ _ _ hle', if_pos (by omega), show j * sz + i - off * sz = (j - off) * sz + i by omega]
    exact (r2 i u hu).move hI (fun _ h => h)
  · rename_i hc
    obtain ⟨r1, r2⟩ := h6 j el hj
    refine ⟨r1, fun i u hu => ?_⟩
    have hi : i < sz := by rw [← r1]; exact (List.getElem?_eq_some_iff.1 hu).1
    have hne : ¬ (off * sz ≤ j * sz + i ∧ j * sz + i < off * sz + vs.length) := by
      rcases Nat.lt_or_ge j off with hlt | hge
      · have : j * sz + sz ≤ off * sz := by rw [← Nat.succ_mul]; exact Nat.mul_le_mul_right _ hlt
        omega
      · have : (off + ys.length) * sz ≤ j * sz := Nat.mul_le_mul_right _ (by omega)
        rw [Nat.add_mul] at this
        omega
    rw [getD_setL _ _ _ _ hle', if_neg hne, ← arr_getD]
    exact (r2 i u hu).move hI (fun _ h => h)

theorem op_index {t : TypeId} {x y : Operand} (hT : TOk P T) (ho : o.op = .index t x y) (hs : SimH w I ι H) (hx : ARep w I ι (ev x) (a.eval x)) (hy : ARep w I ι (ev y) (a.eval y))
    {C : CallA} (h : aop P T C ev H K (.index t x y)) (hn : Nx w I ι H K fun v w' => next (a.put o.dst v) w') : o.wp P a w next Q := by
  simp only [aop, opV, opsL, List.map_cons, List.map_nil, on2] at h
  obtain ⟨ti, hti, h⟩ := optE h
  obtain ⟨i, d, z, h1, h2, h3, h4, h5, h6, h7, h8⟩ := tok hT hti
  split at h
  · rename_i N e he
    rw [he] at h4
    obtain rfl := desc_array h4
    obtain ⟨ei, hei, h⟩ := optE h
    obtain ⟨ie, de, ze, g1, g2, g3, g4, g5, g6, g7, g8⟩ := tok hT hei
    unfold indexV at h
    split at h
    · rename_i k n _ _ l e1 _ e3
      obtain ⟨⟨b1, b2⟩, h⟩ := h
      obtain ⟨c, h⟩ := chkE h
      rw [Bool.and_eq_true] at c
      obtain ⟨c1, c2⟩ := c
      have c1 := of_decide_eq_true c1
      rw [e1] at hy
      have hvy := rep_raw hy
      rw [e3] at hx
      generalize hv : a.eval x = v at hx
      cases hx with
      | agg l vs hn' hr =>
        rw [g4, g5] at h
        rw [g5] at c1 c2
        obtain ⟨v, k1, k2⟩ := rep_part (w := w) g1 g2 hn' hr (off := n.toNat * ie.size) c1 (by rw [g4] at c2; simpa using c2)
        refine wp_val (v := v) (w' := w) ?_ (hn.here hs h k2)
        simp [execOp, ho, hv, hvy, Instr.index, asIntOf, run_underlying h2, run_sizeOf g1, b1, b2, k1]
    · exact h.elim
  · rename_i he
    rw [he] at h4
    obtain rfl := desc_string h4
    unfold indexS at h
    split at h
    · rename_i k n s e1 e2
      obtain ⟨b1, h⟩ := h
      obtain ⟨c, hc, h⟩ := optE h
      rw [e1] at hy
      have hvy := rep_raw hy
      rw [e2] at hx
      have hvx := rep_raw hx
      refine wp_val (v := .int .u8 c.toNat) (w' := w) ?_ (hn.here hs h (.p (.raw _ rfl)))
      have hc' : s[n.toNat]? = some c := by
        rw [← hc]
        rcases Nat.lt_or_ge n.toNat s.size with hlt | hge
        · have hlt' : n.toNat < s.data.size := hlt
          rw [getElem?_pos s n.toNat hlt, Array.getElem?_eq_getElem hlt']; rfl
        · have hge' : s.data.size ≤ n.toNat := hge
          rw [getElem?_neg s n.toNat (by omega), Array.getElem?_eq_none hge']
      simp [execOp, ho, hvx, hvy, Instr.index, asIntOf, run_underlying h2, b1, hc']
    · exact h.elim
  · exact h.elim

/-! Maps whose keys are numbers or strings. -/

theorem flat_desc {d : TypeDesc} (h : flatKey (tdOf d) = true) : (∃ k, d = .int k) ∨ d = .string := by
  cases d <;> simp [tdOf, flatKey] at h <;> simp

theorem keyD_tdOf {d : TypeDesc} (h : flatKey (tdOf d) = true) : keyD (tdOf d) = d := by
  rcases flat_desc h with ⟨k, rfl⟩ | rfl <;> rfl

theorem run_checkKey_flat {b : Bool} {kt : TypeId} {d : TypeDesc} (hd : P.underlying kt = some d) (h : flatKey (tdOf d) = true) (v : Value) : (Instr.checkKey b 10000 kt v).run P w = .ok () w := by
  rw [show (10000 : Nat) = 9999 + 1 from rfl, Instr.checkKey]
  rcases flat_desc h with ⟨k, rfl⟩ | rfl <;> simp [run_underlying hd]

theorem run_findKey_now {kt : TypeId} {d : TypeDesc} (hd : P.underlying kt = some d) {k : Value} {es : List MapEntry} {r : Option (Nat × Value)} (h : Instr.findNow d k es 0 = some r) : (Instr.findKey kt k es).run P w = .ok r w := by
  simp [Instr.findKey, run_underlying hd, h]

theorem ba_beq (x y : ByteArray) : (x == y) = true ↔ x = y := by
  obtain ⟨x⟩ := x
  obtain ⟨y⟩ := y
  constructor
  · intro h
    have e : x = y := by simpa using (show (x == y) = true from h)
    rw [e]
  · intro h
    cases h
    show (x == x) = true
    simp

theorem findNow_same {d : TypeDesc} (hd : flatKey (tdOf d) = true) {k v : Value} : ∀ {es : List MapEntry} {n i : Nat}, Instr.findNow d k es n = some (some (i, v)) → n ≤ i ∧ ∃ e, es[i - n]? = some e ∧ e.val = v ∧ Instr.sameBits 10000 e.key k = true
  | [], n, i, h => by simp [Instr.findNow] at h
  | e :: es, n, i, h => by
    simp only [Instr.findNow] at h
    split at h
    · rename_i hs
      simp only [Option.some.injEq, Prod.mk.injEq] at h
      obtain ⟨rfl, rfl⟩ := h
      refine ⟨Nat.le_refl _, e, by simp, rfl, ?_⟩
      generalize e.key = ek at hs ⊢
      rcases flat_desc hd with ⟨q, rfl⟩ | rfl
      · cases k <;> cases ek <;> simp [Instr.sameNow] at hs
        simp [Instr.sameBits, hs]
      · cases k <;> cases ek <;> simp [Instr.sameNow] at hs
        have hs := (ba_beq _ _).1 hs
        subst hs
        exact (ba_beq _ _).2 rfl
    · have ih := findNow_same hd h
      refine ⟨by omega, ?_⟩
      obtain ⟨h1, e', h2, h3⟩ := ih
      refine ⟨e', ?_, h3⟩
      rw [show i - n = (i - (n + 1)) + 1 by omega, List.getElem?_cons_succ]; exact h2
    · simp at h

theorem noCells_map (es : Array MapEntry) (clock : Nat) : (Obj.map es clock).noCells := fun _ _ _ h => by cases h

theorem wrote_putObj (w : World) (B : Nat) (o : Obj) : Wrote w (w.putObj B o) B :=
  ⟨rfl, rfl, rfl, World.putObj_size, fun _ hk => World.putObj_heap_other hk⟩

theorem run_setObj_any {B : Nat} {o0 : Obj} (h : w.heap[B]? = some o0) (h0 : o0.noCells) (o : Obj) : (setObj B o).run P w = .ok () (w.putObj B o) := by
  cases o0 <;> first | exact absurd rfl (h0 _ _ _) | simp [setObj, Sem.run, World.putObj, h]

theorem obj_of {b : Nat} {o : Obj} (hs : SimH w I ι H) (hb : H.getD b .dead = .obj o) : o.noCells ∧ ∃ B, ι b = some B ∧ w.heap[B]? = some o ∧ ¬ I B :=
  hs.blk b _ (getD_of_getElem? hb rfl)

/-- An object becomes another one. -/
theorem obj_write {b B : Nat} {o o' : Obj} (hs : SimH w I ι H) (hb : H.getD b .dead = .obj o) (hι : ι b = some B) (ho' : o'.noCells) :
    SimH (w.putObj B o') I ι (H.set b (.obj o')) ∧ Ex H.length w I ι H (w.putObj B o') I ι (H.set b (.obj o')) := by
  obtain ⟨h0, B', h1, h2, h3⟩ := obj_of hs hb
  rw [hι] at h1; obtain rfl := Option.some.inj h1
  exact (wrote_putObj w B o').simO hs ⟨_, getD_of_getElem? hb rfl, rfl⟩ hι h2 h0 _ ⟨ho', B, hι, World.putObj_heap_same (Array.getElem?_eq_some_iff.1 h2).1, h3⟩

theorem rawA_rep {u : AV} {x v : Value} (h : rawA u = some x) (hu : ARep w I ι u v) : v = x := by
  unfold rawA at h
  split at h
  · obtain rfl := Option.some.inj h; exact rep_raw hu
  · obtain rfl := Option.some.inj h
    cases hu with
    | clo fn caps vs hn _ =>
      have : vs = #[] := Array.eq_empty_of_size_eq_zero (by simpa using hn)
      rw [this]
  · cases h
theorem op_mapPut {t : TypeId} {m k x : Operand} (hT : TOk P T) (ho : o.op = .mapUpdate t m k x ∨ o.op = .insert t m k x) (hs : SimH w I ι H) (hm : ARep w I ι (ev m) (a.eval m)) (hk : ARep w I ι (ev k) (a.eval k)) (hx : ARep w I ι (ev x) (a.eval x))
    (h : mapPutK T t H (ev m) (ev k) (ev x) fun H' => K .top H') (hn : Nx w I ι H K fun v w' => next (a.put o.dst v) w') : o.wp P a w next Q := by
  unfold mapPutK at h
  split at h
  · rename_i b kv e1 e2
    rw [e1] at hm; rw [e2] at hk
    have vk := rep_raw hk
    obtain ⟨xv, hxv, h⟩ := optE h
    have vx := rawA_rep hxv hx
    obtain ⟨ti, hti, h⟩ := optE h
    obtain ⟨i, d, z, h1, h2, h3, h4, h5, h6, h7, h8⟩ := tok hT hti
    split at h
    · rename_i kt et he
      rw [he] at h4
      obtain rfl := desc_map h4
      obtain ⟨ki, hki, h⟩ := optE h
      obtain ⟨ik, dk, zk, g1, g2, g3, g4, _⟩ := tok hT hki
      obtain ⟨c, h⟩ := chkE h
      rw [g4] at c h
      split at h
      · rename_i es clock hb
        obtain ⟨o', ho', h⟩ := optE h
        rw [keyD_tdOf c] at ho'
        generalize hv : a.eval m = v at hm
        cases hm with
        | mp _ B hι =>
          obtain ⟨q0, B', q1, q2, q3⟩ := obj_of hs hb
          rw [hι] at q1; obtain rfl := Option.some.inj q1
          have hget : (getObj B).run P w = .ok (.map es clock) w := by simp [getObj, Sem.run, q2]
          have key : (Instr.mapUpdate t (.map (some B)) kv xv).run P w = .ok () (w.putObj B o') ∧ o'.noCells := by
            unfold putMap at ho'
            split at ho'
            · rename_i hf
              obtain rfl := Option.some.inj ho'
              refine ⟨?_, noCells_map _ _⟩
              simp [Instr.mapUpdate, run_underlying h2, hget, run_checkKey_flat g2 c, run_findKey_now g2 hf, run_setObj_any q2 q0]
            · rename_i j y hf
              obtain rfl := Option.some.inj ho'
              refine ⟨?_, noCells_map _ _⟩
              obtain ⟨_, e, p1, p2, p3⟩ := findNow_same c hf
              have p1' : es[j]? = some e := by rw [← Array.getElem?_toList]; simpa using p1
              simp [Instr.mapUpdate, run_underlying h2, hget, run_checkKey_flat g2 c, run_findKey_now g2 hf, p1', Instr.keyThatStays, p3, run_setObj_any q2 q0]
            · exact absurd ho' (by simp)
          obtain ⟨key, hno⟩ := key
          have k := obj_write hs hb hι hno
          refine wp_skp (w' := w.putObj B o') ?_ (hn undef _ _ _ _ _ h (.top _) k.1 k.2)
          rcases ho with ho | ho <;> simp [execOp, ho, hv, vk, vx, key]
      · exact h.elim
    · exact h.elim
  · exact h.elim

theorem op_makeMap {t : TypeId} {r : Option Operand} (ho : o.op = .makeMap t r) (hs : SimH w I ι H)
    (h : chk r.isNone (K (.mp H.length) (H ++ [.obj (.map #[] 0)]))) (hn : Nx w I ι H K fun v w' => next (a.put o.dst v) w') : o.wp P a w next Q := by
  obtain ⟨c, h⟩ := chkE h
  have c : r = none := by simpa using c
  subst c
  have g := grew_alloc w (.map #[] 0)
  have k := g.sim hs (.obj (.map #[] 0)) ⟨noCells_map _ _, w.heap.size, by simp [upd], g.new, fun h => by have := hs.Ilt _ h; omega⟩
  refine wp_val (v := .map (some w.heap.size)) (w' := w.alloc (.map #[] 0)) ?_ (hn _ _ _ _ _ _ h (.mp _ _ (by simp [upd])) k.1 k.2)
  simp [execOp, ho, Instr.makeMap]

theorem op_lookup {t : TypeId} {m k : Operand} {ok : Bool} (hT : TOk P T) (ho : o.op = .lookup t m k ok) (hs : SimH w I ι H) (hm : ARep w I ι (ev m) (a.eval m)) (hk : ARep w I ι (ev k) (a.eval k))
    (h : mapGetK P T t ok H (ev m) (ev k) fun u => K u H) (hn : Nx w I ι H K fun v w' => next (a.put o.dst v) w') : o.wp P a w next Q := by
  unfold mapGetK at h
  split at h
  · rename_i b kv e1 e2
    rw [e1] at hm; rw [e2] at hk
    have vk := rep_raw hk
    obtain ⟨ti, hti, h⟩ := optE h
    obtain ⟨i, d, z, h1, h2, h3, h4, h5, h6, h7, h8⟩ := tok hT hti
    split at h
    · rename_i kt et he
      rw [he] at h4
      obtain rfl := desc_map h4
      obtain ⟨ki, hki, h⟩ := optE h
      obtain ⟨ik, dk, zk, g1, g2, g3, g4, _⟩ := tok hT hki
      obtain ⟨ei, hei, h⟩ := optE h
      obtain ⟨ie, de, ze0, r1, r2, r3, r4, r5, _, r7, r8⟩ := tok hT hei
      obtain ⟨c, h⟩ := chkE h
      simp only [Bool.and_eq_true, beq_iff_eq] at c
      obtain ⟨⟨c, c2⟩, c3⟩ := c
      rw [g4] at c h
      split at h
      · rename_i es clock hb
        obtain ⟨r, hf, h⟩ := optE h
        rw [keyD_tdOf c] at hf
        generalize hv : a.eval m = v at hm
        cases hm with
        | mp _ B hι =>
          obtain ⟨q0, B', q1, q2, q3⟩ := obj_of hs hb
          rw [hι] at q1; obtain rfl := Option.some.inj q1
          have hget : (getObj B).run P w = .ok (.map es clock) w := by simp [getObj, Sem.run, q2]
          have tup : ∀ (v : Value) (b : Bool), v.oneCell' = true → ARep w I ι (.tup [.p (.raw v), .p (.raw (.bool b))]) (.tuple #[v, .bool b]) := fun v b h1 => by
            refine .tup _ _ rfl (fun i u hu => ?_)
            match i with
            | 0 => simp at hu; subst hu; exact .p (.raw v h1)
            | 1 => simp at hu; subst hu; exact .p (.raw _ rfl)
            | i + 2 => simp at hu
          split at h
          · rename_i j y
            obtain ⟨c1, h⟩ := chkE h
            cases ok with
            | true =>
              refine wp_val (v := .tuple #[y, .bool true]) (w' := w) ?_ (hn.here hs h (tup y true c1))
              simp [execOp, ho, hv, vk, Instr.lookup, run_underlying h2, hget, run_checkKey_flat g2 c, run_findKey_now g2 hf]
            | false =>
              refine wp_val (v := y) (w' := w) ?_ (hn.here hs h (.p (.raw y c1)))
              simp [execOp, ho, hv, vk, Instr.lookup, run_underlying h2, hget, run_checkKey_flat g2 c, run_findKey_now g2 hf]
          · obtain ⟨iz, ze, s1, s2, h1, h⟩ := h
            have hzero := run_zeroValue s1 s2 w
            cases ok with
            | true =>
              refine wp_val (v := .tuple #[ze, .bool false]) (w' := w) ?_ (hn.here hs h (tup ze false h1))
              simp [execOp, ho, hv, vk, Instr.lookup, run_underlying h2, hget, run_checkKey_flat g2 c, run_findKey_now g2 hf, hzero]
            | false =>
              refine wp_val (v := ze) (w' := w) ?_ (hn.here hs h (.p (.raw ze h1)))
              simp [execOp, ho, hv, vk, Instr.lookup, run_underlying h2, hget, run_checkKey_flat g2 c, run_findKey_now g2 hf, hzero]
      · exact h.elim
    · exact h.elim
  · exact h.elim

end
end Go.Proofs.Ytolefphdldmlkaa.AL
