/- The abstract layer (second make), part f: each operation, proved against the machine (first half). -/
import Derived.Test.YtolefphdldmlkaaBLe
namespace Go.Proofs.Ytolefphdldmlkaa.AL
open Go Go.RowKit

theorem wp_val {P : Program} {o : Oper} {a : Act} {w w' : World} {v : Value} {next : Act → World → Prop} {Q : Exit → Act → World → Prop}
    (h : (execOp a.eval o).run P w = .ok (.value v) w') (hn : next (a.put o.dst v) w') : o.wp P a w next Q := by
  unfold Oper.wp; rw [h]; exact hn
theorem wp_skp {P : Program} {o : Oper} {a : Act} {w w' : World} {next : Act → World → Prop} {Q : Exit → Act → World → Prop}
    (h : (execOp a.eval o).run P w = .ok .skip w') (hn : next (a.put o.dst undef) w') : o.wp P a w next Q := by
  unfold Oper.wp; rw [h]; exact hn

def Nx (w : World) (I : Nat → Prop) (ι : Nat → Option Nat) (H : List ABlk) (K : AV → List ABlk → Prop) (f : Value → World → Prop) : Prop :=
  ∀ v w' r H' I' ι', K r H' → ARep w' I' ι' r v → SimH w' I' ι' H' → Ex H.length w I ι H w' I' ι' H' → f v w'

section
variable {P : Program} {T : TTab} {w : World} {I : Nat → Prop} {ι : Nat → Option Nat} {H : List ABlk} {K : AV → List ABlk → Prop} {o : Oper} {a : Act} {next : Act → World → Prop} {Q : Exit → Act → World → Prop} {ev : Operand → AV}

theorem Nx.here {f : Value → World → Prop} (n : Nx w I ι H K f) (hs : SimH w I ι H) {r : AV} {v : Value} (hk : K r H) (hr : ARep w I ι r v) : f v w :=
  n v w r H I ι hk hr hs (Ex.refl (Nat.le_refl _))

theorem run_sizeOf {t : TypeId} {i : TypeInfo} (h : P.info? t = some i) (w : World) : (sizeOf t).run P w = .ok i.size w := by simp [sizeOf, typeInfo, h]
theorem run_zeroValue {t : TypeId} {i : TypeInfo} {z : Value} (h : P.info? t = some i) (hz : i.zero = some z) (w : World) : (zeroValue t).run P w = .ok z w := by simp [zeroValue, typeInfo, h, hz]
theorem run_newVar (t : TypeId) (v : Value) (w : World) : (newVar t v).run P w = .ok ⟨w.heap.size, 0, none⟩ (w.alloc (.cells v.cells t)) := by simp [newVar, newRow]

theorem op_move {x : Operand} (ho : o.op = .move x ∨ o.op = .assign x) (hs : SimH w I ι H) (hx : ARep w I ι (ev x) (a.eval x)) (h : K (ev x) H) (hn : Nx w I ι H K fun v w' => next (a.put o.dst v) w') : o.wp P a w next Q := by
  refine wp_val (v := a.eval x) (w' := w) ?_ (hn.here hs h hx)
  rcases ho with ho | ho <;> simp [execOp, ho]

theorem op_pick {c x y : Operand} (ho : o.op = .pick c x y) (hs : SimH w I ι H) (hc : ARep w I ι (ev c) (a.eval c)) (hx : ARep w I ι (ev x) (a.eval x)) (hy : ARep w I ι (ev y) (a.eval y))
    (h : match ev c with | .p (.raw (.bool t)) => K (pickV t (ev x) (ev y)) H | _ => False) (hn : Nx w I ι H K fun v w' => next (a.put o.dst v) w') : o.wp P a w next Q := by
  split at h
  · rename_i t e1
    rw [e1] at hc
    have h1 := rep_raw hc
    refine wp_val (v := cond t (a.eval x) (a.eval y)) (w' := w) ?_ (hn.here hs h ?_)
    · cases t <;> simp [execOp, ho, h1, asBool]
    · unfold pickV
      generalize ev x = xx at hx ⊢
      generalize ev y = xy at hy ⊢
      split
      · have v1 := rep_raw hx
        have v2 := rep_raw hy
        rw [v1, v2]
        cases t
        · exact .p (.raw _ rfl)
        · exact .p (.raw _ rfl)
      · cases t
        · exact hy
        · exact hx
  · exact h.elim

/-- A new block of cells. -/
theorem new_cells {cs : Array Value} {t : TypeId} {l : List AV} (hs : SimH w I ι H) (hn : l.length ≤ cs.size) (hr : ∀ i u, l[i]? = some u → ARep w I ι u (cs.getD i undef))
    {w' : World} (g : Grew w w' (.cells cs t)) : SimH w' I (upd ι H.length w.heap.size) (H ++ [.cells t l]) ∧ Ex H.length w I ι H w' I (upd ι H.length w.heap.size) (H ++ [.cells t l]) := by
  refine g.sim hs _ ⟨w.heap.size, cs, by simp [upd], g.new, fun h => by have := hs.Ilt _ h; omega, hn, fun i u hu => ?_⟩
  refine (hr i u hu).move (fun B hB => g.old B (hs.Ilt B hB)) (fun _ h => h) (fun b B hb => ?_) g.shape
  have hlt : b < H.length := by
    rcases Nat.lt_or_ge b H.length with h | h
    · exact h
    · rw [hs.dom b h] at hb; exact absurd hb (by simp)
  unfold upd; rw [if_neg (by omega)]; exact hb

theorem op_alloc {t : TypeId} (hT : TOk P T) (ho : o.op = .alloc t) (hs : SimH w I ι H) (h : optK (T t) fun ti => K (.ref H.length 0) (H ++ [.cells t (zeroA ti)])) (hn : Nx w I ι H K fun v w' => next (a.put o.dst v) w') : o.wp P a w next Q := by
  obtain ⟨ti, hti, hk⟩ := optE h
  obtain ⟨i, d, z, h1, h2, h3, h4, h5, h6, h7, h8⟩ := tok hT hti
  have g := grew_alloc w (.cells z.cells t)
  have k := new_cells (l := zeroA ti) hs (by simp [zeroA, h7]) (fun i u hu => by
    simp only [zeroA, h7, List.getElem?_map, Option.map_eq_some_iff] at hu
    obtain ⟨y, hy, rfl⟩ := hu
    rw [arr_getD, List.getD_eq_getElem?_getD, hy]
    exact .p (.raw y (h8 y (List.mem_of_getElem? hy)))) g
  refine wp_val (v := .pointer (some ⟨w.heap.size, 0, none⟩)) (w' := w.alloc (.cells z.cells t)) ?_ (hn _ _ _ _ _ _ hk (.ref _ _ _ (by simp [upd])) k.1 k.2)
  simp [execOp, ho, Instr.alloc, run_zeroValue h1 h3, run_newVar]

theorem op_box {t : TypeId} {x : Operand} (ho : o.op = .box t x) (hs : SimH w I ι H) (hx : ARep w I ι (ev x) (a.eval x)) (h : optK (ev x).cells? fun l => K (.ref H.length 0) (H ++ [.cells t l])) (hn : Nx w I ι H K fun v w' => next (a.put o.dst v) w') : o.wp P a w next Q := by
  obtain ⟨l, hl, hk⟩ := optE h
  obtain ⟨h1, h2, _⟩ := cells_ok hx hl
  have g := grew_alloc w (.cells (a.eval x).cells t)
  have k := new_cells (l := l) hs (by omega) h2 g
  refine wp_val (v := .pointer (some ⟨w.heap.size, 0, none⟩)) (w' := w.alloc (.cells (a.eval x).cells t)) ?_ (hn _ _ _ _ _ _ hk (.ref _ _ _ (by simp [upd])) k.1 k.2)
  simp [execOp, ho, Instr.box, run_newVar]

theorem isRow_tdOf (d : TypeDesc) : isRowTD (tdOf d) = d.isRow := by cases d <;> rfl

theorem op_load {t : TypeId} {x : Operand} (hT : TOk P T) (ho : o.op = .load t x) (hs : SimH w I ι H) (hx : ARep w I ι (ev x) (a.eval x))
    (h : optK (T t) fun ti => chk (isRowTD ti.d || ti.size == 1) <| loadK H (ev x) ti.size fun us => K (mkVal ti.d us) H) (hn : Nx w I ι H K fun v w' => next (a.put o.dst v) w') : o.wp P a w next Q := by
  obtain ⟨ti, hti, hk⟩ := optE h
  obtain ⟨i, d, z, h1, h2, h3, h4, h5, h6, h7, h8⟩ := tok hT hti
  obtain ⟨c1, c2⟩ := chkE hk
  obtain ⟨us, B, off, vs, k1, k2, k3, k4, k5, k6⟩ := load_ok hs hx c2
  cases hrow : isRowTD ti.d with
  | true =>
    have hd : d.isRow = true := by rw [← isRow_tdOf, ← h4]; exact hrow
    refine wp_val (v := .agg vs.toArray) (w' := w) ?_ (hn.here hs k1 ?_)
    · have hrun := run_loadAt_mid (P := P) w B off t vs d k5 h2 hd (by rw [h1, k4]; simp [h5])
      simp [execOp, ho, k2, hrun]
    · have : mkVal ti.d us = .agg us := by cases hdd : ti.d <;> simp [hdd, isRowTD] at hrow <;> rfl
      rw [this]
      exact .agg us vs.toArray (by simp [k3, k4]) (fun i u hu => by rw [arr_getD]; exact k6 i u hu)
  | false =>
    have hd : d.isRow = false := by rw [← isRow_tdOf, ← h4]; exact hrow
    rw [hrow] at c1
    have hsz : ti.size = 1 := by simpa using c1
    rw [hsz] at k3 k4
    obtain ⟨u, rfl⟩ := List.length_eq_one_iff.1 k3
    obtain ⟨v, rfl⟩ := List.length_eq_one_iff.1 k4
    have hcell : w.cell? ⟨B, off, none⟩ = some v := by simpa using k5 0 v rfl
    refine wp_val (v := v) (w' := w) ?_ (hn.here hs k1 ?_)
    · have hagg : (isAgg t).run P w = .ok false w := by
        unfold isAgg
        rw [Sem.run_bind, run_underlying h2 w]
        cases d <;> simp_all
      simp [execOp, ho, k2, Instr.loadAt, Instr.sureAddr, loadVar, hagg, load, Sem.run, hcell]
    · have : mkVal ti.d [u] = u := by cases hdd : ti.d <;> simp [hdd, isRowTD] at hrow <;> rfl
      rw [this]
      exact k6 0 u rfl

theorem op_store {t : TypeId} {p x : Operand} (hT : TOk P T) (ho : o.op = .store t p x) (hs : SimH w I ι H) (hp : ARep w I ι (ev p) (a.eval p)) (hx : ARep w I ι (ev x) (a.eval x))
    (h : optK (T t) fun ti => optK (ev x).cells? fun vs => chk (vs.length == ti.size) (storeK H (ev p) vs fun H' => K .top H')) (hn : Nx w I ι H K fun v w' => next (a.put o.dst v) w') : o.wp P a w next Q := by
  obtain ⟨ti, hti, hk⟩ := optE h
  obtain ⟨i, d, z, h1, h2, h3, h4, h5, h6, h7, h8⟩ := tok hT hti
  obtain ⟨vs, hvs, hk⟩ := optE hk
  obtain ⟨c1, c2⟩ := chkE hk
  have c1 : vs.length = ti.size := by simpa using c1
  obtain ⟨e1, e2, e3⟩ := cells_ok hx hvs
  obtain ⟨H', B, off, k1, k2, k3, k4, k5⟩ := store_ok (cv := (a.eval x).cells.toList) hs hp c2 (by simpa using e1) (fun i u hu => by rw [← arr_getD]; exact e2 i u hu)
  refine wp_skp (w' := w.setCells B off (a.eval x).cells.toList) ?_ (hn undef _ _ _ _ _ k1 (.top _) k4 k5)
  have hrun := run_storeCells_cells (P := P) B off (a.eval x).cells.toList 0 w (fun j hj => by simpa using (k3 j hj).1) (fun j hj => by simpa using (k3 j hj).2) e3
  simp only [Nat.add_zero] at hrun
  have hsz : (a.eval x).cells.size = i.size := by omega
  simp [execOp, ho, k2, Instr.storeAt, Instr.sureAddr, storeVar, run_sizeOf h1, hsz, hrun]

end
end Go.Proofs.Ytolefphdldmlkaa.AL
