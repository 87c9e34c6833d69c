/- The abstract layer (second make), part i: makes, slices, indexes, lengths, appends, calls. -/
import Derived.Test.YtolefphdldmlkaaBLh
import Derived.Deep.AppendSrc
namespace Go.Proofs.Ytolefphdldmlkaa.AL
open Go Go.RowKit

section
variable {P : Program} {T : TTab} {w : World} {I : Nat → Prop} {ι : Nat → Option Nat} {H : List ABlk} {K : AV → List ABlk → Prop} {o : Oper} {a : Act} {next : Act → World → Prop} {Q : Exit → Act → World → Prop} {ev : Operand → AV}

theorem op_makeSlice {t : TypeId} {l c : Operand} (hT : TOk P T) (ho : o.op = .makeSlice t l c) (hs : SimH w I ι H) (hl : ARep w I ι (ev l) (a.eval l)) (hc : ARep w I ι (ev c) (a.eval c))
    {C : CallA} (h : aop P T C ev H K (.makeSlice t l c)) (hn : Nx w I ι H K fun v w' => next (a.put o.dst v) w') : o.wp P a w next Q := by
  simp only [aop, opV, opsL, List.map_cons, List.map_nil, on2] at h
  replace h := optE h
  obtain ⟨ti, hti, h⟩ := h
  obtain ⟨i, d, z, h1, h2, h3, h4, h5, h6, h7, h8⟩ := tok hT hti
  split at h
  · rename_i e he
    replace h := optE h
    obtain ⟨ei, hei, h⟩ := h
    obtain ⟨ie, de, ze, g1, g2, g3, g4, g5, g6, g7, g8⟩ := tok hT hei
    replace h := chkE h
    obtain ⟨q, h⟩ := h
    simp only [Bool.and_eq_true, decide_eq_true_eq, beq_iff_eq] at q
    obtain ⟨q1, q2⟩ := q
    rw [he] at h4
    obtain rfl := desc_slice h4
    split at h
    · rename_i n n' e1 e2
      rw [e1] at hl; rw [e2] at hc
      have v1 := rep_raw hl; have v2 := rep_raw hc
      obtain ⟨⟨hnn, k1, k2, k3⟩, h⟩ := h
      rw [hnn] at v2
      have hzl : (zeroP ei).length = ei.size := by simp [zeroP, q2]
      have hzs : ze.cells.size = ei.size := by rw [← q2, g7]; simp
      let cs := madeCells ze.cells (n.toNat * ie.size)
      have hcs : cs.size = n.toNat * ei.size := by simp [cs, size_madeCells, g5]
      have g := grew_alloc w (.cells cs e)
      have key := g.sim hs (.row e ei.size (List.replicate n.toNat (zeroP ei))) (.inr ⟨w.heap.size, cs, by simp [upd], g.new, fun hI => by have := hs.Ilt _ hI; omega, by simp [hcs], by simp; omega, fun j el hj => ?_⟩)
      · refine wp_val (v := .slice (some ⟨w.heap.size, 0, none⟩) n.toNat n.toNat) (w' := w.alloc (.cells cs e)) ?_ (hn _ _ _ _ _ _ h ?_ key.1 key.2)
        · have hb : (ie.bytes : Int) * n ≤ 281474976710656 := by rw [← g6, Int.mul_comm]; omega
          have := run_make (P := P) w t e ie ze h2 g1 g3 .i64 .i64 n n k1 (Int.le_refl _) hb (by omega)
          simp [execOp, ho, v1, v2, this, cs]
        · have : (⟨w.heap.size, 0, none⟩ : Addr) = ⟨w.heap.size, 0 * ei.size, none⟩ := by simp
          rw [this]
          exact .msl _ _ _ _ _ _ (by simp [upd]) (Nat.le_refl _) ⟨cs, e, (0, 0), g.new, by rw [hcs]; simp⟩
      · have hjn : j < n.toNat := by have := (List.getElem?_eq_some_iff.1 hj).1; simpa using this
        rw [List.getElem?_replicate, if_pos hjn] at hj
        obtain rfl := Option.some.inj hj
        refine ⟨hzl, fun k u hu => ?_⟩
        have hk : k < ei.size := by have := (List.getElem?_eq_some_iff.1 hu).1; omega
        simp only [zeroP, g7, List.getElem?_map, Option.map_eq_some_iff] at hu
        obtain ⟨y, hy, rfl⟩ := hu
        have hmul : j * ei.size + ei.size ≤ n.toNat * ei.size := by rw [← Nat.succ_mul]; exact Nat.mul_le_mul_right _ hjn
        have : cs.getD (j * ei.size + k) undef = y := by
          simp only [cs, madeCells]
          rw [Array.getD_eq_getD_getElem?, Array.getElem?_map, Array.getElem?_range, if_pos (by rw [← g5]; omega)]
          simp only [Option.map_some, Option.getD_some]
          rw [hzs, Nat.add_comm, Nat.add_mul_mod_self_right, Nat.mod_eq_of_lt hk, getElem!_pos ze.cells k (by omega)]
          have := (Array.getElem?_toList (xs := ze.cells) (i := k)).symm.trans hy
          rw [Array.getElem?_eq_getElem (by omega)] at this
          exact Option.some.inj this
        rw [this]
        exact .raw y (g8 y (List.mem_of_getElem? hy))
    · exact h.elim
  · exact h.elim

theorem slice_row {len c : Nat} {A : Option Addr} {t e : TypeId} {ie : TypeInfo} (h2 : P.underlying t = some (.slice e)) (g1 : P.info? e = some ie) {lo hi : Option Value} {l h : Int}
    (hlo : match lo with | none => l = 0 | some (.int _ n) => l = n | _ => False) (hhi : match hi with | none => h = len | some (.int _ n) => h = n | _ => False) (b : 0 ≤ l ∧ l ≤ h ∧ h ≤ len) (hc : len ≤ c) (w : World) :
    (Instr.sliceAt t (.slice A len c) lo hi none).run P w = .ok (.slice (if c = l.toNat then A else A.map (·.add (l.toNat * ie.size))) (h.toNat - l.toNat) (c - l.toNat)) w := by
  obtain ⟨b1, b2, b3⟩ := b
  have sb : ∀ (k : IntKind) (i : Int) (y : Nat) (code : BoundsCode), 0 ≤ i → i ≤ y → (Instr.sliceBound (.int k i) y code).run P w = .ok i.toNat w := fun k i y code p q => run_sliceBound w k i y code p q
  have key : (Instr.sliceBounds true len c lo hi none).run P w = .ok (l.toNat, h.toNat, c) w := by
    cases lo with
    | none =>
      subst hlo
      cases hi with
      | none => subst hhi; simp [Instr.sliceBounds]
      | some v => cases v <;> first | exact hhi.elim | (subst hhi; simp [Instr.sliceBounds, sb, b2, show h ≤ (c : Int) by omega])
    | some u =>
      cases u <;> first | exact hlo.elim | skip
      subst hlo
      cases hi with
      | none => subst hhi; simp [Instr.sliceBounds, sb, b1, b2]
      | some v => cases v <;> first | exact hhi.elim | (subst hhi; simp [Instr.sliceBounds, sb, b1, show (0 : Int) ≤ h by omega, show h ≤ (c : Int) by omega, show (h.toNat : Int) = h by omega, b2])
  simp [Instr.sliceAt, run_underlying h2, Instr.slice, key, run_sizeOf g1]

theorem slice_str {s : ByteArray} {t : TypeId} (h2 : P.underlying t = some .string) {lo hi : Option Value} {l h : Int}
    (hlo : match lo with | none => l = 0 | some (.int _ n) => l = n | _ => False) (hhi : match hi with | none => h = s.size | some (.int _ n) => h = n | _ => False) (b : 0 ≤ l ∧ l ≤ h ∧ h ≤ s.size) (w : World) :
    (Instr.sliceAt t (.string s) lo hi none).run P w = .ok (.string (s.extract l.toNat h.toNat)) w := by
  obtain ⟨b1, b2, b3⟩ := b
  have sb : ∀ (k : IntKind) (i : Int) (y : Nat) (code : BoundsCode), 0 ≤ i → i ≤ y → (Instr.sliceBound (.int k i) y code).run P w = .ok i.toNat w := fun k i y code p q => run_sliceBound w k i y code p q
  have key : (Instr.sliceBounds false s.size s.size lo hi none).run P w = .ok (l.toNat, h.toNat, s.size) w := by
    cases lo with
    | none =>
      subst hlo
      cases hi with
      | none => subst hhi; simp [Instr.sliceBounds]
      | some v => cases v <;> first | exact hhi.elim | (subst hhi; simp [Instr.sliceBounds, sb, b2, b3])
    | some u =>
      cases u <;> first | exact hlo.elim | skip
      subst hlo
      cases hi with
      | none => subst hhi; simp [Instr.sliceBounds, sb, b1, b2]
      | some v => cases v <;> first | exact hhi.elim | (subst hhi; simp [Instr.sliceBounds, sb, b1, b3, show (0 : Int) ≤ h by omega, show (h.toNat : Int) = h by omega, b2])
  simp [Instr.sliceAt, run_underlying h2, Instr.slice, key]

theorem bound_lo {x : Option Operand} {d : Nat} {l : Int} (hx : ∀ y, x = some y → ARep w I ι (ev y) (a.eval y)) (h : boundOf d (x.map ev) = some l) : match x.map a.eval with | none => l = d | some (.int _ n) => l = n | _ => False := by
  cases x with
  | none => simp [boundOf] at h; exact h.symm
  | some y =>
    have hy := hx y rfl
    simp only [Option.map_some] at h ⊢
    unfold boundOf at h
    split at h
    · rename_i he; simp at he
    · rename_i k n he
      injection he with he
      rw [he] at hy
      rw [rep_raw hy]
      exact (Option.some.inj h).symm
    · exact absurd h (by simp)

theorem exec_slice {t : TypeId} {x : Operand} {lo hi : Option Operand} {v r : Value} (ho : o.op = .slice t x lo hi none) (hv : a.eval x = v)
    (hrun : (Instr.sliceAt t v (lo.map a.eval) (hi.map a.eval) none).run P w = .ok r w) : (execOp a.eval o).run P w = .ok (.value r) w := by
  simp only [execOp, ho, hv, Option.map_none, Sem.run_bind, hrun]
  rfl

theorem op_slice {t : TypeId} {x : Operand} {lo hi mx : Option Operand} (hT : TOk P T) (ho : o.op = .slice t x lo hi mx) (hs : SimH w I ι H) (hx : ARep w I ι (ev x) (a.eval x))
    (hlo : ∀ y, lo = some y → ARep w I ι (ev y) (a.eval y)) (hhi : ∀ y, hi = some y → ARep w I ι (ev y) (a.eval y))
    (h : chk mx.isNone (optK (T t) fun ti => match ti.d with
    | .slice e => optK (T e) fun ei => sliceK ei.size (ev x) (lo.map ev) (hi.map ev) fun u => K u H
    | .string => match ev x with
      | .p (.raw (.string s)) => optK (boundOf 0 (lo.map ev)) fun l => optK (boundOf s.size (hi.map ev)) fun h =>
          (0 ≤ l ∧ l ≤ h ∧ h ≤ s.size) ∧ K (.p (.raw (.string (s.extract l.toNat h.toNat)))) H
      | _ => False
    | _ => False)) (hn : Nx w I ι H K fun v w' => next (a.put o.dst v) w') : o.wp P a w next Q := by
  replace h := chkE h
  obtain ⟨q, h⟩ := h
  have q : mx = none := by simpa using q
  subst q
  replace h := optE h
  obtain ⟨ti, hti, h⟩ := h
  obtain ⟨i, d, z, h1, h2, h3, h4, h5, h6, h7, h8⟩ := tok hT hti
  split at h
  · rename_i e he
    replace h := optE h
    obtain ⟨ei, hei, h⟩ := h
    obtain ⟨ie, de, ze, g1, g2, g3, g4, g5, g6, g7, g8⟩ := tok hT hei
    rw [he] at h4
    obtain rfl := desc_slice h4
    unfold sliceK at h
    split at h
    · rename_i sz' xs hxe
      replace h := chkE h
      obtain ⟨c1, h⟩ := h
      have c1 : sz' = ei.size := of_decide_eq_true c1
      subst c1
      replace h := optE h
      obtain ⟨l, hl, h⟩ := h
      replace h := optE h
      obtain ⟨hh, hhh, h⟩ := h
      obtain ⟨b, h⟩ := h
      rw [hxe] at hx
      generalize hv : a.eval x = v at hx
      cases p_inv hx with
      | sl sz xs A c f hc hlen hA hr =>
        have hrun := slice_row (A := A) (c := c) h2 g1 (bound_lo hlo hl) (bound_lo hhi hhh) b hc w
        refine wp_val (w' := w) (exec_slice ho hv hrun) (hn.here hs h ?_)
        have hlenr : ((xs.take hh.toNat).drop l.toNat).length = hh.toNat - l.toNat := by simp; omega
        have hget : ∀ (j : Nat) (e : List PV), ((xs.take hh.toNat).drop l.toNat)[j]? = some e → xs[l.toNat + j]? = some e := fun j e hj => by
          rw [List.getElem?_drop] at hj
          rw [List.getElem?_take_of_lt (by have := (List.getElem?_eq_some_iff.1 hj).1; simp at this; omega)] at hj
          exact hj
        rw [← hlenr]
        refine .p (.sl ei.size _ _ _ (fun j k => f (l.toNat + j) k) (by rw [hlenr]; omega) (by rw [hlenr]; omega) ?_ (fun j e i u h1 h2 => hr (l.toNat + j) e i u (hget j e h1) h2))
        by_cases hem : (xs.take hh.toNat).drop l.toNat = []
        · exact .inl hem
        · have hne : l.toNat < hh.toNat := by
            rcases Nat.lt_or_ge l.toNat hh.toNat with h | h
            · exact h
            · exact absurd (List.length_eq_zero_iff.1 (by rw [hlenr]; omega)) hem
          rcases hA with hA | ⟨bb, oo, hA1, hA2, hA3⟩
          · subst hA; simp at hem
          · refine .inr ⟨bb, oo + l.toNat * ei.size, ?_, hA2, fun j e hj => ?_⟩
            · subst hA1
              rw [if_neg (by omega), ← g5]
              simp only [Option.map_some]
              rw [Addr.add_mid]
            · obtain ⟨r1, r2⟩ := hA3 (l.toNat + j) e (hget j e hj)
              refine ⟨r1, fun i hi => ?_⟩
              have := r2 i hi
              rw [Nat.add_mul, ← Nat.add_assoc] at this
              exact this
    · rename_i b sz' off len hxe
      replace h := chkE h
      obtain ⟨c1, h⟩ := h
      have c1 : sz' = ei.size := of_decide_eq_true c1
      subst c1
      replace h := optE h
      obtain ⟨l, hl, h⟩ := h
      replace h := optE h
      obtain ⟨hh, hhh, h⟩ := h
      obtain ⟨bd, h⟩ := h
      rw [hxe] at hx
      generalize hv : a.eval x = v at hx
      cases hx with
      | msl _ _ _ _ B c hB hc hsz =>
        have hrun := slice_row (A := some ⟨B, off * ei.size, none⟩) (c := c) h2 g1 (bound_lo hlo hl) (bound_lo hhi hhh) bd hc w
        refine wp_val (w' := w) (exec_slice ho hv hrun) (hn.here hs h ?_)
        by_cases hcl : c = l.toNat
        · rw [if_pos hcl]
          have e1 : hh.toNat - l.toNat = 0 := by omega
          have e2 : c - l.toNat = 0 := by omega
          rw [e1, e2]
          exact .msl0 _ _ _ _
        · rw [if_neg hcl]
          simp only [Option.map_some]
          rw [Addr.add_mid, ← g5, ← Nat.add_mul]
          obtain ⟨cs, tt, fr, k1, k2⟩ := hsz
          refine .msl _ _ _ _ _ _ hB (by omega) ⟨cs, tt, fr, k1, ?_⟩
          have : off + l.toNat + (c - l.toNat) = off + c := by omega
          rw [this]; exact k2
      | msl0 _ _ _ A =>
        have hrun := slice_row (A := A) (c := 0) h2 g1 (bound_lo hlo hl) (bound_lo hhi hhh) bd (Nat.le_refl _) w
        refine wp_val (w' := w) (exec_slice ho hv hrun) (hn.here hs h ?_)
        have e1 : hh.toNat - l.toNat = 0 := by omega
        rw [e1, Nat.zero_sub]
        exact .msl0 _ _ _ _
    · rename_i hxe
      replace h := optE h
      obtain ⟨l, hl, h⟩ := h
      replace h := optE h
      obtain ⟨hh, hhh, h⟩ := h
      obtain ⟨⟨hl0, hh0⟩, h⟩ := h
      subst hl0
      subst hh0
      rw [hxe] at hx
      have hv := rep_raw hx
      have hrun := slice_row (A := none) (len := 0) (c := 0) h2 g1 (bound_lo hlo hl) (bound_lo hhi hhh) ⟨Int.le_refl _, Int.le_refl _, by simp⟩ (Nat.le_refl _) w
      refine wp_val (w' := w) (exec_slice ho hv hrun) (hn.here hs h ?_)
      simp only [Int.toNat_zero, if_true, Nat.sub_zero]
      exact .p (.raw _ rfl)
    · exact h.elim
  · rename_i he
    rw [he] at h4
    obtain rfl := desc_string h4
    split at h
    · rename_i s hxe
      replace h := optE h
      obtain ⟨l, hl, h⟩ := h
      replace h := optE h
      obtain ⟨hh, hhh, h⟩ := h
      obtain ⟨bd, h⟩ := h
      rw [hxe] at hx
      have hv := rep_raw hx
      exact wp_val (w' := w) (exec_slice ho hv (slice_str h2 (bound_lo hlo hl) (bound_lo hhi hhh) bd w)) (hn.here hs h (.p (.raw _ rfl)))
    · exact h.elim
  · exact h.elim

theorem op_indexAddr {t : TypeId} {x y : Operand} (hT : TOk P T) (ho : o.op = .indexAddr t x y) (hs : SimH w I ι H) (hx : ARep w I ι (ev x) (a.eval x)) (hy : ARep w I ι (ev y) (a.eval y))
    {C : CallA} (h : aop P T C ev H K (.indexAddr t x y)) (hn : Nx w I ι H K fun v w' => next (a.put o.dst v) w') : o.wp P a w next Q := by
  simp only [aop, opV, opsL, List.map_cons, List.map_nil, on2] at h
  replace h := optE h
  obtain ⟨ti, hti, h⟩ := h
  obtain ⟨i, d, z, h1, h2, h3, h4, h5, h6, h7, h8⟩ := tok hT hti
  split at h
  · rename_i e he
    replace h := optE h
    obtain ⟨ei, hei, h⟩ := h
    obtain ⟨ie, de, ze, g1, g2, g3, g4, g5, g6, g7, g8⟩ := tok hT hei
    rw [he] at h4
    obtain rfl := desc_slice h4
    unfold indexK at h
    split at h
    · rename_i k n hye
      rw [hye] at hy
      have hvy := rep_raw hy
      split at h
      · rename_i sz' xs hd hxe
        replace h := chkE h
        obtain ⟨c1, h⟩ := h
        have c1 : sz' = ei.size := of_decide_eq_true c1
        subst c1
        obtain ⟨c2, h⟩ := h
        replace h := optE h
        obtain ⟨el, hel, h⟩ := h
        rw [hxe] at hx
        generalize hv : a.eval x = v at hx
        have hlt : n.toNat < xs.length := (List.getElem?_eq_some_iff.1 hel).1
        cases p_inv hx with
        | sl sz xs A c f hc hlen hA hr =>
          rcases hA with hA | ⟨bb, oo, hA1, hA2, hA3⟩
          · subst hA; simp at hel
          · subst hA1
            obtain ⟨r1, r2⟩ := hA3 n.toNat el hel
            refine wp_val (v := .pointer (some ⟨bb, oo + n.toNat * ei.size, none⟩)) (w' := w) ?_ (hn.here hs h ?_)
            · have hb : (0 : Int) ≤ n ∧ n < (xs.length : Int) := ⟨c2, by omega⟩
              simp [execOp, ho, hv, hvy, Instr.indexAt, asIntOf, run_underlying h2, hb, run_sizeOf g1, ← g5, Addr.add_mid]
            · exact .p (.box el bb _ (fun i => f n.toNat i) hA2 (fun i hi => r2 i (by omega)) (fun i u hu => hr n.toNat el i u hel hu))
      · rename_i b sz' off len hd hxe
        replace h := chkE h
        obtain ⟨c1, h⟩ := h
        have c1 : sz' = ei.size := of_decide_eq_true c1
        subst c1
        obtain ⟨⟨c2, c3⟩, h⟩ := h
        rw [hxe] at hx
        generalize hv : a.eval x = v at hx
        cases hx with
        | msl _ _ _ _ B c hB hc hsz =>
          refine wp_val (v := .pointer (some ⟨B, (off + n.toNat) * ei.size + 0, none⟩)) (w' := w) ?_ (hn.here hs h (.elr _ _ _ _ _ hB))
          have hb : (0 : Int) ≤ n ∧ n < (len : Int) := ⟨c2, c3⟩
          simp [execOp, ho, hv, hvy, Instr.indexAt, asIntOf, run_underlying h2, hb, run_sizeOf g1, ← g5, Addr.add_mid, Nat.add_mul]
        | msl0 _ _ _ A => omega
      · rename_i hd _; simp at hd
      · rename_i hd _; simp at hd
      · rename_i hd _; simp at hd
      · exact h.elim
    · exact h.elim
  · rename_i N e he
    replace h := optE h
    obtain ⟨ei, hei, h⟩ := h
    obtain ⟨ie, de, ze, g1, g2, g3, g4, g5, g6, g7, g8⟩ := tok hT hei
    rw [he] at h4
    obtain rfl := desc_array h4
    unfold indexK at h
    split at h
    · rename_i k n hye
      rw [hye] at hy
      have hvy := rep_raw hy
      split at h
      · rename_i hd _; simp at hd
      · rename_i hd _; simp at hd
      · rename_i N' e' b off hd hxe
        injection hd with hd1 hd2
        subst hd1
        obtain ⟨⟨c2, c3⟩, h⟩ := h
        rw [hxe] at hx
        generalize hv : a.eval x = v at hx
        cases hx with
        | ref _ _ B hB =>
          refine wp_val (v := .pointer (some ⟨B, off + n.toNat * ei.size, none⟩)) (w' := w) ?_ (hn.here hs h (.ref _ _ _ hB))
          have hb : (0 : Int) ≤ n ∧ n < (N : Int) := ⟨c2, c3⟩
          simp [execOp, ho, hv, hvy, Instr.indexAt, asIntOf, run_underlying h2, Instr.sureAddr, hb, run_sizeOf g1, ← g5, Addr.add_mid]
      · rename_i N' e' cs hd hxe
        injection hd with hd1 hd2
        subst hd1
        obtain ⟨⟨c2, c3⟩, h⟩ := h
        rw [hxe] at hx
        obtain ⟨u, ad, k1, k2, k3⟩ := addOff_ok (x := .p (.box cs)) (n := n.toNat * ei.size) (K := fun u => K u H) h hx
        refine wp_val (v := .pointer (some (ad.add (n.toNat * ei.size)))) (w' := w) ?_ (hn.here hs k1 k3)
        have hb : (0 : Int) ≤ n ∧ n < (N : Int) := ⟨c2, c3⟩
        simp [execOp, ho, k2, hvy, Instr.indexAt, asIntOf, run_underlying h2, Instr.sureAddr, hb, run_sizeOf g1, ← g5]
      · rename_i N' e' b sz' r off hd hxe
        injection hd with hd1 hd2
        subst hd1
        replace h := chkE h
        obtain ⟨c1, h⟩ := h
        rw [Bool.and_eq_true] at c1
        have c0 : sz' = ei.size := of_decide_eq_true c1.1
        have c5 : off = 0 := of_decide_eq_true c1.2
        clear c1
        subst c0
        subst c5
        obtain ⟨⟨c2, c3⟩, h⟩ := h
        rw [hxe] at hx
        generalize hv : a.eval x = v at hx
        cases hx with
        | elr _ _ _ _ B hB =>
          refine wp_val (v := .pointer (some ⟨B, (r + n.toNat) * ei.size + 0, none⟩)) (w' := w) ?_ (hn.here hs h (.elr _ _ _ _ _ hB))
          have hb : (0 : Int) ≤ n ∧ n < (N : Int) := ⟨c2, c3⟩
          simp [execOp, ho, hv, hvy, Instr.indexAt, asIntOf, run_underlying h2, Instr.sureAddr, hb, run_sizeOf g1, ← g5, Addr.add_mid, Nat.add_mul]
      · exact h.elim
    · exact h.elim
  · exact h.elim

end
end Go.Proofs.Ytolefphdldmlkaa.AL
