/- The abstract layer (second make), part l: calls; all operations in one theorem. -/
import Derived.Test.YtolefphdldmlkaaBLk2
import Derived.Laws.BytesString
namespace Go.Proofs.Ytolefphdldmlkaa.AL
open Go Go.RowKit

def callK (P : Program) (f : FuncId) (args : List AV) (H : List ABlk) (K : AV → List ABlk → Prop) : Prop := ∃ R, AF P f args H R ∧ ∀ r H', R r H' → K r H'
theorem callI {P : Program} {f : FuncId} {args : List AV} {H : List ABlk} {K R : AV → List ABlk → Prop} (h : AF P f args H R) (k : ∀ r H', R r H' → K r H') : callK P f args H K := ⟨R, h, k⟩
def yldK (P : Program) (b : Nat) (args : List AV) (H : List ABlk) (K : AV → List ABlk → Prop) : Prop := ∃ R, AY P b args H R ∧ ∀ r H', R r H' → K r H'
def callA (P : Program) : CallA := ⟨callK P, yldK P⟩

section
variable {P : Program} {T : TTab} {w : World} {I : Nat → Prop} {ι : Nat → Option Nat} {H : List ABlk} {K : AV → List ABlk → Prop} {o : Oper} {a : Act} {next : Act → World → Prop} {Q : Exit → Act → World → Prop} {ev : Operand → AV}

theorem Says.append {l l' : List AV} {cs cs' : Array Value} (h : Says w I ι l cs) (k : Says w I ι l' cs') : Says w I ι (l ++ l') (cs ++ cs') := by
  refine ⟨by simp [h.1, k.1], fun i u hu => ?_⟩
  rw [arr_getD, List.getD_eq_getElem?_getD, Array.toList_append]
  rcases Nat.lt_or_ge i l.length with hlt | hge
  · rw [List.getElem?_append_left hlt] at hu
    rw [List.getElem?_append_left (by rw [Array.length_toList, h.1]; exact hlt)]
    have := h.2 i u hu
    rwa [arr_getD, List.getD_eq_getElem?_getD] at this
  · rw [List.getElem?_append_right hge] at hu
    rw [List.getElem?_append_right (by rw [Array.length_toList, h.1]; exact hge), Array.length_toList, h.1]
    have := k.2 _ u hu
    rwa [arr_getD, List.getD_eq_getElem?_getD] at this

theorem Says.map {xs : Array Operand} (hx : ∀ x ∈ xs.toList, ARep w I ι (ev x) (a.eval x)) : Says w I ι (xs.toList.map ev) (xs.map a.eval) := by
  refine ⟨by simp, fun i u hu => ?_⟩
  simp only [List.getElem?_map, Option.map_eq_some_iff] at hu
  obtain ⟨x, hx', rfl⟩ := hu
  rw [arr_getD, Array.toList_map, List.getD_eq_getElem?_getD, List.getElem?_map, hx']
  exact hx x (List.mem_of_getElem? hx')

theorem Says.nil : Says w I ι [] #[] := ⟨rfl, fun i u h => by simp at h⟩

theorem op_call {c : Call} {f : Operand} (ho : o.op = .call c) (hcal : c.callee = .value f) {k : FuncId} {F C : Array Value} (hv : a.eval f = .func (.func k) F C) {L : List AV} (hL : Says w I ι L (F ++ c.args.map a.eval ++ C)) (hs : SimH w I ι H)
    (h : callK P k L H K) (hn : Nx w I ι H K fun v w' => next (a.put o.dst v) w') : o.wp P a w next Q := by
  obtain ⟨R, ⟨⟨fn, hfn, hbody, hname⟩, hC⟩, hR⟩ := h
  have hcall := hC w I ι _ hL.1 hL.2 hs
  unfold Oper.wp
  have hrun : (execOp a.eval o).run P w = .ok (.enter k (F ++ c.args.map a.eval ++ C)) w := by
    have hb' : fn.body ≠ none := by intro h0; simp [h0] at hbody
    have hn0 : fn.name ≠ "runtime.NumGoroutine" := by simpa using hname
    simp [execOp, ho, resolve, hcal, hv, Deferred.ofValue, invoke, callFunc, hfn, hb', hn0]
  rw [hrun, Oper.upon_enter]
  refine hcall.mono fun e w' ⟨v, r, H', I', ι', he, h1, h2, h3, h4⟩ => ?_
  subst he
  exact hn v w' r H' I' ι' (hR r H' h1) h2 h3 h4

/-- An operation goes in a round as anywhere. -/
theorem wpIn_of_wp {ro : Option Nat} (hd : ∀ c, o.op ≠ .defer c) (h : o.wp P a w next Q) : o.wpIn (fen ro) 0 P a w next Q := by
  unfold Oper.wpIn
  refine ⟨fun f _ => fen_fn ro f, ?_⟩
  rw [Oper.semAt_eq _ _ _ hd]
  unfold Oper.wp at h
  have hdep : (fen ro).depth.isSome = true → 1 ≤ 0 := fun e => by rw [fen_depth] at e; exact absurd e (by simp)
  generalize (execOp a.eval o).run P w = r at h ⊢
  cases r with
  | halt x w' => cases x <;> first | exact h | exact h.elim
  | ok x w' =>
    cases x <;> try first | exact h | exact h.elim
    · refine ⟨hdep, ?_⟩
      have h := (callsIn_wide (n := 0 - 1)).2 h
      cases ro with
      | none => exact h
      | some l => exact h
    · refine ⟨hdep, fun c cs hroom => ?_⟩
      obtain ⟨v, w'', hR, hst⟩ := h c cs
      refine ⟨v, w'', hR, ?_⟩
      have := stepsIn_wide.2 hst
      cases ro with
      | none => exact this
      | some l => exact this

theorem op_yield {ro : Option Nat} {c : Call} {f : Operand} (ho : o.op = .call c) (hcal : c.callee = .value f) {b : Nat} (hf : ev f = .yld b) (hs : SimH w I ι H) (hfr : ARep w I ι (ev f) (a.eval f)) (hx : ∀ x ∈ c.args.toList, ARep w I ι (ev x) (a.eval x))
    (h : yldK P b (c.args.toList.map ev) H K) (hn : Nx w I ι H K fun v w' => next (a.put o.dst v) w') : o.wpIn (fen ro) 0 P a w next Q := by
  obtain ⟨R, hY, hR⟩ := h
  rw [hf] at hfr
  generalize hv : a.eval f = v at hfr
  cases hfr with
  | yld _ B hB =>
    have hL := Says.map (ι := ι) hx
    obtain ⟨fn, tmps, assign, body, hrun, hround⟩ := hY w I ι _ B hL.1 hL.2 hs hB
    unfold Oper.wpIn
    refine ⟨fun f _ => fen_fn ro f, ?_⟩
    rw [Oper.semAt_eq _ _ _ (fun d h => by rw [ho] at h; cases h)]
    have hrun' : (execOp a.eval o).run P w = .ok (.round B fn tmps assign body) w := by
      simp [execOp, ho, resolve, hcal, hv, Deferred.ofValue, invoke, hrun]
    rw [hrun', Oper.uponIn_round]
    refine ⟨fun e => by rw [fen_depth] at e; exact absurd e (by simp), ?_⟩
    have hround : RoundIn (fen ro) (0 - 1) P B fn tmps assign body w (fun e w' => ∃ v r H' I' ι', e = .returned v ∧ R r H' ∧ ARep w' I' ι' r v ∧ SimH w' I' ι' H' ∧ Ex H.length w I ι H w' I' ι' H') := by
      cases ro with
      | none => exact hround
      | some l => exact hround
    refine hround.mono fun e w' ⟨v, r, H', I', ι', he, h1, h2, h3, h4⟩ => ?_
    subst he
    exact hn v w' r H' I' ι' (hR r H' h1) h2 h3 h4

theorem exec_builtin {c : Call} {b : Builtin} (ho : o.op = .call c) (hcal : c.callee = .builtin b) {v : Value} {w' : World}
    (h : ∀ consts, (builtin b c.argTypes o.type consts (c.args.map a.eval)).run P w = .ok (.value v) w') : (execOp a.eval o).run P w = .ok (.value v) w' := by
  simp only [execOp, ho, resolve, hcal, Sem.run_bind, Sem.run_pure, Result.andThen_ok, invoke]
  exact h _

theorem args1 {α β : Type} {xs : Array α} {g : α → β} {x : β} (h : xs.toList.map g = [x]) : ∃ y, xs = #[y] ∧ g y = x := by
  cases xs with | mk l => cases l with
    | nil => simp at h
    | cons y l => cases l with
      | nil => simp at h; exact ⟨y, rfl, h⟩
      | cons z l => simp at h
theorem args2 {α β : Type} {xs : Array α} {g : α → β} {x x' : β} (h : xs.toList.map g = [x, x']) : ∃ y y', xs = #[y, y'] ∧ g y = x ∧ g y' = x' := by
  cases xs with | mk l => cases l with
    | nil => simp at h
    | cons y l => cases l with
      | nil => simp at h
      | cons z l => cases l with
        | nil => simp at h; exact ⟨y, z, rfl, h⟩
        | cons u l => simp at h

theorem toList1 {α : Type} {xs : Array α} {x : α} (h : xs.toList = [x]) : xs = #[x] := by cases xs; simpa using h
theorem toList2 {α : Type} {xs : Array α} {x y : α} (h : xs.toList = [x, y]) : xs = #[x, y] := by cases xs; simpa using h

theorem zero_vals {ei : TI} {ie : TypeInfo} {ze : Value} (g5 : ei.size = ie.size) (g7 : ei.zero = ze.cells.toList) (g8 : ∀ v ∈ ze.cells.toList, v.oneCell' = true) (q2 : ei.zero.length = ei.size) (n : Nat) :
    RowVals w I ie.size (List.replicate n (zeroP ei)) (Builtin.zeroCells ze.cells n).toList := by
  have hzs : ze.cells.size = ie.size := by rw [← g5, ← q2, g7]; simp
  refine ⟨by simp [size_zeroCells, hzs], fun j e hj => ?_⟩
  have hjn := (List.getElem?_eq_some_iff.1 hj).1
  simp only [List.length_replicate] at hjn
  rw [List.getElem?_replicate, if_pos hjn] at hj
  obtain rfl := Option.some.inj hj
  refine ⟨by simp [zeroP, q2, g5], fun i u hu => ?_⟩
  simp only [zeroP, g7, List.getElem?_map, Option.map_eq_some_iff] at hu
  obtain ⟨y, hy, rfl⟩ := hu
  have hi : i < ie.size := by
    have := (List.getElem?_eq_some_iff.1 hy).1
    rw [Array.length_toList, hzs] at this; exact this
  have hmul : j * ie.size + ie.size ≤ n * ie.size := by rw [← Nat.succ_mul]; exact Nat.mul_le_mul_right _ hjn
  have : (Builtin.zeroCells ze.cells n).toList.getD (j * ie.size + i) undef = y := by
    rw [← arr_getD]
    simp only [Builtin.zeroCells]
    rw [Array.getD_eq_getD_getElem?, Array.getElem?_map, Array.getElem?_range, if_pos (by rw [hzs]; omega)]
    simp only [Option.map_some, Option.getD_some]
    rw [hzs, Nat.add_comm, Nat.add_mul_mod_self_right, Nat.mod_eq_of_lt hi, getElem!_pos ze.cells i (by omega)]
    have := (Array.getElem?_toList (xs := ze.cells) (i := i)).symm.trans hy
    rw [Array.getElem?_eq_getElem (by omega)] at this
    exact Option.some.inj this
  rw [this]
  exact .raw y (g8 y (List.mem_of_getElem? hy))

theorem clear_ok {t e : TypeId} {ei : TI} {ie : TypeInfo} {ze : Value} {x : AV} {v : Value} {K : List ABlk → Prop} {ty : TypeId} (h2 : P.underlying t = some (.slice e)) (g1 : P.info? e = some ie) (g3 : ie.zero = some ze) (g5 : ei.size = ie.size) (g7 : ei.zero = ze.cells.toList) (g8 : ∀ v ∈ ze.cells.toList, v.oneCell' = true)
    (q1 : 0 < ei.size) (q2 : ei.zero.length = ei.size) (hs : SimH w I ι H) (hx : ARep w I ι x v) (h : clearK H ei x K) :
    ∃ H' w', (Builtin.clear_ #[t] ty #[v]).run P w = .ok (.tuple #[]) w' ∧ K H' ∧ SimH w' I ι H' ∧ Ex H.length w I ι H w' I ι H' := by
  unfold clearK at h
  split at h
  · rename_i b sz off len
    split at h
    · rename_i e' sz' xs hb
      replace h := chkE h
      obtain ⟨c, hle, h⟩ := h
      simp only [Bool.and_eq_true, beq_iff_eq] at c
      obtain ⟨c1, c2⟩ := c
      subst c1 c2
      have hbk := getD_of_getElem? hb rfl
      have hz : RowVals w I ei.size (List.replicate len (zeroP ei)) (Builtin.zeroCells ze.cells len).toList := by rw [g5]; exact zero_vals g5 g7 g8 q2 len
      have nothing : ∀ (A : Option Addr) (c : Nat), (Builtin.clear_ #[t] ty #[.slice A 0 c]).run P w = .ok (.tuple #[]) w := fun A c => by
        cases A <;> simp [Builtin.clear_, run_underlying h2]
      have none0 : len = 0 → SimH w I ι (H.set b (.row e' ei.size (setL xs off (List.replicate len (zeroP ei))))) ∧ Ex H.length w I ι H w I ι (H.set b (.row e' ei.size (setL xs off (List.replicate len (zeroP ei))))) := by
        intro hl0
        subst hl0
        have hset : H.set b (.row e' ei.size (setL xs off (List.replicate 0 (zeroP ei)))) = H := by
          have : setL xs off (List.replicate 0 (zeroP ei)) = xs := by simp [setL]
          rw [this]
          apply List.ext_getElem?
          intro j
          by_cases hj : j = b
          · subst hj; rw [List.getElem?_set_self (List.getElem?_eq_some_iff.1 hbk).1]; exact hbk.symm
          · rw [List.getElem?_set_ne (by omega)]
        rw [hset]
        exact ⟨hs, Ex.refl (Nat.le_refl _)⟩
      cases hx with
      | msl0 _ _ _ A =>
        obtain ⟨k1, k2⟩ := none0 rfl
        exact ⟨_, w, nothing A 0, h, k1, k2⟩
      | msl _ _ _ _ B c hB hc hsz =>
        rcases Nat.eq_zero_or_pos len with hl0 | hlp
        · obtain ⟨k1, k2⟩ := none0 hl0
          subst hl0
          exact ⟨_, w, nothing _ c, h, k1, k2⟩
        · rcases hs.blk b _ hbk with ⟨hxn, q⟩ | ⟨B', cs, p1, p2, p3, p4, pl, p6⟩
          · rw [q] at hB; exact absurd hB (by simp)
          · rw [p1] at hB; obtain rfl := Option.some.inj hB
            have key := row_write hs hbk p1 p2 p4 pl p6 hz (by simpa using hle)
            refine ⟨_, _, ?_, h, key.1, key.2⟩
            have hmul : (off + len) * ei.size ≤ xs.length * ei.size := Nat.mul_le_mul_right _ hle
            rw [Nat.add_mul] at hmul
            have hlen := hz.1
            rw [List.length_replicate] at hlen
            have hth := there_of_block (w := w) (o := off * ei.size) (n := (Builtin.zeroCells ze.cells len).toList.length) p2 (by rw [hlen]; omega)
            have hrun := run_storeCells_cells (P := P) B' (off * ei.size) (Builtin.zeroCells ze.cells len).toList 0 w (fun j hj => by simpa using (hth j hj).1) (fun j hj => by simpa using (hth j hj).2) (hz.one (by omega))
            rw [Nat.add_zero] at hrun
            obtain ⟨m, rfl⟩ : ∃ m, len = m + 1 := ⟨len - 1, by omega⟩
            simp [Builtin.clear_, run_underlying h2, run_zeroValue g1 g3, hrun]
    · exact h.elim
  · have hv := rep_raw hx
    subst hv
    exact ⟨H, w, by simp [Builtin.clear_, run_underlying h2], h, hs, Ex.refl (Nat.le_refl _)⟩
  · exact h.elim

theorem op_builtin {c : Call} {b : Builtin} (hT : TOk P T) (ho : o.op = .call c) (hcal : c.callee = .builtin b) (hs : SimH w I ι H) (hx : ∀ x ∈ c.args.toList, ARep w I ι (ev x) (a.eval x))
    (h : builtinK T b c.argTypes.toList (c.args.toList.map ev) H K) (hn : Nx w I ι H K fun v w' => next (a.put o.dst v) w') : o.wp P a w next Q := by
  generalize hargs : c.args.toList.map ev = xs at h
  generalize hts : c.argTypes.toList = ts at h
  have mm : ∀ (mx : Bool) (x x' : AV), [x, x'] = xs → b = cond mx .max .min → minmaxK mx x x' (fun u => K u H) → o.wp P a w next Q := by
    intro mx x x' hxs hb h0
    subst hxs
    obtain ⟨y, y', hy, hyx, hyx'⟩ := args2 hargs
    have h1 := hx y (by rw [hy]; simp)
    have h2 := hx y' (by rw [hy]; simp)
    rw [hyx] at h1
    rw [hyx'] at h2
    unfold minmaxK at h0
    split at h0
    · rename_i k p k' q
      have v1 := rep_raw h1
      have v2 := rep_raw h2
      refine wp_val (w' := w) (exec_builtin ho hcal (v := .int k (cond mx (if q > p then q else p) (if q < p then q else p))) fun consts => ?_) (hn.here hs h0 (.p (.raw _ rfl)))
      subst hb
      rw [hy]
      cases mx
      · simp [builtin, v1, v2, run_min_int2]
      · simp [builtin, v1, v2, run_max_int2]
    · exact h0.elim
  unfold builtinK at h
  split at h
  · rename_i x
    split at h
    · rename_i t
      obtain ⟨y, hy, hyx⟩ := args1 hargs
      have hxy := hx y (by rw [hy]; simp)
      rw [hyx] at hxy
      replace h := optE h
      obtain ⟨ti, hti, h⟩ := h
      obtain ⟨i, d, z, h1, h2, h3, h4, h5, h6, h7, h8⟩ := tok hT hti
      have htt := toList1 hts
      unfold lenT at h
      split at h
      · rename_i e he
        rw [he] at h4
        obtain rfl := desc_slice h4
        have hlen : ∀ (A : Option Addr) (n c' : Nat), a.eval y = .slice A n c' → (execOp a.eval o).run P w = .ok (.value (.int .i64 n)) w := by
          intro A n c' hv
          refine exec_builtin ho hcal fun consts => ?_
          rw [hy, htt]
          simp [builtin, Builtin.len_, hv, run_underlying h2, goInt]
        unfold lenK at h
        split at h
        · generalize hv : a.eval y = v at hxy
          cases p_inv hxy with
          | sl => exact wp_val (hlen _ _ _ hv) (hn.here hs h (.p (.raw _ rfl)))
        · generalize hv : a.eval y = v at hxy
          cases hxy with
          | msl => exact wp_val (hlen _ _ _ hv) (hn.here hs h (.p (.raw _ rfl)))
          | msl0 => exact wp_val (hlen _ _ _ hv) (hn.here hs h (.p (.raw _ rfl)))
        · have hv := rep_raw hxy
          exact wp_val (hlen _ _ _ hv) (hn.here hs h (.p (.raw _ rfl)))
        · exact h.elim
      · rename_i he
        rw [he] at h4
        obtain rfl := desc_string h4
        split at h
        · rename_i s
          have hv := rep_raw hxy
          refine wp_val (exec_builtin ho hcal (v := .int .i64 s.size) fun consts => ?_) (hn.here hs h (.p (.raw _ rfl)))
          rw [hy, htt]
          simp [builtin, Builtin.len_, hv, run_underlying h2, goInt]
        · exact h.elim
      · rename_i n e he
        rw [he] at h4
        obtain rfl := desc_array h4
        refine wp_val (exec_builtin ho hcal (v := .int .i64 n) fun consts => ?_) (hn.here hs h (.p (.raw _ rfl)))
        rw [hy, htt]
        simp [builtin, Builtin.len_, run_underlying h2, goInt]
      · exact h.elim
    · exact h.elim
  · rename_i s x
    split at h
    · rename_i t t'
      replace h := chkE h
      obtain ⟨c1, h⟩ := h
      have c1 : t = t' := of_decide_eq_true c1
      subst c1
      obtain ⟨y, y', hy, hyx, hyx'⟩ := args2 hargs
      have k1 := hx y (by rw [hy]; simp)
      have k2 := hx y' (by rw [hy]; simp)
      rw [hyx] at k1
      rw [hyx'] at k2
      replace h := optE h
      obtain ⟨ti, hti, h⟩ := h
      obtain ⟨i, d, z, h1, h2, h3, h4, h5, h6, h7, h8⟩ := tok hT hti
      have htt := toList2 hts
      split at h
      · rename_i e he
        rw [he] at h4
        obtain rfl := desc_slice h4
        replace h := optE h
        obtain ⟨ei, hei, h⟩ := h
        obtain ⟨ie, de, ze, g1, g2, g3, g4, g5, g6, g7, g8⟩ := tok hT hei
        replace h := chkE h
        obtain ⟨q, h⟩ := h
        simp only [Bool.and_eq_true, decide_eq_true_eq, beq_iff_eq] at q
        obtain ⟨⟨q1, q2⟩, q3⟩ := q
        have hzs : ze.cells.size = ie.size := by rw [← g5, ← q3, g7]; simp
        obtain ⟨v', w', I', ι', r, H', e1, e2, e3, e4, e5⟩ := append_ok (ty := o.type) h2 g1 g2 g3 g5 g6 hzs q1 q2 hs k1 k2 h
        refine wp_val (exec_builtin ho hcal fun consts => ?_) (hn _ _ _ _ _ _ e2 e3 e4 e5)
        rw [hy, htt]
        simp [builtin, e1]
      · exact h.elim
    · exact h.elim
  · exact mm true _ _ rfl rfl h
  · exact mm false _ _ rfl rfl h
  · rename_i x
    split at h
    · rename_i t
      obtain ⟨y, hy, hyx⟩ := args1 hargs
      have hxy := hx y (by rw [hy]; simp)
      rw [hyx] at hxy
      replace h := optE h
      obtain ⟨ti, hti, h⟩ := h
      obtain ⟨i, d, z, h1, h2, h3, h4, h5, h6, h7, h8⟩ := tok hT hti
      have htt := toList1 hts
      split at h
      · rename_i e he
        rw [he] at h4
        obtain rfl := desc_slice h4
        replace h := optE h
        obtain ⟨ei, hei, h⟩ := h
        obtain ⟨ie, de, ze, g1, g2, g3, g4, g5, g6, g7, g8⟩ := tok hT hei
        replace h := chkE h
        obtain ⟨q, h⟩ := h
        simp only [Bool.and_eq_true, decide_eq_true_eq, beq_iff_eq] at q
        obtain ⟨q1, q2⟩ := q
        obtain ⟨H', w', r1, r2, r3, r4⟩ := clear_ok (ty := o.type) h2 g1 g3 g5 g7 g8 q1 q2 hs hxy h
        refine wp_val (exec_builtin ho hcal (v := .tuple #[]) fun consts => ?_) (hn _ _ _ _ _ _ r2 (.top _) r3 r4)
        rw [hy, htt]
        simp [builtin, r1]
      · exact h.elim
    · exact h.elim
  · exact h.elim

theorem push_fold : ∀ (bs : List UInt8) (s : ByteArray), (bs.map fun b => (b.toNat : Int)).foldl (fun r n => r.push (UInt8.ofNat n.toNat)) s = ⟨s.data ++ bs.toArray⟩
  | [], s => by simp
  | b :: bs, s => by
    rw [List.map_cons, List.foldl_cons, push_fold bs]
    simp [ByteArray.push]

theorem src_slice {sz : Nat} {x : AV} {v : Value} {ys : List (List PV)} (h : srcOf H sz x = some ys) (hx : ARep w I ι x v) : ∃ A c, v = .slice A ys.length c := by
  unfold srcOf at h
  split at h
  · split at h
    · obtain rfl := Option.some.inj h
      cases p_inv hx with
      | sl => exact ⟨_, _, rfl⟩
    · exact absurd h (by simp)
  · rename_i b sz' off len
    split at h
    · rename_i e sz'' xs hb
      split at h
      · rename_i hc
        obtain rfl := Option.some.inj h
        simp only [Bool.and_eq_true, Nat.ble_eq] at hc
        have hl : ((xs.drop off).take len).length = len := by simp; omega
        rw [hl]
        cases hx with
        | msl => exact ⟨_, _, rfl⟩
        | msl0 => exact ⟨_, _, rfl⟩
      · exact absurd h (by simp)
    · exact absurd h (by simp)
  · obtain rfl := Option.some.inj h
    have hv := rep_raw hx
    exact ⟨none, 0, hv⟩
  · exact absurd h (by simp)

theorem conv_str {src dst : TypeId} {x : Operand} {e : TypeId} (hT : TOk P T) (ho : o.op = .convert src dst x) (hs : SimH w I ι H) (hx : ARep w I ι (ev x) (a.eval x)) (h1 : P.underlying src = some (.slice e)) (h2 : P.underlying dst = some .string)
    (h : optK (T e) fun ei => match ei.d with
      | .int .u8 => chk (ei.size == 1) (optK (srcOf H 1 (ev x)) fun ys => ∃ bs : List UInt8, ys = bs.map (fun b => [PV.raw (.int .u8 b.toNat)]) ∧ K (.p (.raw (.string ⟨bs.toArray⟩))) H)
      | _ => False) (hn : Nx w I ι H K fun v w' => next (a.put o.dst v) w') : o.wp P a w next Q := by
  obtain ⟨ei, hei, h⟩ := optE h
  obtain ⟨ie, de, ze, g1, g2, g3, g4, g5, g6, g7, g8⟩ := tok hT hei
  split at h
  · rename_i he
    rw [he] at g4
    obtain rfl := desc_int g4
    obtain ⟨c, h⟩ := chkE h
    obtain ⟨ys, hys, bs, rfl, h⟩ := optE h
    obtain ⟨news, hsrc, hrv⟩ := srcOf_ok h1 (Nat.lt_succ_self 0) hs hys hx
    have hnews : news = bs.map fun b => Value.int .u8 b.toNat := by
      apply List.ext_getElem?
      intro j
      have hl := hrv.1
      simp only [List.length_map, Nat.mul_one] at hl
      rcases Nat.lt_or_ge j bs.length with hlt | hge
      · obtain ⟨_, r2⟩ := hrv.2 j [PV.raw (.int .u8 bs[j].toNat)] (by rw [List.getElem?_map, List.getElem?_eq_getElem hlt]; rfl)
        have := r2 0 _ rfl
        rw [Nat.mul_one, Nat.add_zero, List.getD_eq_getElem?_getD, List.getElem?_eq_getElem (by omega)] at this
        generalize hq : (some news[j]).getD undef = q at this
        cases this
        rw [List.getElem?_map, List.getElem?_eq_getElem hlt, List.getElem?_eq_getElem (by omega)]
        simp at hq ⊢; exact hq
      · rw [List.getElem?_eq_none (by omega), List.getElem?_eq_none (by simp; omega)]
    refine wp_val (v := .string ⟨bs.toArray⟩) (w' := w) ?_ (hn.here hs h (.p (.raw _ rfl)))
    obtain ⟨A, c', hv⟩ := src_slice hys hx
    have hns : bs.map (fun b => Value.int .u8 b.toNat) = (bs.map fun b => (b.toNat : Int)).map (Value.int .u8) := by simp
    rw [hv] at hsrc
    have hcells := hsrc.cells
    have hrun : (Conv.bytesToString (.slice A (bs.map fun b => [PV.raw (.int .u8 b.toNat)]).length c')).run P w = .ok (.string ⟨bs.toArray⟩) w := by
      cases A with
      | none =>
        have hn0 : news = [] := by
          have : Result.ok (#[] : Array Value) w = .ok news.toArray w := by simpa [Builtin.firstCells] using hcells
          have := (Result.ok.inj this).1
          simpa using this.symm
        have hb0 : bs = [] := by
          rw [hn0] at hnews
          have := congrArg List.length hnews
          exact List.length_eq_zero_iff.1 (by simpa using this.symm)
        subst hb0
        rfl
      | some ad =>
        have := run_bytesToString (P := P) w ad (bs.map fun b => [PV.raw (.int .u8 b.toNat)]).length c' (bs.map fun b => (b.toNat : Int)) (by
          rw [hnews, hns] at hcells
          simpa [Builtin.firstCells] using hcells)
        rw [this, push_fold]
        simp [ByteArray.empty, ByteArray.emptyWithCapacity]
        rfl
    have := run_convert_bytes_string (P := P) w src dst e A (bs.map fun b => [PV.raw (.int .u8 b.toNat)]).length c' h1 g2 h2
    simp only [execOp, ho, hv, Sem.run_bind, this, hrun]
    rfl
  · exact h.elim

theorem aop_sound {ro : Option Nat} (hT : TOk P T) (hs : SimH w I ι H) (hx : ∀ x ∈ opsL o.op, ARep w I ι (ev x) (a.eval x)) (h : aop P T (callA P) ev H K o.op) (hn : Nx w I ι H K fun v w' => next (a.put o.dst v) w') : o.wpIn (fen ro) 0 P a w next Q := by
  generalize ho : o.op = op at h hx
  have nd : (∀ c, op ≠ .defer c) → ∀ c, o.op ≠ .defer c := fun h => by rw [ho]; exact h
  cases op <;> try exact h.elim
  case call c =>
    unfold aop at h
    simp only [opV] at h
    split at h
    · rename_i f hf
      have hx' : ∀ x ∈ c.args.toList, ARep w I ι (ev x) (a.eval x) := fun x hx' => hx x (by simp only [opsL]; exact List.mem_append_right _ hx')
      have hfr := hx f (by simp [opsL, hf])
      simp only [opsL, hf, List.singleton_append, List.map_cons, onC] at h
      have hargs := Says.map (ι := ι) hx'
      unfold calleeK at h
      split at h
      · rename_i k caps hk
        rw [hk] at hfr
        generalize hv : a.eval f = v at hfr
        cases hfr with
        | clo _ _ vs hn' hr => exact wpIn_of_wp (nd (fun _ => by simp)) (op_call ho hf hv (by simpa using hargs.append ⟨hn', hr⟩) hs h hn)
      · rename_i k first hk
        rw [hk] at hfr
        generalize hv : a.eval f = v at hfr
        cases hfr with
        | mth _ _ vs hn' hr => exact wpIn_of_wp (nd (fun _ => by simp)) (op_call ho hf hv (by simpa using Says.append ⟨hn', hr⟩ hargs) hs h hn)
      · rename_i b hb
        exact op_yield ho hf hb hs hfr hx' h hn
      · rename_i k hk
        rw [hk] at hfr
        have hv := rep_raw hfr
        exact wpIn_of_wp (nd (fun _ => by simp)) (op_call ho hf hv (by simpa using hargs) hs h hn)
      · exact h.elim
    · rename_i b hb
      simp only [opsL, hb, List.nil_append] at h
      exact wpIn_of_wp (nd (fun _ => by simp)) (op_builtin hT ho hb hs (fun x hx' => hx x (by simp only [opsL]; exact List.mem_append_right _ hx')) h hn)
    · exact h.elim
  all_goals refine wpIn_of_wp (nd (fun _ => by simp)) ?_
  case move x => exact op_move (.inl ho) hs (hx x (by simp [opsL])) h hn
  case assign x => exact op_move (.inr ho) hs (hx x (by simp [opsL])) h hn
  case pick c x y => exact op_pick ho hs (hx c (by simp [opsL])) (hx x (by simp [opsL])) (hx y (by simp [opsL])) h hn
  case alloc t => exact op_alloc hT ho hs h hn
  case box t x => exact op_box ho hs (hx x (by simp [opsL])) h hn
  case build t ps => exact op_build hT ho hs (fun p hp => hx p.2 (by simp only [opsL]; exact List.mem_map_of_mem hp)) h hn
  case buildSlice t n ps => exact op_buildSlice hT ho hs (fun p hp => hx p.2 (by simp only [opsL]; exact List.mem_map_of_mem hp)) h hn
  case load t x => exact op_load hT ho hs (hx x (by simp [opsL])) h hn
  case store t p x => exact op_store hT ho hs (hx p (by simp [opsL])) (hx x (by simp [opsL])) h hn
  case binOp op t x y yt => exact op_bin hT ho hs (hx x (by simp [opsL])) (hx y (by simp [opsL])) h hn
  case unOp op t x => exact op_un ho hs (hx x (by simp [opsL])) h hn
  case convert s d x =>
    have hx1 := hx x (by simp [opsL])
    exact op_convert hT ho hs hx1 (fun e h1 h2 h3 => conv_str hT ho hs hx1 h2 h3 h1 hn) h hn
  case makeFunc fn first caps =>
    simp only [aop, opV, opsL] at h
    split at h
    · rename_i he
      have he : first = #[] := by simpa using he
      subst he
      exact op_makeFunc ho hs (fun x hx' => hx x (by simp [opsL]; simpa using hx')) (chkI rfl (by simpa using h)) hn
    · obtain ⟨c, h⟩ := chkE h
      have hc : caps = #[] := by
        have : first.size + caps.size = first.size := by simpa using c
        exact Array.eq_empty_of_size_eq_zero (by omega)
      subst hc
      exact op_makeMth ho hs (fun x hx' => hx x (by simp [opsL]; simpa using hx')) rfl (by simpa using h) hn
  case makeSlice t l c => exact op_makeSlice hT ho hs (hx l (by simp [opsL])) (hx c (by simp [opsL])) h hn
  case slice t x lo hi mx =>
    refine op_slice hT ho hs (hx x (by simp [opsL])) (fun y hy => hx y (by simp [opsL, hy])) (fun y hy => hx y (by simp [opsL, hy])) ?_ hn
    cases lo <;> cases hi <;> exact h
  case fieldAddr s x f => exact op_fieldAddr hT ho hs (hx x (by simp [opsL])) h hn
  case field s x f => exact op_field hT ho hs (hx x (by simp [opsL])) h hn
  case indexAddr t x y => exact op_indexAddr hT ho hs (hx x (by simp [opsL])) (hx y (by simp [opsL])) h hn
  case index t x y => exact op_index hT ho hs (hx x (by simp [opsL])) (hx y (by simp [opsL])) h hn
  case extract x i => exact op_extract ho hs (hx x (by simp [opsL])) h hn
  case nilCheck x => exact op_nilCheck ho hs (hx x (by simp [opsL])) h hn
  case makeMap t r => exact op_makeMap ho hs h hn
  case insert t m k x => exact op_mapPut hT (.inr ho) hs (hx m (by simp [opsL])) (hx k (by simp [opsL])) (hx x (by simp [opsL])) h hn
  case mapUpdate t m k x => exact op_mapPut hT (.inl ho) hs (hx m (by simp [opsL])) (hx k (by simp [opsL])) (hx x (by simp [opsL])) h hn
  case lookup t m k ok => exact op_lookup hT ho hs (hx m (by simp [opsL])) (hx k (by simp [opsL])) h hn

end
end Go.Proofs.Ytolefphdldmlkaa.AL
