/- The abstract layer, part l: calls; all operations in one theorem. -/
import Derived.Test.YtdncagppilehgaaALk
namespace Go.Proofs.Ytdncagppilehgaa.AL
open Go Go.RowKit

def callK (P : Program) (f : FuncId) (args : List AV) (H : List ABlk) (K : AV → List ABlk → Prop) : Prop := ∃ R, AF P f args H R ∧ ∀ r H', R r H' → K r H'
theorem callI {P : Program} {f : FuncId} {args : List AV} {H : List ABlk} {K R : AV → List ABlk → Prop} (h : AF P f args H R) (k : ∀ r H', R r H' → K r H') : callK P f args H K := ⟨R, h, k⟩

section
variable {P : Program} {T : TTab} {w : World} {I : Nat → Prop} {ι : Nat → Option Nat} {H : List ABlk} {K : AV → List ABlk → Prop} {o : Oper} {a : Act} {next : Act → World → Prop} {Q : Exit → Act → World → Prop} {ev : Operand → AV}

theorem op_call {c : Call} {f : Operand} (ho : o.op = .call c) (hcal : c.callee = .value f) {k : FuncId} {caps : List AV} (hf : ev f = .clo (.func k) caps) (hs : SimH w I ι H) (hfr : ARep w I ι (ev f) (a.eval f)) (hx : ∀ x ∈ c.args.toList, ARep w I ι (ev x) (a.eval x))
    (h : callK P k (c.args.toList.map ev ++ caps) H K) (hn : Nx w I ι H K fun v w' => next (a.put o.dst v) w') : o.wp P a w next Q := by
  obtain ⟨R, ⟨⟨fn, hfn, hbody, hname⟩, hC⟩, hR⟩ := h
  rw [hf] at hfr
  generalize hv : a.eval f = v at hfr
  cases hfr with
  | clo _ _ vs hn' hr =>
    have hlen : (c.args.map a.eval ++ vs).size = (c.args.toList.map ev ++ caps).length := by simp [hn']
    have hrep : ∀ i u, (c.args.toList.map ev ++ caps)[i]? = some u → ARep w I ι u ((c.args.map a.eval ++ vs).getD i undef) := by
      intro i u hu
      rw [arr_getD, List.getD_eq_getElem?_getD, Array.toList_append, Array.toList_map]
      rcases Nat.lt_or_ge i (c.args.toList.map ev).length with hlt | hge
      · rw [List.getElem?_append_left hlt] at hu
        rw [List.getElem?_append_left (by simpa using hlt)]
        simp only [List.getElem?_map, Option.map_eq_some_iff] at hu
        obtain ⟨x, hx', rfl⟩ := hu
        rw [List.getElem?_map, hx']
        exact hx x (List.mem_of_getElem? hx')
      · rw [List.getElem?_append_right hge] at hu
        rw [List.getElem?_append_right (by simpa using hge)]
        have := hr _ u hu
        rw [arr_getD, List.getD_eq_getElem?_getD] at this
        simp only [List.length_map] at this ⊢
        exact this
    have hcall := hC w I ι _ hlen hrep hs
    unfold Oper.wp
    have hrun : (execOp a.eval o).run P w = .ok (.enter k (c.args.map a.eval ++ vs)) w := by
      have hb' : fn.body ≠ none := by intro h0; simp [h0] at hbody
      have hn0 : fn.name ≠ "runtime.NumGoroutine" := by simpa using hname
      simp [execOp, ho, resolve, hcal, hv, Deferred.ofValue, invoke, callFunc, hfn, hb', hn0]
    rw [hrun, Oper.upon_enter]
    refine hcall.mono fun e w' ⟨v, r, H', I', ι', he, h1, h2, h3, h4⟩ => ?_
    subst he
    exact hn v w' r H' I' ι' (hR r H' h1) h2 h3 h4

theorem exec_builtin {c : Call} {b : Builtin} (ho : o.op = .call c) (hcal : c.callee = .builtin b) {v : Value} {w' : World}
    (h : ∀ consts, (builtin b c.argTypes o.type consts (c.args.map a.eval)).run P w = .ok (.value v) w') : (execOp a.eval o).run P w = .ok (.value v) w' := by
  simp only [execOp, ho, resolve, hcal, Sem.run_bind, Sem.run_pure, Result.andThen_ok, invoke]
  exact h _

theorem args1 {α β : Type} {xs : Array α} {g : α → β} {x : β} (h : xs.toList.map g = [x]) : ∃ y, xs = #[y] ∧ g y = x := by
  cases xs with | mk l => cases l with
    | nil => simp at h
    | cons y l => cases l with
      | nil => simp at h; exact ⟨y, rfl, h⟩
      | cons z l => simp at h
theorem args2 {α β : Type} {xs : Array α} {g : α → β} {x x' : β} (h : xs.toList.map g = [x, x']) : ∃ y y', xs = #[y, y'] ∧ g y = x ∧ g y' = x' := by
  cases xs with | mk l => cases l with
    | nil => simp at h
    | cons y l => cases l with
      | nil => simp at h
      | cons z l => cases l with
        | nil => simp at h; exact ⟨y, z, rfl, h⟩
        | cons u l => simp at h

theorem toList1 {α : Type} {xs : Array α} {x : α} (h : xs.toList = [x]) : xs = #[x] := by cases xs; simpa using h
theorem toList2 {α : Type} {xs : Array α} {x y : α} (h : xs.toList = [x, y]) : xs = #[x, y] := by cases xs; simpa using h

theorem op_builtin {c : Call} {b : Builtin} (hT : TOk P T) (ho : o.op = .call c) (hcal : c.callee = .builtin b) (hs : SimH w I ι H) (hx : ∀ x ∈ c.args.toList, ARep w I ι (ev x) (a.eval x))
    (h : builtinK T b c.argTypes.toList (c.args.toList.map ev) H K) (hn : Nx w I ι H K fun v w' => next (a.put o.dst v) w') : o.wp P a w next Q := by
  generalize hargs : c.args.toList.map ev = xs at h
  generalize hts : c.argTypes.toList = ts at h
  have mm : ∀ (mx : Bool) (x x' : AV), [x, x'] = xs → b = cond mx .max .min → minmaxK mx x x' (fun u => K u H) → o.wp P a w next Q := by
    intro mx x x' hxs hb h0
    subst hxs
    obtain ⟨y, y', hy, hyx, hyx'⟩ := args2 hargs
    have h1 := hx y (by rw [hy]; simp)
    have h2 := hx y' (by rw [hy]; simp)
    rw [hyx] at h1
    rw [hyx'] at h2
    unfold minmaxK at h0
    split at h0
    · rename_i k p k' q
      have v1 := rep_raw h1
      have v2 := rep_raw h2
      refine wp_val (w' := w) (exec_builtin ho hcal (v := .int k (cond mx (if q > p then q else p) (if q < p then q else p))) fun consts => ?_) (hn.here hs h0 (.p (.raw _ rfl)))
      subst hb
      rw [hy]
      cases mx
      · simp [builtin, v1, v2, run_min_int2]
      · simp [builtin, v1, v2, run_max_int2]
    · exact h0.elim
  unfold builtinK at h
  split at h
  · rename_i x
    split at h
    · rename_i t
      obtain ⟨y, hy, hyx⟩ := args1 hargs
      have hxy := hx y (by rw [hy]; simp)
      rw [hyx] at hxy
      replace h := optE h
      obtain ⟨ti, hti, h⟩ := h
      obtain ⟨i, d, z, h1, h2, h3, h4, h5, h6, h7, h8⟩ := tok hT hti
      have htt := toList1 hts
      split at h
      · rename_i e he
        rw [he] at h4
        obtain rfl := desc_slice h4
        have hlen : ∀ (A : Option Addr) (n c' : Nat), a.eval y = .slice A n c' → (execOp a.eval o).run P w = .ok (.value (.int .i64 n)) w := by
          intro A n c' hv
          refine exec_builtin ho hcal fun consts => ?_
          rw [hy, htt]
          simp [builtin, Builtin.len_, hv, run_underlying h2, goInt]
        unfold lenK at h
        split at h
        · generalize hv : a.eval y = v at hxy
          cases p_inv hxy with
          | sl => exact wp_val (hlen _ _ _ hv) (hn.here hs h (.p (.raw _ rfl)))
        · generalize hv : a.eval y = v at hxy
          cases hxy with
          | msl => exact wp_val (hlen _ _ _ hv) (hn.here hs h (.p (.raw _ rfl)))
          | msl0 => exact wp_val (hlen _ _ _ hv) (hn.here hs h (.p (.raw _ rfl)))
        · have hv := rep_raw hxy
          exact wp_val (hlen _ _ _ hv) (hn.here hs h (.p (.raw _ rfl)))
        · exact h.elim
      · exact h.elim
    · exact h.elim
  · rename_i s x
    split at h
    · rename_i t t'
      replace h := chkE h
      obtain ⟨c1, h⟩ := h
      have c1 : t = t' := of_decide_eq_true c1
      subst c1
      obtain ⟨y, y', hy, hyx, hyx'⟩ := args2 hargs
      have k1 := hx y (by rw [hy]; simp)
      have k2 := hx y' (by rw [hy]; simp)
      rw [hyx] at k1
      rw [hyx'] at k2
      replace h := optE h
      obtain ⟨ti, hti, h⟩ := h
      obtain ⟨i, d, z, h1, h2, h3, h4, h5, h6, h7, h8⟩ := tok hT hti
      have htt := toList2 hts
      split at h
      · rename_i e he
        rw [he] at h4
        obtain rfl := desc_slice h4
        replace h := optE h
        obtain ⟨ei, hei, h⟩ := h
        obtain ⟨ie, de, ze, g1, g2, g3, g4, g5, g6, g7, g8⟩ := tok hT hei
        replace h := chkE h
        obtain ⟨q, h⟩ := h
        simp only [Bool.and_eq_true, decide_eq_true_eq, beq_iff_eq] at q
        obtain ⟨⟨q1, q2⟩, q3⟩ := q
        have hzs : ze.cells.size = ie.size := by rw [← g5, ← q3, g7]; simp
        obtain ⟨v', w', I', ι', r, H', e1, e2, e3, e4, e5⟩ := append_ok (ty := o.type) h2 g1 g2 g3 g5 g6 hzs q1 q2 hs k1 k2 h
        refine wp_val (exec_builtin ho hcal fun consts => ?_) (hn _ _ _ _ _ _ e2 e3 e4 e5)
        rw [hy, htt]
        simp [builtin, e1]
      · exact h.elim
    · exact h.elim
  · exact mm true _ _ rfl rfl h
  · exact mm false _ _ rfl rfl h
  · exact h.elim

def opsL : Op → List Operand
  | .move x | .assign x | .box _ x | .load _ x | .unOp _ _ x | .convert _ _ x | .fieldAddr _ x _ | .field _ x _ | .extract x _ | .nilCheck x => [x]
  | .pick c a b => [c, a, b]
  | .build _ ps | .buildSlice _ _ ps => ps.toList.map (·.2)
  | .store _ a x | .binOp _ _ a x _ | .makeSlice _ a x | .indexAddr _ a x => [a, x]
  | .makeFunc _ _ caps => caps.toList
  | .slice _ x lo hi _ => [x] ++ lo.toList ++ hi.toList
  | .call c => (match c.callee with | .value f => [f] | _ => []) ++ c.args.toList
  | _ => []

theorem aop_sound (hT : TOk P T) (hs : SimH w I ι H) (hx : ∀ x ∈ opsL o.op, ARep w I ι (ev x) (a.eval x)) (h : aop P T (callK P) ev H K o.op) (hn : Nx w I ι H K fun v w' => next (a.put o.dst v) w') : o.wp P a w next Q := by
  generalize ho : o.op = op at h hx
  cases op <;> try exact h.elim
  case move x => exact op_move (.inl ho) hs (hx x (by simp [opsL])) h hn
  case assign x => exact op_move (.inr ho) hs (hx x (by simp [opsL])) h hn
  case pick c x y => exact op_pick ho hs (hx c (by simp [opsL])) (hx x (by simp [opsL])) (hx y (by simp [opsL])) h hn
  case alloc t => exact op_alloc hT ho hs h hn
  case box t x => exact op_box ho hs (hx x (by simp [opsL])) h hn
  case build t ps => exact op_build hT ho hs (fun p hp => hx p.2 (by simp only [opsL]; exact List.mem_map_of_mem hp)) h hn
  case buildSlice t n ps => exact op_buildSlice hT ho hs (fun p hp => hx p.2 (by simp only [opsL]; exact List.mem_map_of_mem hp)) h hn
  case load t x => exact op_load hT ho hs (hx x (by simp [opsL])) h hn
  case store t p x => exact op_store hT ho hs (hx p (by simp [opsL])) (hx x (by simp [opsL])) h hn
  case binOp op t x y yt => exact op_bin hT ho hs (hx x (by simp [opsL])) (hx y (by simp [opsL])) h hn
  case unOp op t x => exact op_un ho hs (hx x (by simp [opsL])) h hn
  case convert s d x => exact op_convert hT ho hs (hx x (by simp [opsL])) h hn
  case makeFunc fn first caps => exact op_makeFunc ho hs (fun x hx' => hx x (by simpa [opsL] using hx')) h hn
  case makeSlice t l c => exact op_makeSlice hT ho hs (hx l (by simp [opsL])) (hx c (by simp [opsL])) h hn
  case slice t x lo hi mx => exact op_slice hT ho hs (hx x (by simp [opsL])) (fun y hy => hx y (by simp [opsL, hy])) (fun y hy => hx y (by simp [opsL, hy])) h hn
  case fieldAddr s x f => exact op_fieldAddr hT ho hs (hx x (by simp [opsL])) h hn
  case field s x f => exact op_field hT ho hs (hx x (by simp [opsL])) h hn
  case indexAddr t x y => exact op_indexAddr hT ho hs (hx x (by simp [opsL])) (hx y (by simp [opsL])) h hn
  case extract x i => exact op_extract ho hs (hx x (by simp [opsL])) h hn
  case nilCheck x => exact op_nilCheck ho hs (hx x (by simp [opsL])) h hn
  case call c =>
    simp only [aop] at h
    split at h
    · rename_i f hf
      split at h
      · rename_i k caps hk
        exact op_call ho hf hk hs (hx f (by simp [opsL, hf])) (fun x hx' => hx x (by simp only [opsL]; exact List.mem_append_right _ hx')) h hn
      · exact h.elim
    · rename_i b hb
      exact op_builtin hT ho hb hs (fun x hx' => hx x (by simp only [opsL]; exact List.mem_append_right _ hx')) h hn
    · exact h.elim

end
end Go.Proofs.Ytdncagppilehgaa.AL
