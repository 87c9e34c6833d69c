/- The abstract layer (second make), part g: each operation, proved against the machine (numbers, builds, addresses). -/
import Derived.Test.YtolefphdldmlkaaBLf
namespace Go.Proofs.Ytolefphdldmlkaa.AL
open Go Go.RowKit

section
variable {P : Program} {T : TTab} {w : World} {I : Nat → Prop} {ι : Nat → Option Nat} {H : List ABlk} {K : AV → List ABlk → Prop} {o : Oper} {a : Act} {next : Act → World → Prop} {Q : Exit → Act → World → Prop} {ev : Operand → AV}

theorem shift_ok {op : BinOp} {k yk : IntKind} {x y : Int} {K : Value → Prop} (h : shiftK op k x y K) : ∃ v, K v ∧ v.oneCell' = true ∧ Op.shift op k x yk y = pure v := by
  cases op <;> simp only [shiftK] at h <;> first | exact h.elim | skip
  all_goals
    obtain ⟨h1, h2⟩ := chkE h
    have h1 := of_decide_eq_true h1
    refine ⟨_, h2, rfl, ?_⟩
    simp only [Op.shift]
    rw [if_neg (by omega)]

theorem int_ok {op : BinOp} {k : IntKind} {x y : Int} {K : Value → Prop} (h : intK op k x y K) (w : World) (t : TypeId) (xo yo : Operand) :
    ∃ v, K v ∧ v.oneCell' = true ∧ (binG op t xo yo (.int k x) (.int k y)).run P w = .ok v w := by
  have hg : eqGuard op t xo yo (.int k x) (.int k y) = pure () := by cases op <;> rfl
  cases op <;> simp only [intK] at h <;> first | exact h.elim | skip
  case quo =>
    obtain ⟨h1, h2⟩ := chkE h
    have h1 := of_decide_eq_true h1
    exact ⟨_, h2, rfl, by simp [binG, hg, binOp, Op.intDiv, h1]⟩
  case rem =>
    obtain ⟨h1, h2⟩ := chkE h
    have h1 := of_decide_eq_true h1
    exact ⟨_, h2, rfl, by simp [binG, hg, binOp, Op.intDiv, h1]⟩
  all_goals exact ⟨_, h, rfl, by simp [binG, hg, binOp, Op.intArith, Op.intCmp, Op.intBits]⟩

theorem ptr_inv {x : AV} {v : Value} (hp : isPtr x = true) (h : ARep w I ι x v) : ∃ ad, v = .pointer (some ad) := by
  cases h with
  | p h => cases h with
    | box cs b o => exact ⟨_, rfl⟩
    | raw v => simp [isPtr] at hp
    | sl => simp [isPtr] at hp
  | ref => exact ⟨_, rfl⟩
  | elr => exact ⟨_, rfl⟩
  | _ => simp [isPtr] at hp

theorem desc_ptr {d : TypeDesc} {e : TypeId} (h : TD.ptr e = tdOf d) : d = .pointer e := by cases d <;> simp [tdOf] at h; subst h; rfl
theorem desc_bool {d : TypeDesc} (h : TD.bool = tdOf d) : d = .bool := by cases d <;> simp [tdOf] at h; rfl
theorem desc_slice {d : TypeDesc} {e : TypeId} (h : TD.slice e = tdOf d) : d = .slice e := by cases d <;> simp [tdOf] at h; subst h; rfl
theorem desc_string {d : TypeDesc} (h : TD.string = tdOf d) : d = .string := by cases d <;> simp [tdOf] at h; rfl
theorem desc_map {d : TypeDesc} {k e : TypeId} (h : TD.map k e = tdOf d) : d = .map k e := by cases d <;> simp [tdOf] at h; obtain ⟨rfl, rfl⟩ := h; rfl
theorem desc_int {d : TypeDesc} {k : IntKind} (h : TD.int k = tdOf d) : d = .int k := by cases d <;> simp [tdOf] at h; subst h; rfl
theorem desc_array {d : TypeDesc} {n : Nat} {e : TypeId} (h : TD.array n e = tdOf d) : d = .array n e := by cases d <;> simp [tdOf] at h; obtain ⟨rfl, rfl⟩ := h; rfl
theorem desc_struct {d : TypeDesc} {fs : List (Nat × TypeId)} (h : TD.struct fs = tdOf d) : ∃ f : Array Field, d = .struct f ∧ fs = f.toList.map fun x => (x.offset, x.type) := by cases d <;> simp [tdOf] at h; exact ⟨_, rfl, h⟩

theorem run_equalIn_nil (d : Nat) (t e : TypeId) (x : Option Addr) (h : P.underlying t = some (.pointer e)) (w : World) : (Op.equalIn (d + 1) t (.pointer x) (.pointer none)).run P w = .ok x.isNone w := by
  cases x <;> simp [Op.equalIn, run_underlying h]
theorem run_eql_nil (t e : TypeId) (xo yo : Operand) (x : Option Addr) (h : P.underlying t = some (.pointer e)) (w : World) : (binG .eql t xo yo (.pointer x) (.pointer none)).run P w = .ok (.bool x.isNone) w := by
  have e1 : binG .eql t xo yo (.pointer x) (.pointer none) = (do let b ← Op.equalIn (9999 + 1) t (.pointer x) (.pointer none); pure (.bool b)) := rfl
  rw [e1]; simp [run_equalIn_nil 9999 t e x h w]
theorem run_neq_nil (t e : TypeId) (xo yo : Operand) (x : Option Addr) (h : P.underlying t = some (.pointer e)) (w : World) : (binG .neq t xo yo (.pointer x) (.pointer none)).run P w = .ok (.bool (!x.isNone)) w := by
  have e1 : binG .neq t xo yo (.pointer x) (.pointer none) = (do let b ← Op.equalIn (9999 + 1) t (.pointer x) (.pointer none); pure (.bool (!b))) := rfl
  rw [e1]; simp [run_equalIn_nil 9999 t e x h w]

theorem bin_ok (hT : TOk P T) {op : BinOp} {t : TypeId} {xo yo : Operand} {x y : AV} {vx vy : Value} {K : Value → Prop} (h : binK P T op t xo yo x y K) (hx : ARep w I ι x vx) (hy : ARep w I ι y vy) :
    ∃ v, K v ∧ v.oneCell' = true ∧ (binG op t xo yo vx vy).run P w = .ok v w := by
  unfold binK at h
  split at h
  · rename_i k x' k' y'
    obtain rfl := rep_raw hx; obtain rfl := rep_raw hy
    split at h
    · obtain ⟨v, h1, h1', h2⟩ := shift_ok (yk := k') h
      exact ⟨v, h1, h1', by simp [binG, eqGuard_at_int, binOp, h2]⟩
    · obtain ⟨v, h1, h1', h2⟩ := shift_ok (yk := k') h
      exact ⟨v, h1, h1', by simp [binG, eqGuard_at_int, binOp, h2]⟩
    · obtain ⟨h1, h2⟩ := chkE h
      have h1 : k = k' := of_decide_eq_true h1
      subst h1
      exact int_ok h2 w t xo yo
  · rename_i x' y'
    obtain rfl := rep_raw hx; obtain rfl := rep_raw hy
    split at h
    · exact ⟨_, h, rfl, by simp [binG, eqGuard_at_string, binOp_string_eql]⟩
    · exact ⟨_, h, rfl, by simp [binG, eqGuard_at_string, binOp_string_neq]⟩
    · obtain ⟨r, h1, h1', h2⟩ := h
      exact ⟨r, h2, h1', h1 w⟩
  · rename_i x' y'
    obtain rfl := rep_raw hx; obtain rfl := rep_raw hy
    split at h
    · rename_i hti
      obtain ⟨i, d, z, _, h2, _, h4, _⟩ := tok hT hti
      obtain rfl := desc_bool h4
      exact ⟨_, h, rfl, by simp [binG, eqGuard_at_bool, run_eql_bool w t x' y' h2]⟩
    · rename_i hti
      obtain ⟨i, d, z, _, h2, _, h4, _⟩ := tok hT hti
      obtain rfl := desc_bool h4
      exact ⟨_, h, rfl, by simp [binG, eqGuard_at_bool, run_neq_bool w t x' y' h2]⟩
    · exact h.elim
  · rename_i l l'
    obtain ⟨vs, h1, h⟩ := optE h
    obtain ⟨vs', h2, r, h3, h3', h4⟩ := optE h
    have r1 := raws_ok h1; have r2 := raws_ok h2
    subst r1 r2
    refine ⟨r, h4, h3', ?_⟩
    have inv : ∀ {vs : List Value} {v : Value}, ARep w I ι (.agg (vs.map fun v => .p (.raw v))) v → v = .agg vs.toArray := by
      intro vs v h
      cases h with
      | agg l cs hn hr =>
        congr 1
        apply Array.ext'
        apply List.ext_getElem?
        intro i
        rcases Nat.lt_or_ge i cs.size with hi | hi
        · have hi' : i < vs.length := by rw [hn] at hi; simpa using hi
          have := rep_raw (hr i (.p (.raw vs[i])) (by simp [hi']))
          rw [arr_getD, List.getD_eq_getElem?_getD] at this
          simp [hi, hi'] at this ⊢
          exact this
        · have hi' : vs.length ≤ i := by rw [hn] at hi; simpa using hi
          simp [hi, hi']
    rw [inv hx, inv hy]
    exact h3 w
  · obtain rfl := rep_raw hy
    split at h
    · rename_i hti
      obtain ⟨i, d, z, _, h2, _, h4, _⟩ := tok hT hti
      obtain rfl := desc_ptr h4
      split at h
      · obtain rfl := rep_raw hx
        exact ⟨_, h, rfl, run_eql_nil t _ xo yo none h2 w⟩
      · obtain ⟨c1, c2⟩ := chkE h
        obtain ⟨ad, rfl⟩ := ptr_inv c1 hx
        exact ⟨_, c2, rfl, run_eql_nil t _ xo yo (some ad) h2 w⟩
    · rename_i hti
      obtain ⟨i, d, z, _, h2, _, h4, _⟩ := tok hT hti
      obtain rfl := desc_ptr h4
      split at h
      · obtain rfl := rep_raw hx
        exact ⟨_, h, rfl, run_neq_nil t _ xo yo none h2 w⟩
      · obtain ⟨c1, c2⟩ := chkE h
        obtain ⟨ad, rfl⟩ := ptr_inv c1 hx
        exact ⟨_, c2, rfl, run_neq_nil t _ xo yo (some ad) h2 w⟩
    · exact h.elim
  · exact h.elim

theorem run_equalIn_slice (d : Nat) (t e : TypeId) (A : Option Addr) (n c : Nat) (h : P.underlying t = some (.slice e)) (w : World) : (Op.equalIn (d + 1) t (.slice A n c) (.slice none 0 0)).run P w = .ok A.isNone w := by
  cases A <;> simp [Op.equalIn, run_underlying h]
theorem run_eq_slice {t e : TypeId} {A : Option Addr} {n c : Nat} {op : BinOp} {xo yo : Operand} (h : P.underlying t = some (.slice e)) (hop : op = .eql ∨ op = .neq) (w : World) :
    (binG op t xo yo (.slice A n c) (.slice none 0 0)).run P w = .ok (.bool (match op with | .eql => A.isNone | _ => !A.isNone)) w := by
  have := run_equalIn_slice (P := P) 9999 t e A n c h w
  rcases hop with rfl | rfl
  · simp only [binG, eqGuard, binOp, Op.equal, Op.maxDepth]
    simp [this]
  · simp only [binG, eqGuard, binOp, Op.equal, Op.maxDepth]
    simp [this]

theorem nil_ok {op : BinOp} {t : TypeId} {xo yo : Operand} {x : AV} {vx : Value} {K : Value → Prop} (hT : TOk P T) (h : sliceNilK T op t x K) (hx : ARep w I ι x vx) :
    ∃ v, K v ∧ v.oneCell' = true ∧ (binG op t xo yo vx (.slice none 0 0)).run P w = .ok v w := by
  unfold sliceNilK at h
  obtain ⟨ti, hti, h⟩ := optE h
  obtain ⟨i, d, z, h1, h2, h3, h4, h5, h6, h7, h8⟩ := tok hT hti
  split at h
  · rename_i e he
    rw [he] at h4
    obtain rfl := desc_slice h4
    have psl : ∀ {sz : Nat} {xs : List (List PV)}, ARep w I ι (.p (.sl sz xs)) vx → ∃ A n c, vx = .slice A n c ∧ (A.isNone = true → xs = []) := fun hx => by
      cases p_inv hx with
      | sl sz xs A c f hc hl hA hr =>
        refine ⟨A, _, c, rfl, fun hn => ?_⟩
        rcases hA with h | ⟨b, o, rfl, _⟩
        · exact h
        · simp at hn
    have pms : ∀ {b sz off len : Nat}, ARep w I ι (.msl b sz off len) vx → ∃ A n c, vx = .slice A n c ∧ (A.isNone = true → len = 0) := fun hx => by
      cases hx with
      | msl => exact ⟨_, _, _, rfl, fun h => by simp at h⟩
      | msl0 => exact ⟨_, _, _, rfl, fun _ => rfl⟩
    split at h
    · obtain ⟨A, n, c, rfl, hA⟩ := psl hx
      exact ⟨_, h A.isNone hA, rfl, run_eq_slice h2 (.inl rfl) w⟩
    · obtain ⟨A, n, c, rfl, hA⟩ := psl hx
      exact ⟨_, h (!A.isNone) (fun e => hA (by simpa using e)), rfl, run_eq_slice h2 (.inr rfl) w⟩
    · obtain ⟨A, n, c, rfl, hA⟩ := pms hx
      exact ⟨_, h A.isNone hA, rfl, run_eq_slice h2 (.inl rfl) w⟩
    · obtain ⟨A, n, c, rfl, hA⟩ := pms hx
      exact ⟨_, h (!A.isNone) (fun e => hA (by simpa using e)), rfl, run_eq_slice h2 (.inr rfl) w⟩
    · rw [rep_raw hx]
      exact ⟨_, h, rfl, run_eq_slice h2 (.inl rfl) w⟩
    · rw [rep_raw hx]
      exact ⟨_, h, rfl, run_eq_slice h2 (.inr rfl) w⟩
    · exact h.elim
  · exact h.elim

theorem op_bin {op : BinOp} {t yt : TypeId} {x y : Operand} (hT : TOk P T) (ho : o.op = .binOp op t x y yt) (hs : SimH w I ι H) (hx : ARep w I ι (ev x) (a.eval x)) (hy : ARep w I ι (ev y) (a.eval y))
    (h : binV P T op t x y (ev x) (ev y) fun v => K (.p (.raw v)) H) (hn : Nx w I ι H K fun v w' => next (a.put o.dst v) w') : o.wp P a w next Q := by
  have key : ∃ v, K (.p (.raw v)) H ∧ v.oneCell' = true ∧ (binG op t x y (a.eval x) (a.eval y)).run P w = .ok v w := by
    unfold binV at h
    split at h
    · exact nil_ok hT h hx
    · exact bin_ok hT h hx hy
  obtain ⟨v, h1, h1', h2⟩ := key
  refine wp_val (v := v) (w' := w) ?_ (hn.here hs h1 (.p (.raw v h1')))
  unfold binG at h2
  simp only [execOp, ho, Sem.run_bind] at h2 ⊢
  rw [h2]; rfl

theorem op_un {op : UnOp} {t : TypeId} {x : Operand} (ho : o.op = .unOp op t x) (hs : SimH w I ι H) (hx : ARep w I ι (ev x) (a.eval x))
    (h : unK op (ev x) fun v => K (.p (.raw v)) H) (hn : Nx w I ι H K fun v w' => next (a.put o.dst v) w') : o.wp P a w next Q := by
  unfold unK at h
  split at h
  · rename_i b e
    rw [e] at hx
    have h1 := rep_raw hx
    exact wp_val (v := .bool !b) (w' := w) (by simp [execOp, ho, h1, unary_not]) (hn.here hs h (.p (.raw _ rfl)))
  · rename_i k n e
    rw [e] at hx
    have h1 := rep_raw hx
    exact wp_val (v := .int k (k.wrap (0 - n))) (w' := w) (by simp [execOp, ho, h1, unary_neg, Op.intArith]) (hn.here hs h (.p (.raw _ rfl)))
  · exact h.elim

theorem op_convert {src dst : TypeId} {x : Operand} (hT : TOk P T) (ho : o.op = .convert src dst x) (hs : SimH w I ι H) (hx : ARep w I ι (ev x) (a.eval x))
    (hstr : ∀ e, (optK (T e) fun ei => match ei.d with
      | .int .u8 => chk (ei.size == 1) (optK (srcOf H 1 (ev x)) fun ys => ∃ bs : List UInt8, ys = bs.map (fun b => [PV.raw (.int .u8 b.toNat)]) ∧ K (.p (.raw (.string ⟨bs.toArray⟩))) H)
      | _ => False) → P.underlying src = some (.slice e) → P.underlying dst = some .string → o.wp P a w next Q)
    {C : CallA} (h : aop P T C ev H K (.convert src dst x)) (hn : Nx w I ι H K fun v w' => next (a.put o.dst v) w') : o.wp P a w next Q := by
  simp only [aop, opV, opsL, List.map_cons, List.map_nil, on1] at h
  obtain ⟨s, h1, h⟩ := optE h
  obtain ⟨t, h2, h⟩ := optE h
  obtain ⟨_, d, _, _, hd, _, e4, _⟩ := tok hT h1
  obtain ⟨_, d', _, _, hd', _, e4', _⟩ := tok hT h2
  unfold convK at h
  split at h
  · rename_i k kd _ n q1 q2 h3
    rw [q1] at e4
    rw [q2] at e4'
    obtain rfl := desc_int e4
    obtain rfl := desc_int e4'
    rw [h3] at hx
    have hv := rep_raw hx
    refine wp_val (v := _) (w' := w) ?_ (hn.here hs h (.p (.raw _ rfl)))
    simp [execOp, ho, hv, convert, run_underlying hd, run_underlying hd', Conv.intToInt]
  · rename_i q1 q2
    rw [q1] at e4
    rw [q2] at e4'
    obtain rfl := desc_slice e4
    obtain rfl := desc_string e4'
    exact hstr _ h hd hd'
  · exact h.elim

theorem op_makeFunc {fn : Fn} {first caps : Array Operand} (ho : o.op = .makeFunc fn first caps) (hs : SimH w I ι H) (hx : ∀ x ∈ caps.toList, ARep w I ι (ev x) (a.eval x))
    (h : chk first.isEmpty (K (.clo fn (caps.toList.map ev)) H)) (hn : Nx w I ι H K fun v w' => next (a.put o.dst v) w') : o.wp P a w next Q := by
  obtain ⟨h1, h2⟩ := chkE h
  have h1 : first = #[] := by simpa using h1
  subst h1
  refine wp_val (v := .func fn #[] (caps.map a.eval)) (w' := w) (by simp [execOp, ho, Instr.makeFunc]) (hn.here hs h2 ?_)
  refine .clo fn _ _ (by simp) (fun i u hu => ?_)
  simp only [List.getElem?_map, Option.map_eq_some_iff] at hu
  obtain ⟨x, hx', rfl⟩ := hu
  rw [arr_getD, Array.toList_map, List.getD_eq_getElem?_getD, List.getElem?_map, hx']
  exact hx x (List.mem_of_getElem? hx')

theorem op_makeMth {fn : Fn} {first caps : Array Operand} (ho : o.op = .makeFunc fn first caps) (hs : SimH w I ι H) (hx : ∀ x ∈ first.toList, ARep w I ι (ev x) (a.eval x)) (hc : caps = #[])
    (h : K (.mth fn (first.toList.map ev)) H) (hn : Nx w I ι H K fun v w' => next (a.put o.dst v) w') : o.wp P a w next Q := by
  subst hc
  refine wp_val (v := .func fn (first.map a.eval) #[]) (w' := w) (by simp [execOp, ho, Instr.makeFunc]) (hn.here hs h ?_)
  refine .mth fn _ _ (by simp) (fun i u hu => ?_)
  simp only [List.getElem?_map, Option.map_eq_some_iff] at hu
  obtain ⟨x, hx', rfl⟩ := hu
  rw [arr_getD, Array.toList_map, List.getD_eq_getElem?_getD, List.getElem?_map, hx']
  exact hx x (List.mem_of_getElem? hx')

theorem op_extract {x : Operand} {i : Nat} (ho : o.op = .extract x i) (hs : SimH w I ι H) (hx : ARep w I ι (ev x) (a.eval x))
    {C : CallA} (h : aop P T C ev H K (.extract x i)) (hn : Nx w I ι H K fun v w' => next (a.put o.dst v) w') : o.wp P a w next Q := by
  simp only [aop, opV, opsL, List.map_cons, List.map_nil, on1] at h
  split at h
  · rename_i l hl
    obtain ⟨u, h1, h2⟩ := optE h
    rw [hl] at hx
    generalize hv : a.eval x = v at hx
    cases hx with
    | tup l vs hn' hr =>
      have hlt : i < vs.size := by rw [hn']; exact (List.getElem?_eq_some_iff.1 h1).1
      have := hr i u h1
      rw [Array.getD_eq_getD_getElem?, Array.getElem?_eq_getElem hlt] at this
      exact wp_val (v := vs[i]) (w' := w) (by simp [execOp, ho, hv, Instr.extract, hlt]) (hn.here hs h2 this)
  · exact h.elim

theorem op_nilCheck {x : Operand} (ho : o.op = .nilCheck x) (hs : SimH w I ι H) (hx : ARep w I ι (ev x) (a.eval x))
    (h : chk (isPtr (ev x)) (K (ev x) H)) (hn : Nx w I ι H K fun v w' => next (a.put o.dst v) w') : o.wp P a w next Q := by
  obtain ⟨h1, h2⟩ := chkE h
  obtain ⟨ad, hv⟩ := ptr_inv h1 hx
  exact wp_val (v := a.eval x) (w' := w) (by simp [execOp, ho, hv]) (hn.here hs h2 hx)

theorem run_fieldPlace {f : Field} {i : TypeInfo} (hi : P.info? f.type = some i) (h0 : 0 < i.size) (ad : Addr) (w : World) : (fieldPlace ad f).run P w = .ok (ad.add f.offset) w := by
  have : i.size ≠ 0 := by omega
  simp [fieldPlace, run_sizeOf hi, this]

theorem addOff_ok {x : AV} {v : Value} {n : Nat} {K : AV → Prop} (h : addOff x n K) (hx : ARep w I ι x v) : ∃ u ad, K u ∧ v = .pointer (some ad) ∧ ARep w I ι u (.pointer (some (ad.add n))) := by
  unfold addOff at h
  split at h
  · rename_i b off
    cases hx with
    | ref _ _ B hB => exact ⟨_, _, h, rfl, by rw [Addr.add_mid]; exact .ref _ _ _ hB⟩
  · rename_i b sz i off
    cases hx with
    | elr _ _ _ _ B hB => exact ⟨_, _, h, rfl, by rw [Addr.add_mid, Nat.add_assoc]; exact .elr _ _ _ _ _ hB⟩
  · rename_i cs
    cases p_inv hx with
    | box cs b o f hI hc hr =>
      refine ⟨_, _, h, rfl, ?_⟩
      rw [Addr.add_mid]
      refine .p (.box _ b (o + n) (fun i => f (n + i)) hI (fun i hi => ?_) (fun i u hu => ?_))
      · rw [Nat.add_assoc]; exact hc (n + i) (by simp at hi; omega)
      · rw [List.getElem?_drop] at hu; exact hr (n + i) u hu
  · exact h.elim

theorem op_fieldAddr {s : TypeId} {x : Operand} {f : Nat} (hT : TOk P T) (ho : o.op = .fieldAddr s x f) (hs : SimH w I ι H) (hx : ARep w I ι (ev x) (a.eval x))
    {C : CallA} (h : aop P T C ev H K (.fieldAddr s x f)) (hn : Nx w I ι H K fun v w' => next (a.put o.dst v) w') : o.wp P a w next Q := by
  simp only [aop, opV, opsL, List.map_cons, List.map_nil, on1] at h
  obtain ⟨ti, hti, h⟩ := optE h
  obtain ⟨i, d, z, h1, h2, h3, h4, h5, h6, h7, h8⟩ := tok hT hti
  split at h
  · rename_i fs hfs
    obtain ⟨p, hp, h⟩ := optE h
    obtain ⟨fi, hfi, h⟩ := optE h
    obtain ⟨c1, c2⟩ := chkE h
    have c1 := of_decide_eq_true c1
    rw [hfs] at h4
    obtain ⟨F, rfl, hF⟩ := desc_struct h4
    subst hF
    simp only [List.getElem?_map, Option.map_eq_some_iff] at hp
    obtain ⟨fl, hfl, rfl⟩ := hp
    obtain ⟨i', d', z', g1, _, _, _, g5, _⟩ := tok hT hfi
    obtain ⟨u, ad, k1, k2, k3⟩ := addOff_ok c2 hx
    refine wp_val (v := .pointer (some (ad.add fl.offset))) (w' := w) ?_ (hn.here hs k1 k3)
    have hfl' : F[f]? = some fl := by rw [← Array.getElem?_toList]; exact hfl
    simp [execOp, ho, k2, Instr.fieldAt, run_underlying h2, hfl', Instr.sureAddr, run_fieldPlace g1 (by omega)]
  · exact h.elim

theorem rep_part {d : TypeDesc} {t : TypeId} {i : TypeInfo} (hi : P.info? t = some i) (hd : P.underlying t = some d) {l : List AV} {cs : Array Value} (hn : cs.size = l.length) (hr : ∀ i u, l[i]? = some u → ARep w I ι u (cs.getD i undef)) {off : Nat}
    (hle : off + i.size ≤ l.length) (hrow : isRowTD (tdOf d) = true ∨ i.size = 1) : ∃ v, (part t cs off).run P w = .ok v w ∧ ARep w I ι (mkVal (tdOf d) ((l.drop off).take i.size)) v := by
  cases hR : isRowTD (tdOf d) with
  | true =>
    have hd' : d.isRow = true := by rw [← isRow_tdOf]; exact hR
    have hagg : (isAgg t).run P w = .ok true w := by
      unfold isAgg; rw [Sem.run_bind, run_underlying hd w]; cases d <;> simp_all
    refine ⟨.agg (cs.extract off (off + i.size)), by simp [part, hagg, run_sizeOf hi], ?_⟩
    have : ∀ us, mkVal (tdOf d) us = .agg us := by intro us; cases hdd : tdOf d <;> simp [hdd, isRowTD] at hR <;> rfl
    rw [this]
    refine .agg _ _ (by simp; omega) (fun j u hu => ?_)
    have hlt : j < i.size := by
      have := (List.getElem?_eq_some_iff.1 hu).1
      simp at this; omega
    rw [List.getElem?_take_of_lt hlt, List.getElem?_drop] at hu
    have := hr (off + j) u hu
    rw [Array.getD_eq_getD_getElem?] at this ⊢
    have e : (cs.extract off (off + i.size))[j]? = cs[off + j]? := by
      rw [Array.getElem?_extract]; rw [if_pos (by omega)]
    rw [e]; exact this
  | false =>
    have hs1 : i.size = 1 := by rcases hrow with h | h; rw [hR] at h; exact absurd h (by simp); exact h
    have hd' : d.isRow = false := by rw [← isRow_tdOf]; exact hR
    have hagg : (isAgg t).run P w = .ok false w := by
      unfold isAgg; rw [Sem.run_bind, run_underlying hd w]; cases d <;> simp_all
    have hlt : off < cs.size := by omega
    refine ⟨cs[off], by simp [part, hagg, hlt], ?_⟩
    have : ∀ us, mkVal (tdOf d) us = us.headD .top := by intro us; cases hdd : tdOf d <;> simp [hdd, isRowTD] at hR <;> rfl
    rw [this, hs1]
    have hlt' : off < l.length := by omega
    have e : ((l.drop off).take 1).headD .top = l[off] := by rw [List.drop_eq_getElem_cons hlt']; rfl
    rw [e]
    have := hr off l[off] (List.getElem?_eq_getElem hlt')
    rw [Array.getD_eq_getD_getElem?, Array.getElem?_eq_getElem hlt] at this
    exact this

theorem op_field {s : TypeId} {x : Operand} {f : Nat} (hT : TOk P T) (ho : o.op = .field s x f) (hs : SimH w I ι H) (hx : ARep w I ι (ev x) (a.eval x))
    {C : CallA} (h : aop P T C ev H K (.field s x f)) (hn : Nx w I ι H K fun v w' => next (a.put o.dst v) w') : o.wp P a w next Q := by
  simp only [aop, opV, opsL, List.map_cons, List.map_nil, on1] at h
  obtain ⟨ti, hti, h⟩ := optE h
  obtain ⟨i, d, z, h1, h2, h3, h4, h5, h6, h7, h8⟩ := tok hT hti
  split at h
  · rename_i fs hfs
    obtain ⟨p, hp, h⟩ := optE h
    obtain ⟨fi, hfi, h⟩ := optE h
    rw [hfs] at h4
    obtain ⟨F, rfl, hF⟩ := desc_struct h4
    subst hF
    simp only [List.getElem?_map, Option.map_eq_some_iff] at hp
    obtain ⟨fl, hfl, rfl⟩ := hp
    obtain ⟨i', d', z', g1, g2, _, g4, g5, _⟩ := tok hT hfi
    split at h
    · rename_i l hl
      obtain ⟨c1, c2⟩ := chkE h
      rw [Bool.and_eq_true] at c1
      obtain ⟨c1, c3⟩ := c1
      have c1 := of_decide_eq_true c1
      rw [hl] at hx
      generalize hv : a.eval x = v at hx
      cases hx with
      | agg l vs hn' hr =>
        rw [g4, g5] at c2 
        rw [g5] at c1 c3
        obtain ⟨v, k1, k2⟩ := rep_part (w := w) g1 g2 hn' hr (off := fl.offset) (by simpa using c1) (by rw [g4] at c3; simpa using c3)
        refine wp_val (v := v) (w' := w) ?_ (hn.here hs c2 k2)
        have hfl' : F[f]? = some fl := by rw [← Array.getElem?_toList]; exact hfl
        simp [execOp, ho, hv, Instr.field, run_underlying h2, hfl', asAgg, k1]
    · exact h.elim
  · exact h.elim

end
end Go.Proofs.Ytolefphdldmlkaa.AL
