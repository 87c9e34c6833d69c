/- The abstract layer (second make), part h: literals, slices, lengths, appends, calls. -/
import Derived.Test.YtolefphdldmlkaaBLg
namespace Go.Proofs.Ytolefphdldmlkaa.AL
open Go Go.RowKit

theorem zip_map {α β γ : Type} (l : List (α × β)) (g : β → γ) : (l.map (·.1)).zip ((l.map (·.2)).map g) = l.map fun p => (p.1, g p.2) := by
  induction l with
  | nil => rfl
  | cons p r ih => simp only [List.map_cons, List.zip_cons_cons, ih]

theorem setL_cons {α : Type} (l : List α) (o : Nat) (v : α) (r : List α) (h : o + (r.length + 1) ≤ l.length) : setL (l.set o v) (o + 1) r = setL l o (v :: r) := by
  apply List.ext_getElem?
  intro i
  rw [setL_get (by simp; omega), setL_get (by simp; omega)]
  simp only [List.length_cons]
  by_cases c1 : i = o
  · subst c1
    rw [if_neg (by omega), if_pos (by omega), List.getElem?_set_self (by omega)]
    simp
  · by_cases c2 : o + 1 ≤ i ∧ i < o + 1 + r.length
    · rw [if_pos c2, if_pos (by omega)]
      obtain ⟨j, rfl⟩ : ∃ j, i = o + 1 + j := ⟨i - (o + 1), by omega⟩
      rw [show o + 1 + j - o = j + 1 by omega, show o + 1 + j - (o + 1) = j by omega, List.getElem?_cons_succ]
    · rw [if_neg c2, if_neg (by omega), List.getElem?_set_ne (by omega)]

theorem foldl_setL (off : Nat) : ∀ (vs : List Value) (k : Nat) (cs : Array Value), off + k + vs.length ≤ cs.size →
    ((vs.zipIdx k).foldl (fun (cs : Array Value) (c : Value × Nat) => cs.setIfInBounds (off + c.2) c.1) cs).toList = setL cs.toList (off + k) vs
  | [], k, cs, _ => by simp [setL]
  | v :: r, k, cs, h => by
    simp only [List.length_cons] at h
    rw [List.zipIdx_cons, List.foldl_cons, foldl_setL off r (k + 1) (cs.setIfInBounds (off + k) v) (by simp; omega)]
    rw [Array.toList_setIfInBounds, ← Nat.add_assoc, setL_cons _ _ _ _ (by simp; omega)]

section
variable {P : Program} {T : TTab} {w : World} {I : Nat → Prop} {ι : Nat → Option Nat} {H : List ABlk} {K : AV → List ABlk → Prop} {o : Oper} {a : Act} {next : Act → World → Prop} {Q : Exit → Act → World → Prop} {ev : Operand → AV}

/-- Cells that say a list of abstract values. -/
def Says (w : World) (I : Nat → Prop) (ι : Nat → Option Nat) (l : List AV) (cs : Array Value) : Prop := cs.size = l.length ∧ ∀ i u, l[i]? = some u → ARep w I ι u (cs.getD i undef)

theorem Says.set {l l' : List AV} {cs cs' : Array Value} {off : Nat} (h : Says w I ι l cs) (h' : Says w I ι l' cs') (hle : off + l'.length ≤ l.length) : Says w I ι (setL l off l') (setL cs.toList off cs'.toList).toArray := by
  have hle' : off + cs'.toList.length ≤ cs.toList.length := by simp; rw [h.1, h'.1]; exact hle
  refine ⟨by simp [setL_length hle', setL_length hle, h.1], fun i u hu => ?_⟩
  rw [getD_setL _ _ _ _ hle']
  rw [setL_get hle] at hu
  have e : cs'.toList.length = l'.length := by simp [h'.1]
  split at hu
  · rw [if_pos (by omega), ← arr_getD]; exact h'.2 _ u hu
  · rw [if_neg (by omega), ← arr_getD]; exact h.2 i u hu

theorem fill_ok {place : Nat → Option (Nat × Nat)} : ∀ {parts : List (Nat × Operand)} {l : List AV} {cs : Array Value} {l' : List AV}, Says w I ι l cs → (∀ p ∈ parts, ARep w I ι (ev p.2) (a.eval p.2)) →
    fillA T place l (parts.map fun p => (p.1, ev p.2)) = some l' → ∃ cs', Instr.fill place cs (parts.map fun p => (p.1, a.eval p.2)) = some cs' ∧ Says w I ι l' cs'
  | [], l, cs, l', h, _, hf => by simp [fillA] at hf; subst hf; exact ⟨cs, by simp [Instr.fill], h⟩
  | (i, x) :: r, l, cs, l', h, hp, hf => by
    simp only [List.map_cons, fillA] at hf
    split at hf
    · rename_i off size l1 h1 h2
      split at hf
      · rename_i hc
        rw [Bool.and_eq_true] at hc
        obtain ⟨c1, c2⟩ := hc
        have c1 : l1.length = size := by simpa using c1
        have c2 := Nat.le_of_ble_eq_true c2
        obtain ⟨e1, e2, e3⟩ := cells_ok (show ARep w I ι (ev x) (a.eval x) from hp (i, x) (by simp)) h2
        have hle : off + (a.eval x).cells.size ≤ cs.size := by rw [h.1, e1]; exact c2
        have hs : Says w I ι l1 (a.eval x).cells := ⟨e1, e2⟩
        have hset := h.set hs c2
        obtain ⟨cs', f1, f2⟩ := fill_ok (place := place) (parts := r) hset (fun p hp' => hp p (by simp [hp'])) hf
        refine ⟨cs', ?_, f2⟩
        simp only [List.map_cons, Instr.fill, h1]
        rw [if_neg (by simp; omega)]
        have e : (a.eval x).cells.zipIdx.foldl (fun (cs : Array Value) (c : Value × Nat) => cs.setIfInBounds (off + c.2) c.1) cs = (setL cs.toList off (a.eval x).cells.toList).toArray := by
          apply Array.ext'
          rw [← Array.foldl_toList, Array.toList_zipIdx, foldl_setL off _ 0 cs (by simpa using hle)]
          rfl
        have e' : (a.eval x).cells.zipIdx.foldl (fun (cs : Array Value) x => match x with | (c, j) => cs.setIfInBounds (off + j) c) cs = (setL cs.toList off (a.eval x).cells.toList).toArray := e
        rw [e']; exact f1
      · exact absurd hf (by simp)
    · exact absurd hf (by simp)

theorem fieldPlaces_ok (hT : TOk P T) : ∀ {fs : List Field} {pl : List (Nat × Nat)}, fieldPlaces T (fs.map fun f => (f.offset, f.type)) = some pl → fs.mapM (fun f => (P.info? f.type).map fun i => (f.offset, i.size)) = some pl
  | [], pl, h => by simp [fieldPlaces] at h; subst h; rfl
  | f :: fs, pl, h => by
    simp only [List.map_cons, fieldPlaces] at h
    split at h
    · rename_i ti l h1 h2
      obtain rfl := Option.some.inj h
      obtain ⟨i, d, z, g1, _, _, _, g5, _⟩ := tok hT h1
      have := fieldPlaces_ok hT h2
      simp [List.mapM_cons, g1, this, g5]
    · exact absurd h (by simp)

theorem zero_says (ti : TI) (z : Value) (h : ti.zero = z.cells.toList) (h8 : ∀ v ∈ z.cells.toList, v.oneCell' = true) : Says w I ι (zeroA ti) z.cells := by
  refine ⟨by simp [zeroA, h], fun i u hu => ?_⟩
  simp only [zeroA, h, List.getElem?_map, Option.map_eq_some_iff] at hu
  obtain ⟨y, hy, rfl⟩ := hu
  rw [arr_getD, List.getD_eq_getElem?_getD, hy]
  exact .p (.raw y (h8 y (List.mem_of_getElem? hy)))

theorem op_build {t : TypeId} {parts : Array (Nat × Operand)} (hT : TOk P T) (ho : o.op = .build t parts) (hs : SimH w I ι H) (hx : ∀ p ∈ parts.toList, ARep w I ι (ev p.2) (a.eval p.2))
    {C : CallA} (h : aop P T C ev H K (.build t parts)) (hn : Nx w I ι H K fun v w' => next (a.put o.dst v) w') : o.wp P a w next Q := by
  simp only [aop, opV, opsL, zip_map] at h
  obtain ⟨ti, hti, h⟩ := optE h
  obtain ⟨i, d, z, h1, h2, h3, h4, h5, h6, h7, h8⟩ := tok hT hti
  split at h
  · rename_i fs hfs
    rw [hfs] at h4
    obtain ⟨F, rfl, rfl⟩ := desc_struct h4
    obtain ⟨pl, hpl, h⟩ := optE h
    obtain ⟨l, hl, h⟩ := optE h
    have hm := fieldPlaces_ok hT hpl
    obtain ⟨cs', f1, f2⟩ := fill_ok (w := w) (I := I) (ι := ι) (zero_says ti z h7 h8) hx hl
    refine wp_val (v := .agg cs') (w' := w) ?_ (hn.here hs h (.agg l cs' f2.1 f2.2))
    have hb : P.built t (parts.map fun (i, x) => (i, a.eval x)).toList = some cs' := by
      simp only [Program.built, h1, h2, h3, hm, Array.toList_map]
      have : (fun i : Nat => pl.toArray[i]?) = fun i : Nat => pl[i]? := by funext i; simp
      rw [this]; exact f1
    simp [execOp, ho, run_build w t _ cs' hb]
  · rename_i n e he
    rw [he] at h4
    obtain rfl := desc_array h4
    obtain ⟨ei, hei, h⟩ := optE h
    obtain ⟨ie, de, ze, g1, g2, g3, g4, g5, g6, g7, g8⟩ := tok hT hei
    obtain ⟨l, hl, h⟩ := optE h
    obtain ⟨cs', f1, f2⟩ := fill_ok (w := w) (I := I) (ι := ι) (zero_says ti z h7 h8) hx hl
    refine wp_val (v := .agg cs') (w' := w) ?_ (hn.here hs h (.agg l cs' f2.1 f2.2))
    have hb : P.built t (parts.map fun (i, x) => (i, a.eval x)).toList = some cs' := by
      simp only [Program.built, h1, h2, h3, g1, Array.toList_map]
      rw [g5] at f1
      exact f1
    simp [execOp, ho, run_build w t _ cs' hb]
  · exact h.elim

theorem chunk_get {α : Type} (sz : Nat) : ∀ (n : Nat) (l : List α) (j : Nat), j < n → (chunk sz n l)[j]? = some ((l.drop (j * sz)).take sz)
  | 0, _, j, h => by omega
  | n + 1, l, 0, _ => by simp [chunk]
  | n + 1, l, j + 1, h => by
    simp only [chunk, List.getElem?_cons_succ]
    rw [chunk_get sz n (l.drop sz) j (by omega), List.drop_drop, Nat.succ_mul, Nat.add_comm]
theorem chunk_length {α : Type} (sz : Nat) : ∀ (n : Nat) (l : List α), (chunk sz n l).length = n
  | 0, _ => rfl
  | n + 1, l => by simp [chunk, chunk_length sz n]

theorem drop_take_get {α : Type} (l : List α) (o n i : Nat) (u : α) (h : ((l.drop o).take n)[i]? = some u) : i < n ∧ l[o + i]? = some u := by
  have hlt : i < n := by
    have := (List.getElem?_eq_some_iff.1 h).1
    simp at this; omega
  rw [List.getElem?_take_of_lt hlt, List.getElem?_drop] at h
  exact ⟨hlt, h⟩

/-- A new block that a slice has. -/
theorem lit_ok {e : TypeId} {sz n : Nat} {l : List AV} {cs : Array Value} (hs : SimH w I ι H) (h : Says w I ι l cs) (hsz : 0 < sz) (hl : l.length = n * sz) (hn : n ≤ 140737488355328) {w' : World} (g : Grew w w' (.cells cs e)) :
    SimH w' I (upd ι H.length w.heap.size) (H ++ [litBlk e sz n l]) ∧ Ex H.length w I ι H w' I (upd ι H.length w.heap.size) (H ++ [litBlk e sz n l]) := by
  unfold litBlk
  cases hp : pvs l with
  | none => exact new_cells hs (Nat.le_of_eq h.1.symm) h.2 g
  | some ps =>
    have := pvs_ok hp
    subst this
    refine g.sim hs _ (.inr ⟨w.heap.size, cs, by simp [upd], g.new, fun hI => by have := hs.Ilt _ hI; omega, ?_, by rw [chunk_length]; exact hn, fun j el hj => ?_⟩)
    · have := h.1; simp only [List.length_map] at this hl
      rw [chunk_length]; omega
    · have hjn : j < n := by have := (List.getElem?_eq_some_iff.1 hj).1; rw [chunk_length] at this; exact this
      rw [chunk_get sz n ps j hjn] at hj
      obtain rfl := Option.some.inj hj
      simp only [List.length_map] at hl
      have hmul : j * sz + sz ≤ n * sz := by rw [← Nat.succ_mul]; exact Nat.mul_le_mul_right _ hjn
      refine ⟨by simp; omega, fun k u hu => ?_⟩
      obtain ⟨_, hu⟩ := drop_take_get _ _ _ _ _ hu
      exact (p_inv (h.2 (j * sz + k) (.p u) (by rw [List.getElem?_map, hu]; rfl))).move (fun B hB => g.old B (hs.Ilt B hB)) (fun _ h => h)

theorem repl_get (zero : List AV) (n i : Nat) (u : AV) (h : (List.replicate n zero).flatten[i]? = some u) : zero[i % zero.length]? = some u := by
  induction n generalizing i with
  | zero => simp at h
  | succ n ih =>
    rw [List.replicate_succ, List.flatten_cons] at h
    rcases Nat.lt_or_ge i zero.length with hi | hi
    · rw [List.getElem?_append_left hi] at h
      rw [Nat.mod_eq_of_lt hi]; exact h
    · rw [List.getElem?_append_right hi] at h
      have := ih (i - zero.length) h
      rw [Nat.mod_eq_sub_mod hi]; exact this

theorem zeros_says (ei : TI) (z : Value) (h : ei.zero = z.cells.toList) (h8 : ∀ v ∈ z.cells.toList, v.oneCell' = true) (n : Nat) (h0 : 0 < ei.size) (hz : ei.zero.length = ei.size) :
    Says w I ι (List.replicate n (zeroA ei)).flatten ((Array.range (n * ei.size)).map (z.cells[· % z.cells.size]!)) := by
  have hzl : (zeroA ei).length = ei.size := by simp [zeroA, hz]
  have hzs : z.cells.size = ei.size := by rw [← hz, h]; simp
  refine ⟨by simp [hzl], fun i u hu => ?_⟩
  have hi : i < n * ei.size := by
    have := (List.getElem?_eq_some_iff.1 hu).1
    simp [hzl] at this; exact this
  have hg := repl_get _ _ _ _ hu
  rw [hzl] at hg
  have hm : i % ei.size < z.cells.size := by rw [hzs]; exact Nat.mod_lt _ h0
  have hs := (zero_says (w := w) (I := I) (ι := ι) ei z h h8).2 _ u hg
  rw [Array.getD_eq_getD_getElem?, Array.getElem?_eq_getElem hm] at hs
  rw [Array.getD_eq_getD_getElem?, Array.getElem?_map, Array.getElem?_range, if_pos hi]
  simp only [Option.map_some, Option.getD_some, hzs]
  rw [getElem!_pos z.cells (i % ei.size) hm]
  exact hs

theorem op_buildSlice {t : TypeId} {n : Nat} {parts : Array (Nat × Operand)} (hT : TOk P T) (ho : o.op = .buildSlice t n parts) (hs : SimH w I ι H) (hx : ∀ p ∈ parts.toList, ARep w I ι (ev p.2) (a.eval p.2))
    {C : CallA} (h : aop P T C ev H K (.buildSlice t n parts)) (hn : Nx w I ι H K fun v w' => next (a.put o.dst v) w') : o.wp P a w next Q := by
  simp only [aop, opV, opsL, zip_map] at h
  obtain ⟨ti, hti, h⟩ := optE h
  obtain ⟨i, d, z, h1, h2, h3, h4, h5, h6, h7, h8⟩ := tok hT hti
  split at h
  · rename_i e he
    obtain ⟨ei, hei, h⟩ := optE h
    obtain ⟨ie, de, ze, g1, g2, g3, g4, g5, g6, g7, g8⟩ := tok hT hei
    obtain ⟨c, h⟩ := chkE h
    simp only [Bool.and_eq_true, decide_eq_true_eq, beq_iff_eq] at c
    obtain ⟨⟨c1, c2⟩, c3⟩ := c
    obtain ⟨l, hl, h⟩ := optE h
    rw [he] at h4
    obtain rfl := desc_slice h4
    obtain ⟨cs', f1, f2⟩ := fill_ok (w := w) (I := I) (ι := ι) (zeros_says ei ze g7 g8 n c2 c3) hx hl
    have hll : l.length = n * ei.size := by
      have : ∀ {parts : List (Nat × AV)} {l l' : List AV} {pl : Nat → Option (Nat × Nat)}, fillA T pl l parts = some l' → l'.length = l.length := by
        intro parts
        induction parts with
        | nil => intro l l' pl h; simp [fillA] at h; subst h; rfl
        | cons p r ih =>
          intro l l' pl h
          simp only [fillA] at h
          split at h
          · split at h
            · rename_i hc
              rw [Bool.and_eq_true] at hc
              rw [ih h, setL_length (Nat.le_of_ble_eq_true hc.2)]
            · exact absurd h (by simp)
          · exact absurd h (by simp)
      rw [this hl]; simp [zeroA, c3]
    have g := grew_alloc w (.cells cs' e)
    have hbound : n ≤ 140737488355328 := by
      have : n ≤ n * ei.size := Nat.le_mul_of_pos_right _ c2
      omega
    have k := lit_ok (e := e) (n := n) hs f2 c2 hll hbound g
    refine wp_val (v := .slice (some ⟨w.heap.size, 0, none⟩) n n) (w' := w.alloc (.cells cs' e)) ?_ (hn _ _ _ _ _ _ h ?_ k.1 k.2)
    · have hlim : ¬ (2 ^ 24 < n * ie.size) := by rw [← g5]; omega
      have hne : ei.size ≠ 0 := by omega
      have key : (Instr.buildSlice t n (parts.map fun (i, x) => (i, a.eval x))).run P w = .ok (.slice (some ⟨w.heap.size, 0, none⟩) n n) (w.alloc (.cells cs' e)) := by
        unfold Instr.buildSlice
        simp only [Sem.run_bind, run_underlying h2, Result.andThen_ok, run_sizeOf g1]
        rw [← g5]
        have hl24 : ¬ (n * ei.size > 2 ^ 24) := by rw [g5]; exact hlim
        simp only [hl24, if_false]
        have f1' : Instr.fill (fun i => some (i * ei.size, ei.size)) ((Array.range (n * ei.size)).map (fun x => ze.cells[x % ze.cells.size]!)) (parts.toList.map fun p => (p.1, a.eval p.2)) = some cs' := f1
        by_cases h0 : n * ei.size = 0
        · have e0 : ∀ f g : Nat → Value, (Array.range (n * ei.size)).map f = (Array.range (n * ei.size)).map g := fun f g => by rw [h0]; simp
          simp only [if_pos h0, Sem.run_bind, Sem.run_pure, Result.andThen_ok, Array.toList_map]
          rw [e0 _ (fun x => ze.cells[x % ze.cells.size]!), f1']
          rfl
        · simp only [if_neg h0, Sem.run_bind, Sem.run_pure, Result.andThen_ok, run_zeroValue g1 g3, Array.toList_map, f1']
          rfl
      simp [execOp, ho, key]
    · have : (⟨w.heap.size, 0, none⟩ : Addr) = ⟨w.heap.size, 0 * ei.size, none⟩ := by simp
      rw [this]
      refine .msl _ _ _ _ _ _ (by simp [upd]) (Nat.le_refl _) ⟨cs', e, (0, 0), g.new, ?_⟩
      rw [f2.1, hll]; simp
  · exact h.elim

end
end Go.Proofs.Ytolefphdldmlkaa.AL
