/- The abstract layer (second make), part e: loads, stores, values and cells, proved against the machine. -/
import Derived.Test.YtolefphdldmlkaaBLd
namespace Go.Proofs.Ytolefphdldmlkaa.AL
open Go Go.RowKit

theorem tok {P : Program} {T : TTab} (hT : TOk P T) {t : TypeId} {ti : TI} (h : T t = some ti) :
    ∃ i d z, P.info? t = some i ∧ P.underlying t = some d ∧ i.zero = some z ∧ ti.d = tdOf d ∧ ti.size = i.size ∧ ti.bytes = i.bytes ∧ ti.zero = z.cells.toList ∧ ∀ v ∈ z.cells.toList, v.oneCell' = true := by
  have h1 := hT t ti h
  unfold tiOf at h1
  split at h1
  · rename_i i d hi hd
    split at h1
    · rename_i z hz
      split at h1
      · rename_i hall
        obtain rfl := Option.some.inj h1
        exact ⟨i, d, z, hi, hd, hz, rfl, rfl, rfl, rfl, fun v hv => List.all_eq_true.1 hall v hv⟩
      · exact absurd h1 (by simp)
    · exact absurd h1 (by simp)
  · exact absurd h1 (by simp)

section
variable {w : World} {I : Nat → Prop} {ι : Nat → Option Nat}

theorem rep_raw {x v : Value} (h : ARep w I ι (.p (.raw x)) v) : v = x := by cases h with | p h => cases h; rfl

theorem one_ok {x : AV} {v : Value} (h : ARep w I ι x v) (h1 : x.one = true) : v.oneCell' = true := by
  cases h with
  | p h => cases h with
    | raw v => exact h1
    | sl => rfl
    | box => rfl
  | top => simp [AV.one] at h1
  | agg => simp [AV.one] at h1
  | tup => simp [AV.one] at h1
  | ref => rfl
  | msl => rfl
  | msl0 => rfl
  | elr => rfl
  | clo => rfl
  | mth => rfl
  | yld => rfl
  | mp => rfl

theorem cells_one {v : Value} (h : v.oneCell' = true) : v.cells = #[v] := by cases v <;> first | rfl | simp [Value.oneCell'] at h

theorem cells_ok {x : AV} {v : Value} {l : List AV} (h : ARep w I ι x v) (hl : x.cells? = some l) :
    v.cells.size = l.length ∧ (∀ i u, l[i]? = some u → ARep w I ι u (v.cells.getD i undef)) ∧ (∀ y ∈ v.cells.toList, y.oneCell' = true) := by
  have single : ∀ (h1 : x.one = true) (h2 : l = [x]), v.cells.size = l.length ∧ (∀ i u, l[i]? = some u → ARep w I ι u (v.cells.getD i undef)) ∧ (∀ y ∈ v.cells.toList, y.oneCell' = true) := by
    intro h1 h2
    subst h2
    have hv := one_ok h h1
    rw [cells_one hv]
    refine ⟨rfl, fun i u hu => ?_, fun y hy => by simp at hy; subst hy; exact hv⟩
    cases i with
    | zero => simp at hu; subst hu; exact h
    | succ i => simp at hu
  cases x with
  | agg l0 =>
    simp only [AV.cells?] at hl
    split at hl
    · rename_i hall
      obtain rfl := Option.some.inj hl
      cases h with
      | agg l vs hn hr =>
        refine ⟨hn, hr, fun y hy => ?_⟩
        have hy' : y ∈ vs.toList := hy
        obtain ⟨i, hi, rfl⟩ := List.getElem_of_mem hy'
        have hi' : i < l0.length := by rw [← hn]; simpa using hi
        have hri := hr i l0[i] (List.getElem?_eq_getElem hi')
        have : vs.getD i undef = vs.toList[i] := by
          have : i < vs.size := by simpa using hi
          simp [Array.getD_eq_getD_getElem?, this]
        rw [this] at hri
        exact one_ok hri (List.all_eq_true.1 hall _ (List.getElem_mem hi'))
    · exact absurd hl (by simp)
  | p x =>
    cases x with
    | raw y =>
      simp only [AV.cells?] at hl
      split at hl
      · rename_i ho
        obtain rfl := Option.some.inj hl
        exact single ho rfl
      · exact absurd hl (by simp)
    | sl sz xs => exact single rfl (Option.some.inj hl).symm
    | box cs => exact single rfl (Option.some.inj hl).symm
  | ref b o => exact single rfl (Option.some.inj hl).symm
  | msl b s o n => exact single rfl (Option.some.inj hl).symm
  | elr b s i o => exact single rfl (Option.some.inj hl).symm
  | clo f c => exact single rfl (Option.some.inj hl).symm
  | mth f c => exact single rfl (Option.some.inj hl).symm
  | yld b => exact single rfl (Option.some.inj hl).symm
  | mp b => exact single rfl (Option.some.inj hl).symm
  | tup l0 => simp [AV.cells?] at hl
  | top => simp [AV.cells?] at hl

theorem pvs_ok : ∀ {l : List AV} {ps : List PV}, pvs l = some ps → l = ps.map .p
  | [], ps, h => by simp [pvs] at h; subst h; rfl
  | u :: r, ps, h => by
    cases u with
    | p x =>
      simp only [pvs, getPV] at h
      split at h
      · rename_i x' l' hx hl
        injection hx with hx; subst hx
        obtain rfl := Option.some.inj h
        rw [pvs_ok hl]; rfl
      · exact absurd h (by simp)
    | _ => simp [pvs, getPV] at h

theorem raws_ok : ∀ {l : List AV} {vs : List Value}, raws l = some vs → l = vs.map (fun v => .p (.raw v))
  | [], vs, h => by simp [raws] at h; subst h; rfl
  | u :: r, vs, h => by
    simp only [raws] at h
    split at h
    · rename_i x' l' hx hl
      obtain rfl := Option.some.inj h
      rw [raws_ok hl]
      cases u with
      | p y => cases y with
        | raw z => simp [getRaw] at hx; subst hx; rfl
        | _ => simp [getRaw] at hx
      | _ => simp [getRaw] at hx
    · exact absurd h (by simp)

theorem p_inv {x : PV} {v : Value} (h : ARep w I ι (.p x) v) : PRep w I x v := by cases h; assumption

theorem getD_of_getElem? {H : List ABlk} {b : Nat} {k : ABlk} (h : H.getD b .dead = k) (hk : k.live = true) : H[b]? = some k := by
  rw [List.getD_eq_getElem?_getD] at h
  cases hb : H[b]? with
  | none => rw [hb] at h; simp at h; subst h; simp [ABlk.live] at hk
  | some k' => rw [hb] at h; simp at h; subst h; rfl

/-- The cells that a load reads. -/
theorem load_ok {H : List ABlk} {a : AV} {size : Nat} {K : List AV → Prop} {v : Value} (hs : SimH w I ι H) (ha : ARep w I ι a v) (h : loadK H a size K) :
    ∃ us B o vs, K us ∧ v = .pointer (some ⟨B, o, none⟩) ∧ us.length = size ∧ vs.length = size ∧ w.rangeAt B o vs ∧ ∀ i u, us[i]? = some u → ARep w I ι u (vs.getD i undef) := by
  unfold loadK at h
  split at h
  · rename_i cs
    obtain ⟨h1, h2⟩ := chkE h
    have h1 := of_decide_eq_true h1
    cases p_inv ha with
    | box cs b o f hI hcell hr =>
      refine ⟨_, b, o, (List.range size).map f, h2, rfl, by simp; omega, by simp, ?_, ?_⟩
      · intro j x hj
        simp only [List.getElem?_map, Option.map_eq_some_iff] at hj
        obtain ⟨j', hj', rfl⟩ := hj
        have := List.getElem?_eq_some_iff.1 hj'
        obtain ⟨hlt, he⟩ := this
        simp at hlt he; subst he
        exact hcell j (by omega)
      · intro i u hu
        simp only [List.getElem?_map, Option.map_eq_some_iff] at hu
        obtain ⟨x, hx, rfl⟩ := hu
        have hlt : i < size := by
          have := (List.getElem?_eq_some_iff.1 hx).1
          simp at this; omega
        rw [List.getElem?_take_of_lt hlt] at hx
        rw [List.getD_eq_getElem?_getD, List.getElem?_map, List.getElem?_range hlt]
        exact .p (hr i x hx)
  · rename_i b off
    split at h
    · rename_i t l hb
      obtain ⟨h1, h2⟩ := chkE h
      have h1 := of_decide_eq_true h1
      obtain ⟨B, cs, g1, g2, _, g4, g5⟩ := hs.blk b _ (getD_of_getElem? hb rfl)
      cases ha with
      | ref _ _ B' hB =>
        rw [g1] at hB; obtain rfl := Option.some.inj hB
        refine ⟨_, B, off, (List.range size).map (fun i => cs.getD (off + i) undef), h2, rfl, by simp; omega, by simp, ?_, ?_⟩
        · intro j x hj
          simp only [List.getElem?_map, Option.map_eq_some_iff] at hj
          obtain ⟨j', hj', rfl⟩ := hj
          obtain ⟨hlt, he⟩ := List.getElem?_eq_some_iff.1 hj'
          simp at hlt he; subst he
          rw [cell_of_row w B (off + j) cs t (0, 0) g2]
          have : off + j < cs.size := by omega
          simp [Array.getD_eq_getD_getElem?, this]
        · intro i u hu
          have hlt : i < size := by
            have := (List.getElem?_eq_some_iff.1 hu).1
            simp at this; omega
          rw [List.getElem?_take_of_lt hlt, List.getElem?_drop] at hu
          rw [List.getD_eq_getElem?_getD, List.getElem?_map, List.getElem?_range hlt]
          exact g5 (off + i) u hu
    · exact h.elim
  · rename_i b sz i off
    split at h
    · rename_i t sz' xs hb
      obtain ⟨h1, h2⟩ := chkE h
      have h1 : sz = sz' := (of_decide_eq_true h1).symm
      subst h1
      obtain ⟨e, he, h3⟩ := optE h2
      obtain ⟨h4, h5⟩ := chkE h3
      have h4 := of_decide_eq_true h4
      cases ha with
      | elr _ _ _ _ B' hB =>
        rcases hs.blk b _ (getD_of_getElem? hb rfl) with ⟨g1, _⟩ | ⟨B, cs, g1, g2, _, g4, _, g6⟩
        · subst g1; simp at he
        · rw [g1] at hB; obtain rfl := Option.some.inj hB
          obtain ⟨ge, gr⟩ := g6 i e he
          have hil : i < xs.length := (List.getElem?_eq_some_iff.1 he).1
          have hmul : i * sz + sz ≤ xs.length * sz := by rw [← Nat.succ_mul]; exact Nat.mul_le_mul_right _ hil
          refine ⟨_, B, i * sz + off, (List.range size).map (fun j => cs.getD (i * sz + off + j) undef), h5, rfl, by simp; omega, by simp, ?_, ?_⟩
          · intro j x hj
            simp only [List.getElem?_map, Option.map_eq_some_iff] at hj
            obtain ⟨j', hj', rfl⟩ := hj
            obtain ⟨hlt, he'⟩ := List.getElem?_eq_some_iff.1 hj'
            simp at hlt he'; subst he'
            rw [cell_of_row w B (i * sz + off + j) cs t (0, 0) g2]
            have : i * sz + off + j < cs.size := by omega
            simp [Array.getD_eq_getD_getElem?, this]
          · intro j u hu
            simp only [List.getElem?_map, Option.map_eq_some_iff] at hu
            obtain ⟨x, hx, rfl⟩ := hu
            have hlt : j < size := by
              have := (List.getElem?_eq_some_iff.1 hx).1
              simp at this; omega
            rw [List.getElem?_take_of_lt hlt, List.getElem?_drop] at hx
            rw [List.getD_eq_getElem?_getD, List.getElem?_map, List.getElem?_range hlt]
            have := gr (off + j) x hx
            rw [← Nat.add_assoc] at this
            exact .p this
    · rename_i t l hb
      obtain ⟨h1, h2⟩ := chkE h
      have h1 := of_decide_eq_true h1
      obtain ⟨B, cs, g1, g2, _, g4, g5⟩ := hs.blk b _ (getD_of_getElem? hb rfl)
      cases ha with
      | elr _ _ _ _ B' hB =>
        rw [g1] at hB; obtain rfl := Option.some.inj hB
        refine ⟨_, B, i * sz + off, (List.range size).map (fun j => cs.getD (i * sz + off + j) undef), h2, rfl, by simp; omega, by simp, ?_, ?_⟩
        · intro j x hj
          simp only [List.getElem?_map, Option.map_eq_some_iff] at hj
          obtain ⟨j', hj', rfl⟩ := hj
          obtain ⟨hlt, he⟩ := List.getElem?_eq_some_iff.1 hj'
          simp at hlt he; subst he
          rw [cell_of_row w B (i * sz + off + j) cs t (0, 0) g2]
          have : i * sz + off + j < cs.size := by omega
          simp [Array.getD_eq_getD_getElem?, this]
        · intro j u hu
          have hlt : j < size := by
            have := (List.getElem?_eq_some_iff.1 hu).1
            simp at this; omega
          rw [List.getElem?_take_of_lt hlt, List.getElem?_drop] at hu
          rw [List.getD_eq_getElem?_getD, List.getElem?_map, List.getElem?_range hlt]
          exact g5 (i * sz + off + j) u hu
    · exact h.elim
  · exact h.elim

theorem there_of_block {B o n : Nat} {cs : Array Value} {t : TypeId} (h : w.heap[B]? = some (.cells cs t (0, 0))) (hn : o + n ≤ cs.size) : w.there B o n := fun j hj => by
  refine ⟨?_, frozen_of_row w B (o + j) cs t h⟩
  rw [cell_of_row w B (o + j) cs t (0, 0) h]
  simp; omega

theorem getD_setL (cs vs : List Value) (o i : Nat) (h : o + vs.length ≤ cs.length) : (setL cs o vs).toArray.getD i undef = if o ≤ i ∧ i < o + vs.length then vs.getD (i - o) undef else cs.getD i undef := by
  rw [Array.getD_eq_getD_getElem?, List.getElem?_toArray, setL_get h, List.getD_eq_getElem?_getD, List.getD_eq_getElem?_getD]
  split <;> rfl

theorem arr_getD (a : Array Value) (i : Nat) (d : Value) : a.getD i d = a.toList.getD i d := by
  rw [Array.getD_eq_getD_getElem?, List.getD_eq_getElem?_getD, Array.getElem?_toList]

/-- The cells that a store writes. -/
theorem store_ok {H : List ABlk} {a : AV} {vs : List AV} {K : List ABlk → Prop} {v : Value} {cv : List Value} (hs : SimH w I ι H) (ha : ARep w I ι a v) (h : storeK H a vs K)
    (hn : cv.length = vs.length) (hv : ∀ i u, vs[i]? = some u → ARep w I ι u (cv.getD i undef)) :
    ∃ H' B o, K H' ∧ v = .pointer (some ⟨B, o, none⟩) ∧ w.there B o cv.length ∧ SimH (w.setCells B o cv) I ι H' ∧ Ex H.length w I ι H (w.setCells B o cv) I ι H' := by
  have cellsCase : ∀ (b o B : Nat) (t : TypeId) (l : List AV), H[b]? = some (.cells t l) → ι b = some B → o + vs.length ≤ l.length → K (H.set b (.cells t (setL l o vs))) → v = .pointer (some ⟨B, o, none⟩) →
      ∃ H' B o, K H' ∧ v = .pointer (some ⟨B, o, none⟩) ∧ w.there B o cv.length ∧ SimH (w.setCells B o cv) I ι H' ∧ Ex H.length w I ι H (w.setCells B o cv) I ι H' := by
    intro b o B t l hb hB hle hK hv'
    obtain ⟨B', cs, g1, g2, g3, g4, g5⟩ := hs.blk b _ hb
    rw [hB] at g1; obtain rfl := Option.some.inj g1
    have hle' : o + cv.length ≤ cs.size := by omega
    have hw := heap_setCells w B t cv o cs g2 hle'
    have hsz : (setL cs.toList o cv).toArray.size = cs.size := by simp [setL_length (l := cs.toList) (o := o) (vs := cv) (by simpa using hle')]
    have hI : ∀ C, I C → (w.setCells B o cv).heap[C]? = w.heap[C]? := fun C hC => (wrote_setCells w B cv o).old C (fun e => g3 (e ▸ hC))
    have hsh : Shape w (w.setCells B o cv) := fun C cs0 t0 fr h => by
      by_cases e : C = B
      · subst e
        rw [g2] at h
        injection h with h; injection h with h1' h2' h3'
        subst h1' h2' h3'
        exact ⟨_, hw, hsz⟩
      · exact ⟨cs0, by rw [(wrote_setCells w B cv o).old C e]; exact h, rfl⟩
    have hlive : live H b := ⟨_, hb, rfl⟩
    have key := (wrote_setCells w B cv o).sim hs hlive hB g2 hw hsz (.cells t (setL l o vs)) (by
      refine ⟨B, _, hB, hw, g3, by rw [hsz, setL_length hle]; exact g4, fun i u hu => ?_⟩
      rw [getD_setL _ _ _ _ (by simpa using hle')]
      rw [setL_get hle] at hu
      split at hu
      · rename_i hc
        rw [if_pos (by omega)]
        exact (hv _ u hu).move hI (fun _ h => h) (fun _ _ h => h) hsh
      · rename_i hc
        rw [if_neg (by omega), ← arr_getD]
        exact (g5 i u hu).move hI (fun _ h => h) (fun _ _ h => h) hsh)
    exact ⟨_, B, o, hK, hv', there_of_block g2 hle', key.1, key.2⟩
  unfold storeK at h
  split at h
  · rename_i b off
    split at h
    · rename_i t l hb
      obtain ⟨h1, h2⟩ := chkE h
      have h1 := of_decide_eq_true h1
      cases ha with
      | ref _ _ B hB => exact cellsCase b off B t l (getD_of_getElem? hb rfl) hB h1 h2 rfl
    · exact h.elim
  · rename_i b sz i off
    split at h
    · rename_i t sz' xs hb
      obtain ⟨h1, h2⟩ := chkE h
      have h1 : sz = sz' := (of_decide_eq_true h1).symm
      subst h1
      obtain ⟨e, he, h3⟩ := optE h2
      obtain ⟨h4, h5⟩ := chkE h3
      have h4 := of_decide_eq_true h4
      obtain ⟨ps, hps, h6⟩ := optE h5
      have hvs := pvs_ok hps
      subst hvs
      simp only [List.length_map] at h4 hn
      have hb' := getD_of_getElem? hb rfl
      cases ha with
      | elr _ _ _ _ B' hB =>
        rcases hs.blk b _ hb' with ⟨g1, _⟩ | ⟨B, cs, g1, g2, g3, g4, gl, g6⟩
        · subst g1; simp at he
        · rw [g1] at hB; obtain rfl := Option.some.inj hB
          obtain ⟨ge, gr⟩ := g6 i e he
          have hil : i < xs.length := (List.getElem?_eq_some_iff.1 he).1
          have hmul : i * sz + sz ≤ xs.length * sz := by rw [← Nat.succ_mul]; exact Nat.mul_le_mul_right _ hil
          have hle' : i * sz + off + cv.length ≤ cs.size := by omega
          have hw := heap_setCells w B t cv (i * sz + off) cs g2 hle'
          have hsz : (setL cs.toList (i * sz + off) cv).toArray.size = cs.size := by simp [setL_length (l := cs.toList) (o := i * sz + off) (vs := cv) (by simpa using hle')]
          have hI : ∀ C, I C → (w.setCells B (i * sz + off) cv).heap[C]? = w.heap[C]? := fun C hC => (wrote_setCells w B cv (i * sz + off)).old C (fun e => g3 (e ▸ hC))
          have hlive : live H b := ⟨_, hb', rfl⟩
          have hel : (setL e off ps).length = e.length := setL_length (by omega)
          have key := (wrote_setCells w B cv (i * sz + off)).sim hs hlive g1 g2 hw hsz (.row t sz (xs.set i (setL e off ps))) (by
            refine .inr ⟨B, _, g1, hw, g3, by rw [hsz]; simpa using g4, by simpa using gl, fun j e' hj => ?_⟩
            by_cases hji : j = i
            · subst hji
              rw [List.getElem?_set_self hil] at hj
              obtain rfl := Option.some.inj hj
              refine ⟨hel.trans ge, fun k u hu => ?_⟩
              rw [getD_setL _ _ _ _ (by simpa using hle')]
              rw [setL_get (by omega)] at hu
              split at hu
              · rename_i hc
                rw [if_pos (by omega), show j * sz + k - (j * sz + off) = k - off by omega]
                exact (p_inv (hv (k - off) (.p u) (by rw [List.getElem?_map, hu]; rfl))).move hI (fun _ h => h)
              · rename_i hc
                have hk : k < e.length := (List.getElem?_eq_some_iff.1 hu).1
                rw [if_neg (by omega), ← arr_getD]
                exact (gr k u hu).move hI (fun _ h => h)
            · rw [List.getElem?_set_ne (by omega)] at hj
              obtain ⟨q1, q2⟩ := g6 j e' hj
              refine ⟨q1, fun k u hu => ?_⟩
              have hk : k < e'.length := (List.getElem?_eq_some_iff.1 hu).1
              have hne : ¬ (i * sz + off ≤ j * sz + k ∧ j * sz + k < i * sz + off + cv.length) := by
                rcases Nat.lt_or_ge j i with hlt | hge
                · have : j * sz + sz ≤ i * sz := by rw [← Nat.succ_mul]; exact Nat.mul_le_mul_right _ hlt
                  omega
                · have : i * sz + sz ≤ j * sz := by rw [← Nat.succ_mul]; exact Nat.mul_le_mul_right _ (by omega)
                  omega
              rw [getD_setL _ _ _ _ (by simpa using hle'), if_neg hne, ← arr_getD]
              exact (q2 k u hu).move hI (fun _ h => h))
          exact ⟨_, B, _, h6, rfl, there_of_block g2 hle', key.1, key.2⟩
    · rename_i t l hb
      obtain ⟨h1, h2⟩ := chkE h
      have h1 := of_decide_eq_true h1
      cases ha with
      | elr _ _ _ _ B hB => exact cellsCase b (i * sz + off) B t l (getD_of_getElem? hb rfl) hB h1 h2 rfl
    · exact h.elim
  · exact h.elim

end
end Go.Proofs.Ytolefphdldmlkaa.AL
