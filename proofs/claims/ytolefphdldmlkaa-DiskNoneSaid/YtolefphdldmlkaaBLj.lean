/- The abstract layer (second make), part j: append. -/
import Derived.Test.YtolefphdldmlkaaBLi
namespace Go.Proofs.Ytolefphdldmlkaa.AL
open Go Go.RowKit

section
variable {P : Program} {T : TTab} {w : World} {I : Nat → Prop} {ι : Nat → Option Nat} {H : List ABlk}

/-- The cells of a row of closed elements. -/
def RowVals (w : World) (I : Nat → Prop) (sz : Nat) (ys : List (List PV)) (vs : List Value) : Prop :=
  vs.length = ys.length * sz ∧ ∀ j e, ys[j]? = some e → e.length = sz ∧ ∀ i u, e[i]? = some u → PRep w I u (vs.getD (j * sz + i) undef)

theorem RowVals.one {sz : Nat} {ys : List (List PV)} {vs : List Value} (h : RowVals w I sz ys vs) (h0 : 0 < sz) : ∀ u ∈ vs, u.oneCell' = true := by
  intro u hu
  obtain ⟨k, hk, rfl⟩ := List.getElem_of_mem hu
  have hk' : k < ys.length * sz := by rw [← h.1]; exact hk
  have hj : k / sz < ys.length := by rw [Nat.div_lt_iff_lt_mul h0]; exact hk'
  obtain ⟨r1, r2⟩ := h.2 (k / sz) _ (List.getElem?_eq_getElem hj)
  have hm : k % sz < sz := Nat.mod_lt _ h0
  have := (r2 (k % sz) _ (List.getElem?_eq_getElem (by rw [r1]; exact hm))).one
  rw [Nat.div_add_mod' k sz] at this
  rw [List.getD_eq_getElem?_getD, List.getElem?_eq_getElem hk] at this
  exact this

theorem RowVals.append {sz : Nat} {xs ys : List (List PV)} {us vs : List Value} (h : RowVals w I sz xs us) (k : RowVals w I sz ys vs) : RowVals w I sz (xs ++ ys) (us ++ vs) := by
  refine ⟨by simp [h.1, k.1, Nat.add_mul], fun j e hj => ?_⟩
  rcases Nat.lt_or_ge j xs.length with hlt | hge
  · rw [List.getElem?_append_left hlt] at hj
    obtain ⟨r1, r2⟩ := h.2 j e hj
    refine ⟨r1, fun i u hu => ?_⟩
    have hi : i < sz := by rw [← r1]; exact (List.getElem?_eq_some_iff.1 hu).1
    have hmul : j * sz + sz ≤ xs.length * sz := by rw [← Nat.succ_mul]; exact Nat.mul_le_mul_right _ hlt
    have := r2 i u hu
    rw [List.getD_eq_getElem?_getD] at this ⊢
    rw [List.getElem?_append_left (by rw [h.1]; omega)]
    exact this
  · rw [List.getElem?_append_right hge] at hj
    obtain ⟨r1, r2⟩ := k.2 _ e hj
    refine ⟨r1, fun i u hu => ?_⟩
    have := r2 i u hu
    obtain ⟨d, rfl⟩ : ∃ d, j = xs.length + d := ⟨j - xs.length, by omega⟩
    rw [List.getD_eq_getElem?_getD] at this ⊢
    rw [Nat.add_mul, Nat.add_assoc, List.getElem?_append_right (by rw [h.1]; omega), h.1]
    rw [show xs.length * sz + (d * sz + i) - xs.length * sz = (xs.length + d - xs.length) * sz + i by
      rw [Nat.add_sub_cancel_left, Nat.add_sub_cancel_left]]
    exact this

theorem RowVals.move {w' : World} {I' : Nat → Prop} {sz : Nat} {ys : List (List PV)} {vs : List Value} (hw : ∀ B, I B → w'.heap[B]? = w.heap[B]?) (hI : ∀ B, I B → I' B) (h : RowVals w I sz ys vs) : RowVals w' I' sz ys vs :=
  ⟨h.1, fun j e hj => ⟨(h.2 j e hj).1, fun i u hu => ((h.2 j e hj).2 i u hu).move hw hI⟩⟩

theorem src_empty {size : Nat} {tx e' : TypeId} (hk : P.underlying tx = some (.slice e')) (A : Option Addr) (c : Nat) (w : World) : Src P size tx (.slice A 0 c) 0 [] w := by
  refine ⟨.inl ⟨e', hk⟩, fun _ => rfl, ?_, ?_, by simp, fun _ h => by cases h⟩ <;> cases A <;> simp [Builtin.firstCells, loadCells, loadCellsFrom]

/-- The cells of part of a row block. -/
theorem row_vals {sz : Nat} {xs : List (List PV)} {cs : Array Value} (h4 : xs.length * sz ≤ cs.size)
    (h6 : ∀ j e, xs[j]? = some e → e.length = sz ∧ ∀ i u, e[i]? = some u → PRep w I u (cs.getD (j * sz + i) undef)) {off len : Nat} (hle : off + len ≤ xs.length) :
    RowVals w I sz ((xs.drop off).take len) ((cs.toList.drop (off * sz)).take (len * sz)) := by
  have hmul : (off + len) * sz ≤ xs.length * sz := Nat.mul_le_mul_right _ hle
  rw [Nat.add_mul] at hmul
  refine ⟨?_, fun j e hj => ?_⟩
  · simp only [List.length_take, List.length_drop, Array.length_toList]
    rw [Nat.min_eq_left (by omega), Nat.min_eq_left (by omega)]
  · obtain ⟨hjl, hj⟩ := drop_take_get _ _ _ _ _ hj
    obtain ⟨r1, r2⟩ := h6 _ e hj
    refine ⟨r1, fun i u hu => ?_⟩
    have hi : i < sz := by rw [← r1]; exact (List.getElem?_eq_some_iff.1 hu).1
    have := r2 i u hu
    have hm : j * sz + sz ≤ len * sz := by rw [← Nat.succ_mul]; exact Nat.mul_le_mul_right _ hjl
    rw [List.getD_eq_getElem?_getD, List.getElem?_take_of_lt (by omega), List.getElem?_drop]
    rw [Array.getD_eq_getD_getElem?, Nat.add_mul, Nat.add_assoc, ← Array.getElem?_toList] at this
    exact this

theorem srcOf_ok {tx e' : TypeId} (hk : P.underlying tx = some (.slice e')) {sz : Nat} (h0 : 0 < sz) {x : AV} {v : Value} {ys : List (List PV)} (hs : SimH w I ι H) (h : srcOf H sz x = some ys) (hx : ARep w I ι x v) :
    ∃ news, Src P sz tx v ys.length news w ∧ RowVals w I sz ys news := by
  have made : ∀ (ad : Addr) (c : Nat) (news : List Value), RowVals w I sz ys news → (∀ j u, news[j]? = some u → w.cell? (ad.add j) = some u) → ∃ news, Src P sz tx (.slice (some ad) ys.length c) ys.length news w ∧ RowVals w I sz ys news :=
    fun ad c news hr hc => ⟨news, Src.ofSlice w hk ad ys.length c news hr.1 hc (hr.one h0), hr⟩
  unfold srcOf at h
  split at h
  · rename_i sz' xs
    split at h
    · rename_i hsz
      have hsz : sz' = sz := of_decide_eq_true hsz
      subst hsz
      obtain rfl := Option.some.inj h
      cases p_inv hx with
      | sl sz xs A c f hc hlen hA hr =>
        rcases hA with hA | ⟨b, o, rfl, hI, hcell⟩
        · subst hA
          exact ⟨[], src_empty hk A c w, by simp, fun j e hj => by simp at hj⟩
        · refine made ⟨b, o, none⟩ c ((List.range (xs.length * sz')).map fun k => f (k / sz') (k % sz')) ⟨by simp, fun j e hj => ?_⟩ (fun k u hu => ?_)
          · obtain ⟨r1, r2⟩ := hcell j e hj
            refine ⟨r1, fun i u hu => ?_⟩
            have hi : i < sz' := by rw [← r1]; exact (List.getElem?_eq_some_iff.1 hu).1
            have hjl : j < xs.length := (List.getElem?_eq_some_iff.1 hj).1
            have hmul : j * sz' + sz' ≤ xs.length * sz' := by rw [← Nat.succ_mul]; exact Nat.mul_le_mul_right _ hjl
            rw [List.getD_eq_getElem?_getD, List.getElem?_map, List.getElem?_range (by omega)]
            simp only [Option.map_some, Option.getD_some]
            have e1 : (j * sz' + i) / sz' = j := by rw [Nat.mul_comm, Nat.mul_add_div h0, Nat.div_eq_of_lt hi]; simp
            have e2 : (j * sz' + i) % sz' = i := by rw [Nat.add_comm, Nat.add_mul_mod_self_right, Nat.mod_eq_of_lt hi]
            rw [e1, e2]
            exact hr j e i u hj hu
          · simp only [List.getElem?_map, Option.map_eq_some_iff] at hu
            obtain ⟨k', hk', rfl⟩ := hu
            obtain ⟨hlt, he⟩ := List.getElem?_eq_some_iff.1 hk'
            simp at hlt he; subst he
            have hjl : k / sz' < xs.length := by rw [Nat.div_lt_iff_lt_mul h0]; exact hlt
            have := (hcell (k / sz') _ (List.getElem?_eq_getElem hjl)).2 (k % sz') (Nat.mod_lt _ h0)
            rw [Nat.add_assoc, Nat.div_add_mod' k sz'] at this
            rw [Addr.add_mid]; exact this
    · exact absurd h (by simp)
  · rename_i b sz' off len
    split at h
    · rename_i t sz'' xs hb
      split at h
      · rename_i hc
        simp only [Bool.and_eq_true, beq_iff_eq] at hc
        obtain ⟨⟨c1, c2⟩, c3⟩ := hc
        subst c1
        subst c2
        have c3 := Nat.le_of_ble_eq_true c3
        obtain rfl := Option.some.inj h
        have hylen : ((xs.drop off).take len).length = len := by simp; omega
        cases hx with
        | msl _ _ _ _ B c hB hcc hsz =>
          rcases hs.blk b _ (getD_of_getElem? hb rfl) with ⟨_, g1⟩ | ⟨B', cs, g1, g2, g3, g4, gl, g6⟩
          · rw [g1] at hB; exact absurd hB (by simp)
          · rw [g1] at hB; obtain rfl := Option.some.inj hB
            have hr := row_vals (w := w) (I := I) g4 g6 c3
            have := made ⟨B', off * sz'', none⟩ c _ hr (fun k u hu => by
              obtain ⟨_, hu⟩ := drop_take_get _ _ _ _ _ hu
              rw [Addr.add_mid, cell_of_row w B' _ cs t (0, 0) g2, ← Array.getElem?_toList]
              exact hu)
            rw [hylen] at this ⊢
            exact this
        | msl0 _ _ _ A =>
          refine ⟨[], ?_, by simp, fun j e hj => by simp at hj⟩
          rw [hylen]; exact src_empty hk A 0 w
      · exact absurd h (by simp)
    · exact absurd h (by simp)
  · obtain rfl := Option.some.inj h
    have := rep_raw hx
    subst this
    exact ⟨[], src_empty hk none 0 w, by simp, fun j e hj => by simp at hj⟩
  · exact absurd h (by simp)

/-- A block of the list is forgotten. -/
theorem SimH.kill (hs : SimH w I ι H) (b : Nat) : SimH w I ι (H.set b .dead) ∧ Ex H.length w I ι H w I ι (H.set b .dead) := by
  have hlive : ∀ c, live (H.set b .dead) c → live H c := fun c hc => by
    obtain ⟨k, hk, hl⟩ := hc
    by_cases e : c = b
    · subst e
      rw [List.getElem?_set] at hk
      simp at hk
      obtain ⟨_, rfl⟩ := hk
      simp [ABlk.live] at hl
    · rw [List.getElem?_set_ne (by omega)] at hk
      exact ⟨k, hk, hl⟩
  refine ⟨⟨fun c k hk => ?_, fun c c' B hc hc' => hs.inj c c' B (hlive c hc) (hlive c' hc'), hs.Ilt, fun c hc => hs.dom c (by simpa using hc), hs.rng⟩, ⟨⟨rfl, rfl, rfl, Nat.le_refl _, Shape.refl w, fun _ h => h, fun _ _ _ => rfl, fun _ h => .inl h, fun c B hc h => .inr ⟨c, hlive c hc, h⟩⟩, fun _ _ => rfl, by simp⟩⟩
  by_cases e : c = b
  · subst e
    rw [List.getElem?_set] at hk
    simp at hk
    obtain ⟨_, rfl⟩ := hk
    trivial
  · rw [List.getElem?_set_ne (by omega)] at hk
    exact hs.blk c k hk

/-- A row of nothing that stands nowhere. -/
theorem SimH.phantom (hs : SimH w I ι H) (e : TypeId) (sz : Nat) : SimH w I ι (H ++ [.row e sz []]) ∧ Ex H.length w I ι H w I ι (H ++ [.row e sz []]) := by
  have hn : ι H.length = none := hs.dom _ (Nat.le_refl _)
  refine ⟨⟨fun b k hb => ?_, fun b b' B hb hb' h1 h2 => ?_, hs.Ilt, fun b hb => hs.dom b (by simp at hb; omega), hs.rng⟩, ⟨⟨rfl, rfl, rfl, Nat.le_refl _, Shape.refl w, fun _ h => h, fun _ _ _ => rfl, fun _ h => .inl h, fun b B hb h => ?_⟩, fun _ _ => rfl, by simp⟩⟩
  · rcases Nat.lt_or_ge b H.length with hlt | hge
    · rw [List.getElem?_append_left hlt] at hb; exact hs.blk b k hb
    · have hbl : b = H.length := by
        have := (List.getElem?_eq_some_iff.1 hb).1
        simp only [List.length_append, List.length_cons, List.length_nil] at this
        omega
      subst hbl
      rw [getElem?_append_len] at hb
      obtain rfl := Option.some.inj hb
      exact .inl ⟨rfl, hn⟩
  · rcases live_append hb with hb | rfl
    · rcases live_append hb' with hb' | rfl
      · exact hs.inj b b' B hb hb' h1 h2
      · rw [hn] at h2; exact absurd h2 (by simp)
    · rw [hn] at h1; exact absurd h1 (by simp)
  · rcases live_append hb with hb | rfl
    · exact .inr ⟨b, hb, h⟩
    · rw [hn] at h; exact absurd h (by simp)

/-- A row that has been written further stands at the list's end from now on. -/
theorem Wrote.moved {w' : World} {b B : Nat} {t : TypeId} {cs cs' : Array Value} (g : Wrote w w' B) (hs : SimH w I ι H) (hb : live H b) (hι : ι b = some B)
    (h0 : w.heap[B]? = some (.cells cs t (0, 0))) (h1 : w'.heap[B]? = some (.cells cs' t (0, 0))) (hsz : cs'.size = cs.size) (k : ABlk) (hk : BlkOk w' I (upd ι H.length B) H.length k) :
    SimH w' I (upd ι H.length B) (H.set b .dead ++ [k]) ∧ Ex H.length w I ι H w' I (upd ι H.length B) (H.set b .dead ++ [k]) := by
  obtain ⟨s1, x1⟩ := g.sim hs hb hι h0 h1 hsz .dead trivial
  have hlen : (H.set b .dead).length = H.length := by simp
  have hBl : B < w'.heap.size := s1.rng b B hι
  have hold : ∀ c, c < H.length → upd ι H.length B c = ι c := fun c hc => by unfold upd; rw [if_neg (by omega)]
  have hmono : ∀ c C, ι c = some C → upd ι H.length B c = some C := fun c C hc => by
    rw [hold c]; exact hc
    rcases Nat.lt_or_ge c H.length with h | h
    · exact h
    · rw [hs.dom c h] at hc; exact absurd hc (by simp)
  have hnl : ∀ c, live (H.set b .dead) c → c ≠ b := fun c hc e => by
    subst e
    obtain ⟨k', hk', hl⟩ := hc
    rw [List.getElem?_set_self (live_lt hb)] at hk'
    obtain rfl := Option.some.inj hk'
    simp [ABlk.live] at hl
  have hne : ∀ c, live (H.set b .dead) c → ι c ≠ some B := fun c hc e => hnl c hc (hs.inj c b B (live_set hc hb) hb e hι)
  have hnew : upd ι H.length B H.length = some B := by simp [upd]
  have hsh : Shape w' w' := Shape.refl _
  constructor
  · refine ⟨fun c kc hc => ?_, fun c c' C hc hc' h2 h3 => ?_, s1.Ilt, fun c hc => ?_, fun c C hc => ?_⟩
    · rcases Nat.lt_or_ge c H.length with hlt | hge
      · rw [List.getElem?_append_left (by omega)] at hc
        have h2 := s1.blk c kc hc
        cases kc with
        | dead => trivial
        | cells t l =>
          obtain ⟨C, ds, g1, g2, g3, g4, g5⟩ := h2
          exact ⟨C, ds, hmono c C g1, g2, g3, g4, fun i u hu => (g5 i u hu).move (fun _ _ => rfl) (fun _ h => h) hmono hsh⟩
        | lp q st pe l =>
          obtain ⟨C, ds, g1, g2, g3, g4, g5⟩ := h2
          exact ⟨C, ds, hmono c C g1, g2, g3, g4, fun i u hu => (g5 i u hu).move (fun _ _ => rfl) (fun _ h => h) hmono hsh⟩
        | row t sz xs =>
          rcases h2 with ⟨g1, g2⟩ | ⟨C, ds, g1, g2⟩
          · exact .inl ⟨g1, by rw [hold c hlt]; exact g2⟩
          · exact .inr ⟨C, ds, hmono c C g1, g2⟩
        | obj o =>
          obtain ⟨g0, C, g1, g2, g3⟩ := h2
          exact ⟨g0, C, hmono c C g1, g2, g3⟩
      · have hcl : c = H.length := by
          have := (List.getElem?_eq_some_iff.1 hc).1
          simp only [List.length_append, List.length_cons, List.length_nil, hlen] at this
          omega
        subst hcl
        have : (H.set b .dead ++ [k])[H.length]? = some k := by
          have := getElem?_append_len (H.set b .dead) k
          rw [hlen] at this; exact this
        rw [this] at hc
        obtain rfl := Option.some.inj hc
        exact hk
    · have e1 : ∀ c, live (H.set b .dead ++ [k]) c → live (H.set b .dead) c ∨ c = H.length := fun c hc => by
        have := live_append hc; rw [hlen] at this; exact this
      rcases e1 c hc with hc | rfl <;> rcases e1 c' hc' with hc' | rfl
      · rw [hold c (by have := live_lt hc; omega)] at h2; rw [hold c' (by have := live_lt hc'; omega)] at h3
        exact s1.inj c c' C hc hc' h2 h3
      · rw [hold c (by have := live_lt hc; omega)] at h2; rw [hnew] at h3
        obtain rfl := Option.some.inj h3
        exact absurd h2 (hne c hc)
      · rw [hold c' (by have := live_lt hc'; omega)] at h3; rw [hnew] at h2
        obtain rfl := Option.some.inj h2
        exact absurd h3 (hne c' hc')
      · rfl
    · simp only [List.length_append, List.length_cons, List.length_nil, hlen] at hc
      unfold upd; rw [if_neg (by omega)]; exact hs.dom c (by omega)
    · unfold upd at hc
      split at hc
      · obtain rfl := Option.some.inj hc; exact hBl
      · exact s1.rng c C hc
  · have x := x1.ext
    refine ⟨⟨x.os, x.tape, x.output, x.size, x.shape, x.Isub, x.frame, x.Inew, fun c C hc h2 => ?_⟩, fun c hc => hold c hc, by simp⟩
    have e1 := live_append hc
    rw [hlen] at e1
    rcases e1 with hc | rfl
    · rw [hold c (by have := live_lt hc; omega)] at h2; exact x.own c C hc h2
    · rw [hnew] at h2; obtain rfl := Option.some.inj h2; exact .inr ⟨b, hb, hι⟩

theorem rowBlk_ok {b B : Nat} {e : TypeId} {sz : Nat} {xs : List (List PV)} {vs : List Value} {cs : Array Value} (hι : ι b = some B) (hh : w.heap[B]? = some (.cells cs e (0, 0))) (hnI : ¬ I B) (hr : RowVals w I sz xs vs)
    (hl : xs.length ≤ 140737488355328) (hle : xs.length * sz ≤ cs.size) (hcs : ∀ k, k < xs.length * sz → cs.getD k undef = vs.getD k undef) : BlkOk w I ι b (.row e sz xs) := by
  refine .inr ⟨B, cs, hι, hh, hnI, hle, hl, fun j el hj => ?_⟩
  obtain ⟨r1, r2⟩ := hr.2 j el hj
  refine ⟨r1, fun i u hu => ?_⟩
  have hi : i < sz := by rw [← r1]; exact (List.getElem?_eq_some_iff.1 hu).1
  have hmul : j * sz + sz ≤ xs.length * sz := by rw [← Nat.succ_mul]; exact Nat.mul_le_mul_right _ (List.getElem?_eq_some_iff.1 hj).1
  rw [hcs _ (by omega)]
  exact r2 i u hu

end
end Go.Proofs.Ytolefphdldmlkaa.AL
