/- The abstract layer (second make), part k: append and calls as operations; all operations in one. -/
import Derived.Test.YtolefphdldmlkaaBLj
import Derived.Deep.Upon
namespace Go.Proofs.Ytolefphdldmlkaa.AL
open Go Go.RowKit

section
variable {P : Program} {T : TTab} {w : World} {I : Nat → Prop} {ι : Nat → Option Nat} {H : List ABlk} {K : AV → List ABlk → Prop} {o : Oper} {a : Act} {next : Act → World → Prop} {Q : Exit → Act → World → Prop} {ev : Operand → AV}

theorem getD_app (us zs : List Value) (k : Nat) (h : k < us.length) : (us.toArray ++ zs.toArray).getD k undef = us.getD k undef := by
  rw [arr_getD, List.getD_eq_getElem?_getD, List.getD_eq_getElem?_getD]
  simp only [Array.toList_append]
  rw [List.getElem?_append_left (by simpa using h)]

/-- Appending where there is no room: a new row. -/
theorem grow_ok {t e : TypeId} {ie : TypeInfo} {ze : Value} (ht : P.underlying t = some (.slice e)) (g1 : P.info? e = some ie) (g3 : ie.zero = some ze) (hs : SimH w I ι H) {xs ys : List (List PV)} {us vs : List Value} {A : Option Addr} {c : Nat} {x : Value} {ty : TypeId}
    (hx : RowVals w I ie.size xs us) (hy : RowVals w I ie.size ys vs) (hzs : ze.cells.size = ie.size) (hold : (Builtin.firstCells ie.size xs.length (.slice A xs.length c)).run P w.drew = .ok us.toArray w.drew) (hsrc : Src P ie.size t x ys.length vs w)
    (hg : c < xs.length + ys.length) (hb : (xs.length + ys.length) * ie.bytes ≤ 140737488355328) (hl : xs.length + ys.length ≤ 140737488355328) {H0 : List ABlk} (hx0 : Ex H.length w I ι H0 w I ι H) (hlen0 : H0.length = H.length) :
    ∃ v' w' ι', (Builtin.append_ #[t, t] ty #[.slice A xs.length c, x]).run P w = .ok v' w' ∧ ARep w' I ι' (.msl H.length ie.size 0 (xs ++ ys).length) v' ∧ SimH w' I ι' (H ++ [.row e ie.size (xs ++ ys)]) ∧ Ex H0.length w I ι H0 w' I ι' (H ++ [.row e ie.size (xs ++ ys)]) := by
  have hrun := run_append_grow_src (P := P) w t t ty e ie ze ht g1 g3 A xs.length c us hold x ys.length vs hsrc hg (by omega) (growslice_fits hg hb)
  let cs : Array Value := (us ++ vs).toArray ++ Builtin.zeroCells ze.cells (grownCap w (xs.length + ys.length) c e - (xs.length + ys.length))
  have g := grew_drew_alloc w (.cells cs e)
  have hv := hx.append hy
  have hcs : (xs ++ ys).length * ie.size ≤ cs.size := by
    have := hv.1
    simp only [cs, Array.size_append, List.size_toArray]
    omega
  have key := g.sim hs (.row e ie.size (xs ++ ys)) (rowBlk_ok (vs := us ++ vs) (cs := cs) (by simp [upd]) g.new (fun hI => by have := hs.Ilt _ hI; omega) (hv.move (fun B hB => g.old B (hs.Ilt B hB)) (fun _ h => h)) (by simpa using hl) hcs (fun k hk => by
    have hk' : k < (us ++ vs).length := by rw [hv.1]; exact hk
    have := getD_app (us ++ vs) (Builtin.zeroCells ze.cells (grownCap w (xs.length + ys.length) c e - (xs.length + ys.length))).toList k hk'
    simpa [cs] using this))
  have hcap := grownCap_ge w (xs.length + ys.length) c e
  refine ⟨_, _, _, hrun, ?_, key.1, ?_⟩
  · have e0 : (⟨w.heap.size, 0, none⟩ : Addr) = ⟨w.heap.size, 0 * ie.size, none⟩ := by simp
    rw [e0, List.length_append]
    refine .msl _ _ _ _ _ _ (by simp [upd]) hcap ⟨cs, e, (0, 0), g.new, ?_⟩
    have := hv.1
    simp only [cs, Array.size_append, List.size_toArray, size_zeroCells, hzs, this, List.length_append, ← Nat.add_mul]
    exact Nat.mul_le_mul_right _ (by omega)
  · rw [hlen0]; exact hx0.trans key.2

theorem firstCells_row {sz n : Nat} {A : Option Addr} {c : Nat} {us : List Value} (hl : us.length = n * sz) (h : n = 0 ∨ ∃ ad, A = some ad ∧ ∀ j u, us[j]? = some u → w.cell? (ad.add j) = some u) :
    (Builtin.firstCells sz n (.slice A n c)).run P w.drew = .ok us.toArray w.drew := by
  rcases h with h | ⟨ad, rfl, h⟩
  · subst h
    have : us = [] := List.length_eq_zero_iff.1 (by rw [hl]; simp)
    subst this
    cases A <;> simp [Builtin.firstCells, loadCells, loadCellsFrom]
  · exact run_firstCells_some w.drew sz n ad n c us hl (by simpa using h)

theorem append_ok {t e : TypeId} {ei : TI} {ie : TypeInfo} {de : TypeDesc} {ze : Value} {s x : AV} {vs vx : Value} {ty : TypeId} (ht : P.underlying t = some (.slice e)) (g1 : P.info? e = some ie) (_g2 : P.underlying e = some de) (g3 : ie.zero = some ze)
    (g5 : ei.size = ie.size) (g6 : ei.bytes = ie.bytes) (hzs : ze.cells.size = ie.size) (h0 : 0 < ei.size) (_hb0 : 0 < ei.bytes) (hs : SimH w I ι H) (hvs : ARep w I ι s vs) (hvx : ARep w I ι x vx) (h : appendK H e ei s x K) :
    ∃ v' w' I' ι' r H', (Builtin.append_ #[t, t] ty #[vs, vx]).run P w = .ok v' w' ∧ K r H' ∧ ARep w' I' ι' r v' ∧ SimH w' I' ι' H' ∧ Ex H.length w I ι H w' I' ι' H' := by
  unfold appendK at h
  obtain ⟨ys, hys, h⟩ := optE h
  rw [g5] at h hys h0
  rw [g6] at h
  obtain ⟨news, hsrc, hrv⟩ := srcOf_ok ht h0 hs hys hvx
  -- nothing is there yet
  have fromNil : ∀ (H1 : List ABlk) (A : Option Addr), SimH w I ι H1 → Ex H.length w I ι H w I ι H1 → H1.length = H.length → ys.length * ie.bytes ≤ 140737488355328 → ys.length ≤ 140737488355328 →
      K (.msl H.length ie.size 0 ys.length) (H1 ++ [.row e ie.size ys]) → ∃ v' w' I' ι' r H', (Builtin.append_ #[t, t] ty #[.slice A 0 0, vx]).run P w = .ok v' w' ∧ K r H' ∧ ARep w' I' ι' r v' ∧ SimH w' I' ι' H' ∧ Ex H.length w I ι H w' I' ι' H' := by
    intro H1 A hs1 hx1 hl1 hb hl hK
    rcases Nat.eq_zero_or_pos ys.length with hn | hn
    · have hyn : ys = [] := List.length_eq_zero_iff.1 hn
      subst hyn
      have hn0 : news = [] := List.length_eq_zero_iff.1 (by rw [hrv.1]; simp)
      subst hn0
      have hrun := run_append_nothing (P := P) w t t ty e ie ht g1 A 0 0 (Nat.le_refl _) vx hsrc
      have k := hs1.phantom e ie.size
      have hx2 := hx1.trans (k.2.less (by omega))
      refine ⟨_, _, I, ι, _, _, hrun, hK, .msl0 _ _ _ A, k.1, hx2⟩
    · have hxs : RowVals w I ie.size [] [] := ⟨by simp, fun j e hj => by simp at hj⟩
      have := grow_ok (ty := ty) (xs := []) (ys := ys) (us := []) (c := 0) (A := A) ht g1 g3 hs1 hxs hrv hzs (firstCells_row (n := 0) (by simp) (.inl rfl)) hsrc (by simp; omega) (by simpa using hb) (by simpa using hl) (H0 := H) (by rw [hl1]; exact hx1) hl1.symm
      obtain ⟨v', w', ι', r1, r2, r3, r4⟩ := this
      rw [hl1] at r2
      exact ⟨v', w', I, ι', _, _, r1, hK, r2, r3, r4⟩
  split at h
  · obtain ⟨⟨b1, b2⟩, hK⟩ := h
    have := rep_raw hvs
    subst this
    exact fromNil H none hs (Ex.refl (Nat.le_refl _)) rfl b1 b2 hK
  · rename_i b sz off len _
    split at h
    · rename_i e' sz' xs hb
      replace h := chkE h
      obtain ⟨c1, hlen, ⟨b1, b2⟩, hK⟩ := h
      simp only [Bool.and_eq_true, beq_iff_eq] at c1
      obtain ⟨⟨⟨c1, c2⟩, c3⟩, c4⟩ := c1
      subst c1 c2 c3 c4
      have hbk := getD_of_getElem? hb rfl
      have hlive : live H b := ⟨_, hbk, rfl⟩
      have kk := hs.kill b
      cases hvs with
      | msl0 _ _ _ A =>
        have hxn : xs = [] := List.length_eq_zero_iff.1 hlen
        subst hxn
        simp only [List.nil_append] at hK
        exact fromNil (H.set b .dead) A kk.1 kk.2 (by simp) (by simpa using b1) (by simpa using b2) hK
      | msl _ _ _ _ B c hB hc hsz =>
        rcases hs.blk b _ hbk with ⟨_, q1⟩ | ⟨B', cs, q1, q2, q3, q4, ql, q6⟩
        · rw [q1] at hB; exact absurd hB (by simp)
        · rw [q1] at hB; obtain rfl := Option.some.inj hB
          obtain ⟨cs', t', fr', s1, s2⟩ := hsz
          rw [q2] at s1
          injection s1 with s1; injection s1 with s1 s1' s1''
          subst s1 s1' s1''
          have hxv := row_vals (w := w) (I := I) q4 q6 (off := 0) (len := xs.length) (by omega)
          have e1 : (xs.drop 0).take xs.length = xs := by simp
          rw [e1, Nat.zero_mul, List.drop_zero] at hxv
          have hA : (⟨B', 0 * ie.size, none⟩ : Addr) = ⟨B', 0, none⟩ := by simp
          subst hlen
          rw [hA]
          rcases Nat.lt_or_ge c (xs.length + ys.length) with hg | hg
          · have := grow_ok (xs := xs) (ys := ys) (c := c) (A := some ⟨B', 0, none⟩) (ty := ty) ht g1 g3 kk.1 hxv hrv hzs (firstCells_row hxv.1 (.inr ⟨_, rfl, fun j u hu => by
              rw [Addr.add_mid, Nat.zero_add, cell_of_row w B' j cs e' (0, 0) q2, ← Array.getElem?_toList]
              rw [List.getElem?_take_of_lt (by have := (List.getElem?_eq_some_iff.1 hu).1; simp at this; omega)] at hu
              exact hu⟩)) hsrc hg b1 b2 (H0 := H) (by simpa using kk.2) (by simp)
            obtain ⟨v', w', ι', r1, r2, r3, r4⟩ := this
            rw [List.length_set] at r2
            exact ⟨v', w', I, ι', _, _, r1, hK, r2, r3, r4⟩
          · have hnl := hrv.1
            have hmul : (xs.length + ys.length) * ie.size ≤ c * ie.size := Nat.mul_le_mul_right _ hg
            rw [Nat.add_mul] at hmul
            rw [Nat.zero_add] at s2
            have hth := there_of_block (w := w) (o := xs.length * ie.size) (n := news.length) q2 (by omega)
            have hrun := run_append_room_src (P := P) w t t ty e' ie ht g1 B' 0 xs.length c vx ys.length news hsrc hg (fun j hj => by simpa using (hth j hj).1) (fun j hj => by simpa using (hth j hj).2)
            rw [Nat.zero_add] at hrun
            have hw := heap_setCells w B' e' news (xs.length * ie.size) cs q2 (by omega)
            have hle : xs.length * ie.size + news.length ≤ cs.toList.length := by simp; omega
            have hsz' : (setL cs.toList (xs.length * ie.size) news).toArray.size = cs.size := by simp [setL_length hle]
            have hW := wrote_setCells w B' news (xs.length * ie.size)
            have hv := hxv.append hrv
            have hI : ∀ C, I C → (w.setCells B' (xs.length * ie.size) news).heap[C]? = w.heap[C]? := fun C hC => hW.old C (fun e => q3 (e ▸ hC))
            have key := hW.moved hs hlive q1 q2 hw hsz' (.row e' ie.size (xs ++ ys)) (rowBlk_ok (vs := cs.toList.take (xs.length * ie.size) ++ news) (by simp [upd]) hw q3 (hv.move hI (fun _ h => h)) (by simpa using b2)
              (by rw [hsz', List.length_append, Nat.add_mul]; omega) (fun k hk => by
                rw [List.length_append, Nat.add_mul] at hk
                rw [getD_setL _ _ _ _ hle]
                rcases Nat.lt_or_ge k (xs.length * ie.size) with h1 | h1
                · rw [if_neg (by omega), List.getD_eq_getElem?_getD, List.getD_eq_getElem?_getD, List.getElem?_append_left (by simp; omega), List.getElem?_take_of_lt h1]
                · rw [if_pos (by omega), List.getD_eq_getElem?_getD, List.getD_eq_getElem?_getD, List.getElem?_append_right (by simp; omega)]
                  simp only [List.length_take, Array.length_toList]
                  rw [Nat.min_eq_left (by omega)]))
            refine ⟨_, _, I, _, _, _, hrun, hK, ?_, key.1, key.2⟩
            have hA' : (⟨B', 0, none⟩ : Addr) = ⟨B', 0 * ie.size, none⟩ := by simp
            rw [hA', List.length_append]
            exact .msl _ _ _ _ _ _ (by simp [upd]) hg ⟨_, e', (0, 0), hw, by rw [hsz', Nat.zero_add]; exact s2⟩
    · exact h.elim
  · exact h.elim

end
end Go.Proofs.Ytolefphdldmlkaa.AL
