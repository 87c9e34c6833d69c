/- Rounds: what stands behind the record is forgotten. -/
import Derived.Test.YtolefphdldmlkaaBLt
namespace Go.Proofs.Ytolefphdldmlkaa.AL
open Go

theorem belowL_of {n : Nat} : ∀ {l : List AV}, (∀ u ∈ l, belowB n u = true) → belowL n l = true
  | [], _ => rfl
  | x :: r, h => by
    simp only [belowL, Bool.and_eq_true]
    exact ⟨h x (by simp), belowL_of fun u hu => h u (by simp [hu])⟩
theorem belowL_dense {k n : Nat} {l : List (Nat × AV)} (h : belowF k l = true) : belowL k (dense n l) = true := by
  refine belowL_of fun u hu => ?_
  unfold dense at hu
  rw [List.mem_map] at hu
  obtain ⟨t, _, rfl⟩ := hu
  cases e : look l t with
  | none => rfl
  | some u => exact belowF_look h e
theorem belowH_snoc {n : Nat} {x : ABlk} : ∀ {H : List ABlk}, belowH n H = true → belowK n x = true → belowH n (H ++ [x]) = true
  | [], _, h => by simp [belowH, h]
  | y :: r, h, hx => by
    simp only [belowH, Bool.and_eq_true, List.cons_append] at h ⊢
    exact ⟨h.1, belowH_snoc h.2 hx⟩

theorem wk_truncL {m : Nat} {s : St} (M : Nat) (ks : List Nat) {q : RecK} {st : LoopState} {pe : Option Code} {l : List AV} (hM : s.H[M]? = some (.lp q st pe l)) (hl : belowL (M + 1) l = true)
    (hm : Nat.ble m (M + 1) = true) (hf : belowF (M + 1) (keepL s.fr.l ks) = true) (hb : belowH (M + 1) (s.H.take M) = true) :
    Wk m s ⟨⟨s.fr.n, keepL s.fr.l ks⟩, s.H.take (M + 1)⟩ := by
  have hlt : M < s.H.length := (List.getElem?_eq_some_iff.1 hM).1
  refine wk_trunc (M + 1) ks hm (by rw [Nat.ble_eq]; omega) hf ?_
  rw [List.take_add_one, hM]
  exact belowH_snoc hb hl

theorem wk_keep {m : Nat} {s : St} (ks : List Nat) : Wk m s ⟨⟨s.fr.n, keepL s.fr.l ks⟩, s.H⟩ := fun _ _ I ι _ hs hm =>
  ⟨I, ι, hs.turn ⟨hs.fr.1, fun i u hu => hs.fr.2 i u (look_keep_some hu)⟩ hs.H (Ex.refl hm), Ex.refl hm⟩

/-- A round, where what the record holds is not looked at. -/
theorem ay_roundL {P : Program} {α β : Type} {M n : Nat} {q : RecK} {lf : List (Nat × AV)} {args : List AV} {J : ABlk → α → List ABlk} {Z : ABlk → β → List ABlk} {a : α} {Rnd : α → Prop} {Stp : Code → β → Prop}
    (hJ : ∀ L a, (J L a)[M]? = some L ∧ ∀ L', (J L a).set M L' = J L' a) (hZ : ∀ L z, (Z L z)[M]? = some L ∧ ∀ L', (Z L z).set M L' = Z L' z)
    (hlf : ∀ t u, look lf t = some u → t < n) (hps : ∀ p ∈ q.ps.toList, p < n) (hpa : q.ps.size = args.length) (hbf : belowF (M + 1) lf = true)
    (hround : ∀ B l, belowL (M + 1) l = true → AW P (some B) (M + 1) q.assign ⟨⟨n, setPs lf q.ps.toList args⟩, J (.lp q .ready none l) a⟩
      (thenA (fun s1 => s1.H[M]? = some (.lp q .ready none l) ∧ AW P (some B) (M + 1) q.body ⟨s1.fr, s1.H.set M (.lp q .busy none l)⟩ (roundA M J Z (.lp q .busy none l) Rnd Stp)) (fun _ _ => False))) :
    AYm P (M + 1) M args (J (.lp q .ready none (dense n lf)) a) (fun r H' => (r = .p (.raw (.bool true)) ∧ ∃ a', Rnd a' ∧ H' = J (.lp q .ready none (dense n lf)) a') ∨ (r = .p (.raw (.bool false)) ∧ ∃ c z, Stp c z ∧ H' = Z (.lp q .done (some c) (dense n lf)) z)) :=
  ay_round hJ hZ hlf hps hpa fun B => hround B _ (belowL_dense hbf)

theorem AYm.mono {P : Program} {m b : Nat} {args : List AV} {H : List ABlk} {R R' : AV → List ABlk → Prop} (h : AYm P m b args H R) (hR : ∀ r H', R r H' → R' r H') : AYm P m b args H R' :=
  fun w I ι vals B hn ha hs hb => let ⟨fn, tmps, assign, body, h1, h2⟩ := h w I ι vals B hn ha hs hb
    ⟨fn, tmps, assign, body, h1, h2.mono fun _ _ ⟨v, r, H', I', ι', e, hr, k⟩ => ⟨v, r, H', I', ι', e, hR _ _ hr, k⟩⟩
/-- The end of a row is forgotten. -/
theorem wk_rowTake {m : Nat} {s : St} (b k : Nat) {t : TypeId} {sz : Nat} {xs : List (List PV)} (hb : s.H[b]? = some (.row t sz xs)) : Wk m s ⟨s.fr, s.H.set b (.row t sz (xs.take k))⟩ := fun N w I ι a hs hm => by
  have hlive : live s.H b := ⟨_, hb, rfl⟩
  have hlv : ∀ c, live (s.H.set b (.row t sz (xs.take k))) c → live s.H c := fun c hc => live_set hc hlive
  have hsim : SimH w I ι (s.H.set b (.row t sz (xs.take k))) := by
    refine ⟨fun c k' hc => ?_, fun c c' B hc hc' => hs.H.inj c c' B (hlv c hc) (hlv c' hc'), hs.H.Ilt, fun c hc => hs.H.dom c (by simpa using hc), hs.H.rng⟩
    by_cases e : c = b
    · subst e
      rw [List.getElem?_set_self (live_lt hlive)] at hc
      obtain rfl := Option.some.inj hc
      rcases hs.H.blk c _ hb with ⟨g1, g2⟩ | ⟨B, cs, g1, g2, g3, g4, g5, g6⟩
      · subst g1
        exact .inl ⟨List.take_nil, g2⟩
      · have hle : (xs.take k).length ≤ xs.length := by rw [List.length_take]; omega
        refine .inr ⟨B, cs, g1, g2, g3, Nat.le_trans (Nat.mul_le_mul_right _ hle) g4, by omega, fun j e2 hj => g6 j e2 ?_⟩
        have hj2 : j < k := by have := (List.getElem?_eq_some_iff.1 hj).1; rw [List.length_take] at this; omega
        rw [List.getElem?_take_of_lt hj2] at hj
        exact hj
    · rw [List.getElem?_set_ne (by omega)] at hc
      exact hs.H.blk c k' hc
  have hx : Ex m w I ι s.H w I ι (s.H.set b (.row t sz (xs.take k))) := ⟨⟨rfl, rfl, rfl, Nat.le_refl _, Shape.refl w, fun _ h => h, fun _ _ _ => rfl, fun _ h => .inl h, fun c B hc h => .inr ⟨c, hlv c hc, h⟩⟩, fun _ _ => rfl, by simpa using hm⟩
  exact ⟨I, ι, hs.turn hs.fr hsim hx, hx⟩
/-- An array of one-cell elements is looked at as a row. -/
theorem wk_arr {m : Nat} {s : St} (b : Nat) {t : TypeId} {l : List AV} (ps : List PV) (hb : s.H[b]? = some (.cells t l)) (hl : l = ps.map .p) (hn : Nat.ble ps.length 140737488355328 = true) :
    Wk m s ⟨s.fr, s.H.set b (.row t 1 (ps.map fun p => [p]))⟩ := fun N w I ι a hs hm => by
  have hlive : live s.H b := ⟨_, hb, rfl⟩
  have hlv : ∀ c, live (s.H.set b (.row t 1 (ps.map fun p => [p]))) c → live s.H c := fun c hc => live_set hc hlive
  have hsim : SimH w I ι (s.H.set b (.row t 1 (ps.map fun p => [p]))) := by
    refine ⟨fun c k' hc => ?_, fun c c' B hc hc' => hs.H.inj c c' B (hlv c hc) (hlv c' hc'), hs.H.Ilt, fun c hc => hs.H.dom c (by simpa using hc), hs.H.rng⟩
    by_cases e : c = b
    · subst e
      rw [List.getElem?_set_self (live_lt hlive)] at hc
      obtain rfl := Option.some.inj hc
      obtain ⟨B, cs, g1, g2, g3, g4, g5⟩ := hs.H.blk c _ hb
      rw [hl, List.length_map] at g4
      refine .inr ⟨B, cs, g1, g2, g3, by rw [List.length_map]; omega, by rw [List.length_map]; exact Nat.le_of_ble_eq_true hn, fun j e2 hj => ?_⟩
      rw [List.getElem?_map] at hj
      cases hp : ps[j]? with
      | none => rw [hp] at hj; cases hj
      | some p =>
        rw [hp] at hj
        obtain rfl := Option.some.inj hj
        refine ⟨rfl, fun i u hu => ?_⟩
        cases i with
        | succ i => simp at hu
        | zero =>
          obtain rfl : p = u := by simpa using hu
          have := g5 j (.p p) (by rw [hl, List.getElem?_map, hp]; rfl)
          rw [Nat.mul_one, Nat.add_zero]
          cases this with
          | p h => exact h
    · rw [List.getElem?_set_ne (by omega)] at hc
      exact hs.H.blk c k' hc
  have hx : Ex m w I ι s.H w I ι (s.H.set b (.row t 1 (ps.map fun p => [p]))) := ⟨⟨rfl, rfl, rfl, Nat.le_refl _, Shape.refl w, fun _ h => h, fun _ _ _ => rfl, fun _ h => .inl h, fun c B hc h => .inr ⟨c, hlv c hc, h⟩⟩, fun _ _ => rfl, by simpa using hm⟩
  exact ⟨I, ι, hs.turn hs.fr hsim hx, hx⟩
theorem wk_elr {m : Nat} {s : St} (i b sz : Nat) (h : look s.fr.l i = some (.ref b 0)) : Wk m s ⟨⟨s.fr.n, (i, .elr b sz 0 0) :: s.fr.l⟩, s.H⟩ := fun N w I ι a hs hm => by
  refine ⟨I, ι, hs.turn ⟨hs.fr.1, fun j u hu => ?_⟩ hs.H (Ex.refl hm), Ex.refl hm⟩
  by_cases e : i = j
  · subst e
    rw [look_self] at hu; obtain rfl := Option.some.inj hu
    have := hs.fr.2 i _ h
    generalize a.tmps.getD i undef = v at this ⊢
    cases this with
    | ref _ _ B hB => 
      have k := ARep.elr (w := w) (I := I) b sz 0 0 B hB
      simpa using k
  · rw [look_other _ _ e] at hu; exact hs.fr.2 j u hu
end Go.Proofs.Ytolefphdldmlkaa.AL
