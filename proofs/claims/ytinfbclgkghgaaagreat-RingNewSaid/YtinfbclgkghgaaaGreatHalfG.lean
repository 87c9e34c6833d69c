/- A part of the proof. -/
import Derived.Test.YtinfbclgkghgaaaGreatHalfF
/- Rounds: what stands behind the record is forgotten. -/
namespace Go.Proofs.YtinfbclgkghgaaaGreat.AL
open Go

theorem belowL_of {n : Nat} : ∀ {l : List AV}, (∀ u ∈ l, belowB n u = true) → belowL n l = true
  | [], _ => rfl
  | x :: r, h => by
    simp only [belowL, Bool.and_eq_true]
    exact ⟨h x (by simp), belowL_of fun u hu => h u (by simp [hu])⟩
theorem belowL_dense {k n : Nat} {l : List (Nat × AV)} (h : belowF k l = true) : belowL k (dense n l) = true := by
  refine belowL_of fun u hu => ?_
  unfold dense at hu
  rw [List.mem_map] at hu
  obtain ⟨t, _, rfl⟩ := hu
  cases e : look l t with
  | none => rfl
  | some u => exact belowF_look h e
theorem belowH_snoc {n : Nat} {x : ABlk} : ∀ {H : List ABlk}, belowH n H = true → belowK n x = true → belowH n (H ++ [x]) = true
  | [], _, h => by simp [belowH, h]
  | y :: r, h, hx => by
    simp only [belowH, Bool.and_eq_true, List.cons_append] at h ⊢
    exact ⟨h.1, belowH_snoc h.2 hx⟩

theorem wk_truncL {m : Nat} {s : St} (M : Nat) (ks : List Nat) {q : RecK} {st : LoopState} {pe : Option Code} {l : List AV} (hM : s.H[M]? = some (.lp q st pe l)) (hl : belowL (M + 1) l = true)
    (hm : Nat.ble m (M + 1) = true) (hf : belowF (M + 1) (keepL s.fr.l ks) = true) (hb : belowH (M + 1) (s.H.take M) = true) :
    Wk m s ⟨⟨s.fr.n, keepL s.fr.l ks⟩, s.H.take (M + 1)⟩ := by
  have hlt : M < s.H.length := (List.getElem?_eq_some_iff.1 hM).1
  refine wk_trunc (M + 1) ks hm (by rw [Nat.ble_eq]; omega) hf ?_
  rw [List.take_add_one, hM]
  exact belowH_snoc hb hl

theorem wk_keep {m : Nat} {s : St} (ks : List Nat) : Wk m s ⟨⟨s.fr.n, keepL s.fr.l ks⟩, s.H⟩ := fun _ _ I ι _ hs hm =>
  ⟨I, ι, hs.turn ⟨hs.fr.1, fun i u hu => hs.fr.2 i u (look_keep_some hu)⟩ hs.H (Ex.refl hm), Ex.refl hm⟩

/-- A round, where what the record holds is not looked at. -/
theorem ay_roundL {P : Program} {α β : Type} {M n : Nat} {q : RecK} {lf : List (Nat × AV)} {args : List AV} {J : ABlk → α → List ABlk} {Z : ABlk → β → List ABlk} {a : α} {Rnd : α → Prop} {Stp : Code → β → Prop}
    (hJ : ∀ L a, (J L a)[M]? = some L ∧ ∀ L', (J L a).set M L' = J L' a) (hZ : ∀ L z, (Z L z)[M]? = some L ∧ ∀ L', (Z L z).set M L' = Z L' z)
    (hlf : ∀ t u, look lf t = some u → t < n) (hps : ∀ p ∈ q.ps.toList, p < n) (hpa : q.ps.size = args.length) (hbf : belowF (M + 1) lf = true)
    (hround : ∀ B l, belowL (M + 1) l = true → AW P (some B) (M + 1) q.assign ⟨⟨n, setPs lf q.ps.toList args⟩, J (.lp q .ready none l) a⟩
      (thenA (fun s1 => s1.H[M]? = some (.lp q .ready none l) ∧ AW P (some B) (M + 1) q.body ⟨s1.fr, s1.H.set M (.lp q .busy none l)⟩ (roundA M J Z (.lp q .busy none l) Rnd Stp)) (fun _ _ => False))) :
    AYm P (M + 1) M args (J (.lp q .ready none (dense n lf)) a) (fun r H' => (r = .p (.raw (.bool true)) ∧ ∃ a', Rnd a' ∧ H' = J (.lp q .ready none (dense n lf)) a') ∨ (r = .p (.raw (.bool false)) ∧ ∃ c z, Stp c z ∧ H' = Z (.lp q .done (some c) (dense n lf)) z)) :=
  ay_round hJ hZ hlf hps hpa fun B => hround B _ (belowL_dense hbf)

theorem AYm.mono {P : Program} {m b : Nat} {args : List AV} {H : List ABlk} {R R' : AV → List ABlk → Prop} (h : AYm P m b args H R) (hR : ∀ r H', R r H' → R' r H') : AYm P m b args H R' :=
  fun w I ι vals B hn ha hs hb => let ⟨fn, tmps, assign, body, h1, h2⟩ := h w I ι vals B hn ha hs hb
    ⟨fn, tmps, assign, body, h1, h2.mono fun _ _ ⟨v, r, H', I', ι', e, hr, k⟩ => ⟨v, r, H', I', ι', e, hR _ _ hr, k⟩⟩
/-- The end of a row is forgotten. -/
theorem wk_rowTake {m : Nat} {s : St} (b k : Nat) {t : TypeId} {sz : Nat} {xs : List (List PV)} (hb : s.H[b]? = some (.row t sz xs)) : Wk m s ⟨s.fr, s.H.set b (.row t sz (xs.take k))⟩ := fun N w I ι a hs hm => by
  have hlive : live s.H b := ⟨_, hb, rfl⟩
  have hlv : ∀ c, live (s.H.set b (.row t sz (xs.take k))) c → live s.H c := fun c hc => live_set hc hlive
  have hsim : SimH w I ι (s.H.set b (.row t sz (xs.take k))) := by
    refine ⟨fun c k' hc => ?_, fun c c' B hc hc' => hs.H.inj c c' B (hlv c hc) (hlv c' hc'), hs.H.Ilt, fun c hc => hs.H.dom c (by simpa using hc), hs.H.rng⟩
    by_cases e : c = b
    · subst e
      rw [List.getElem?_set_self (live_lt hlive)] at hc
      obtain rfl := Option.some.inj hc
      rcases hs.H.blk c _ hb with ⟨g1, g2⟩ | ⟨B, cs, g1, g2, g3, g4, g5, g6⟩
      · subst g1
        exact .inl ⟨List.take_nil, g2⟩
      · have hle : (xs.take k).length ≤ xs.length := by rw [List.length_take]; omega
        refine .inr ⟨B, cs, g1, g2, g3, Nat.le_trans (Nat.mul_le_mul_right _ hle) g4, by omega, fun j e2 hj => g6 j e2 ?_⟩
        have hj2 : j < k := by have := (List.getElem?_eq_some_iff.1 hj).1; rw [List.length_take] at this; omega
        rw [List.getElem?_take_of_lt hj2] at hj
        exact hj
    · rw [List.getElem?_set_ne (by omega)] at hc
      exact hs.H.blk c k' hc
  have hx : Ex m w I ι s.H w I ι (s.H.set b (.row t sz (xs.take k))) := ⟨⟨rfl, rfl, rfl, Nat.le_refl _, Shape.refl w, fun _ h => h, fun _ _ _ => rfl, fun _ h => .inl h, fun c B hc h => .inr ⟨c, hlv c hc, h⟩⟩, fun _ _ => rfl, by simpa using hm⟩
  exact ⟨I, ι, hs.turn hs.fr hsim hx, hx⟩
/-- An array of one-cell elements is looked at as a row. -/
theorem wk_arr {m : Nat} {s : St} (b : Nat) {t : TypeId} {l : List AV} (ps : List PV) (hb : s.H[b]? = some (.cells t l)) (hl : l = ps.map .p) (hn : Nat.ble ps.length 140737488355328 = true) :
    Wk m s ⟨s.fr, s.H.set b (.row t 1 (ps.map fun p => [p]))⟩ := fun N w I ι a hs hm => by
  have hlive : live s.H b := ⟨_, hb, rfl⟩
  have hlv : ∀ c, live (s.H.set b (.row t 1 (ps.map fun p => [p]))) c → live s.H c := fun c hc => live_set hc hlive
  have hsim : SimH w I ι (s.H.set b (.row t 1 (ps.map fun p => [p]))) := by
    refine ⟨fun c k' hc => ?_, fun c c' B hc hc' => hs.H.inj c c' B (hlv c hc) (hlv c' hc'), hs.H.Ilt, fun c hc => hs.H.dom c (by simpa using hc), hs.H.rng⟩
    by_cases e : c = b
    · subst e
      rw [List.getElem?_set_self (live_lt hlive)] at hc
      obtain rfl := Option.some.inj hc
      obtain ⟨B, cs, g1, g2, g3, g4, g5⟩ := hs.H.blk c _ hb
      rw [hl, List.length_map] at g4
      refine .inr ⟨B, cs, g1, g2, g3, by rw [List.length_map]; omega, by rw [List.length_map]; exact Nat.le_of_ble_eq_true hn, fun j e2 hj => ?_⟩
      rw [List.getElem?_map] at hj
      cases hp : ps[j]? with
      | none => rw [hp] at hj; cases hj
      | some p =>
        rw [hp] at hj
        obtain rfl := Option.some.inj hj
        refine ⟨rfl, fun i u hu => ?_⟩
        cases i with
        | succ i => simp at hu
        | zero =>
          obtain rfl : p = u := by simpa using hu
          have := g5 j (.p p) (by rw [hl, List.getElem?_map, hp]; rfl)
          rw [Nat.mul_one, Nat.add_zero]
          cases this with
          | p h => exact h
    · rw [List.getElem?_set_ne (by omega)] at hc
      exact hs.H.blk c k' hc
  have hx : Ex m w I ι s.H w I ι (s.H.set b (.row t 1 (ps.map fun p => [p]))) := ⟨⟨rfl, rfl, rfl, Nat.le_refl _, Shape.refl w, fun _ h => h, fun _ _ _ => rfl, fun _ h => .inl h, fun c B hc h => .inr ⟨c, hlv c hc, h⟩⟩, fun _ _ => rfl, by simpa using hm⟩
  exact ⟨I, ι, hs.turn hs.fr hsim hx, hx⟩
theorem wk_elr {m : Nat} {s : St} (i b sz : Nat) (h : look s.fr.l i = some (.ref b 0)) : Wk m s ⟨⟨s.fr.n, (i, .elr b sz 0 0) :: s.fr.l⟩, s.H⟩ := fun N w I ι a hs hm => by
  refine ⟨I, ι, hs.turn ⟨hs.fr.1, fun j u hu => ?_⟩ hs.H (Ex.refl hm), Ex.refl hm⟩
  by_cases e : i = j
  · subst e
    rw [look_self] at hu; obtain rfl := Option.some.inj hu
    have := hs.fr.2 i _ h
    generalize a.tmps.getD i undef = v at this ⊢
    cases this with
    | ref _ _ B hB => 
      have k := ARep.elr (w := w) (I := I) b sz 0 0 B hB
      simpa using k
  · rw [look_other _ _ e] at hu; exact hs.fr.2 j u hu
end Go.Proofs.YtinfbclgkghgaaaGreat.AL

/- The layer 06 (disk): what was written last is looked for backwards; a read. -/
namespace Go.Proofs.YtinfbclgkghgaaaGreat.AL
open Go Go.Proofs

/-- The last of those that are meant. -/
def lastW (hit : Wr → Bool) : List Wr → Option Wr
  | [] => none
  | x :: r => match lastW hit r with
    | some y => some y
    | none => match hit x with | true => some x | false => none
theorem lastW_snoc (hit : Wr → Bool) (x : Wr) : ∀ l, lastW hit (l ++ [x]) = match hit x with | true => some x | false => lastW hit l
  | [] => by cases h : hit x <;> simp [lastW, h]
  | y :: r => by
    simp only [List.cons_append, lastW, lastW_snoc hit x r]
    cases hit x <;> rfl
theorem lastW_take (hit : Wr → Bool) {l : List Wr} {i : Nat} {x : Wr} (h : l[i]? = some x) : lastW hit (l.take (i + 1)) = match hit x with | true => some x | false => lastW hit (l.take i) := by
  rw [List.take_add_one, h]; exact lastW_snoc hit x _

theorem backward (l : List Wr) : AFm Tryz.prog 1 f_slices_Backward_disk_write [.msl 0 2 0 l.length] [.row t_disk_write 2 (wx l)] (Pure (.clo (.func f_slices_Backward_disk_write_1) [.ref 1 0]) [.row t_disk_write 2 (wx l), .cells t_s_disk_write [.msl 0 2 0 l.length]]) := by
  refine af_bodyM 1 hT F_slices_Backward_disk_write rfl rfl N_slices_Backward_disk_write rfl rfl ?_
  refine aw_seq (aw_region hT ?_)
  refine aw_seq (aw_region hT ?_)
  refine aw_ret ?_
  exact retPick [0, 1] ⟨rfl, rfl⟩ rfl

abbrev readJ (D : Dev) (a : Int) (L : ABlk) : List ABlk := [devC D 1 2, .row t_disk_cell 4 (cx D.cells), .row t_disk_write 2 (wx D.waits), .cells t_i64 [i64 a], .cells t_s_u8 [.p (.raw (.slice none 0 0))], .cells t_api_Errno [i64 0], .cells t_s_disk_write [.msl 2 2 0 D.waits.length], L]

abbrev readZ (D : Dev) (a : Int) (s : Bytes) (L : ABlk) : List ABlk := [devC D 1 2, .row t_disk_cell 4 (cx D.cells), .row t_disk_write 2 (wx D.waits), .cells t_i64 [i64 a], .cells t_s_u8 [bA s], .cells t_api_Errno [i64 0], .cells t_s_disk_write [.msl 2 2 0 D.waits.length], L]

theorem back_seq (D : Dev) (a : Int) (q : RecK) (l : List AV) (hn : D.waits.length ≤ 1000000) (hit : Wr → Bool) (S : Code → Bytes → Prop)
    (hy : ∀ (i : Nat) (x : Wr), D.waits[i]? = some x → AYm Tryz.prog 8 7 [i64 i, .agg [i64 x.at_, bA x.s]] (readJ D a (.lp q .ready none l)) (fun r H' => (r = bl true ∧ hit x = false ∧ H' = readJ D a (.lp q .ready none l)) ∨ (r = bl false ∧ hit x = true ∧ ∃ c, S c x.s ∧ H' = readZ D a x.s (.lp q .done (some c) l)))) :
    AFm Tryz.prog 8 f_slices_Backward_disk_write_1 [.yld 7, .ref 6 0] (readJ D a (.lp q .ready none l)) (fun _ H' => (lastW hit D.waits = none ∧ H' = readJ D a (.lp q .ready none l)) ∨ (∃ x c, lastW hit D.waits = some x ∧ S c x.s ∧ H' = readZ D a x.s (.lp q .done (some c) l))) := by
  refine af_bodyM 8 hT F_slices_Backward_disk_write_1 rfl rfl N_slices_Backward_disk_write_1 rfl rfl ?_
  refine aw_seq (aw_region hT ?_)
  refine aw_block ?_
  refine aw_loopW (fun n s => ∃ j : Int, j = (n : Int) - 1 ∧ n ≤ D.waits.length ∧ lastW hit D.waits = lastW hit (D.waits.take n) ∧ s = ⟨⟨19, [(0, .yld 7), (1, .ref 6 0), (3, i64 j)]⟩, readJ D a (.lp q .ready none l)⟩) D.waits.length ⟨⟨19, _⟩, _⟩ (wk_keep [0, 1, 3]) ⟨_, ?_, Nat.le_refl _, by rw [List.take_length], rfl⟩ ?_
  · exact wrap64 _ (by omega) (by omega)
  rintro n s ⟨j, hj, hle, hl, rfl⟩
  refine aw_seq (aw_seq (aw_region hT ?_))
  refine aw_cond (boolI (fun h => ?_) (fun h => ?_))
  · have h := of_decide_eq_true h
    cases n with
    | zero => omega
    | succ n =>
    have hj : j = (n : Int) := by omega
    subst hj
    have hx := List.getElem?_eq_getElem (show n < D.waits.length by omega)
    generalize D.waits[n] = x at hx
    refine aw_skip ?_
    refine aw_seq (aw_block (aw_seq (aw_region hT ?_)))
    refine ⟨⟨Int.natCast_nonneg _, by omega⟩, ?_⟩
    refine optI (show (wx D.waits)[0 + ((n : Nat) : Int).toNat]? = some x.pv by rw [Nat.zero_add, Int.toNat_natCast]; exact wx_get hx) ?_
    refine ⟨_, hy n x hx, ?_⟩
    rintro r H' (⟨rfl, hh, rfl⟩ | ⟨rfl, hh, c, hT, rfl⟩)
    · refine aw_cond ?_
      refine aw_skip ?_
      refine aw_region hT ?_
      refine ⟨n, by omega, _, wk_keep [0, 1, 3], _, ?_, by omega, ?_, rfl⟩
      · exact wrap64 _ (by omega) (by omega)
      · rw [hl, lastW_take hit hx, hh]
    · refine aw_cond ?_
      refine aw_ret ?_
      refine ⟨_, _, Wk.refl _ _, .inr ⟨x, c, ?_, hT, rfl⟩⟩
      rw [hl, lastW_take hit hx, hh]
  · have h := of_decide_eq_false h
    refine aw_exit ?_
    have hn0 : n = 0 := by omega
    subst hn0
    exact ⟨_, _, Wk.refl _ _, .inl ⟨hl, rfl⟩⟩
end Go.Proofs.YtinfbclgkghgaaaGreat.AL

/- The layer 06 (disk): a read. -/
namespace Go.Proofs.YtinfbclgkghgaaaGreat.AL
open Go Go.Proofs

abbrev hitA (a : Int) : Wr → Bool := fun x => x.at_ == a
def Dev.readAt (D : Dev) (a : Int) : Int × Bytes := match lastW (hitA a) D.waits with
  | some x => (0, x.s)
  | none => match D.cells[a.toNat]? with
    | some c => match c.lost with | true => (20, []) | false => (0, c.s)
    | none => (20, [])
def Dev.read (D : Dev) (a : Int) : (Bytes × Int) × Dev := match D.dead with
  | true => (([], 21), D)
  | false => match D.has a with
    | false => (([], 3), D)
    | true => (((D.readAt a).2, (D.readAt a).1), D.count)

set_option maxRecDepth 20000 in
theorem disk_Read (D : Dev) (a : Int) (hn : D.waits.length ≤ 1000000) (hs : ∀ x ∈ D.waits, x.s.length ≤ 1000000) (hc : ∀ c ∈ D.cells, c.s.length ≤ 1000000) :
    AFm Tryz.prog 3 f_disk_Disk_Read [.ref 0 0, i64 a] (devH D) (Pure (.tup [bA (D.read a).1.1, i64 (D.read a).1.2]) (devH (D.read a).2)) := by
  refine af_bodyM 3 hT F_disk_Disk_Read rfl rfl N_disk_Disk_Read rfl rfl ?_
  refine aw_seq (aw_region hT ?_)
  refine aw_cut ⟨⟨54, [(0, .ref 0 0), (3, .ref 3 0), (4, .ref 4 0), (5, .ref 5 0)]⟩, [devC D 1 2, .row t_disk_cell 4 (cx D.cells), .row t_disk_write 2 (wx D.waits), .cells t_i64 [i64 a], .cells t_s_u8 [.p (.raw (.slice none 0 0))], .cells t_api_Errno [i64 0]]⟩ (D.dead = false ∧ D.has a = true) (aw_block (aw_seq (aw_region hT ?_))) ?_
  · refine callP (af_in [0, 1, 2] (disk_Dead D) rfl rfl rfl) ?_
    refine aw_cond (boolI (fun h => ?_) (fun h => ?_))
    · have e : D.read a = (([], 21), D) := by unfold Dev.read; rw [h]
      refine aw_seq (aw_region hT ?_)
      refine aw_wk (wk_cells 4 [.p (.sl 1 [])] rfl ⟨.inr (.inr (.inr ⟨1, rfl, rfl⟩)), trivial⟩) ?_
      refine aw_ret ?_
      rw [e]
      exact retPick [0, 1, 2] ⟨rfl, rfl⟩ rfl
    refine aw_seq (aw_region hT ?_)
    refine callP (af_in [0, 1, 2] (disk_has D a) rfl rfl rfl) ?_
    refine aw_cond (boolI (fun h1 => ?_) (fun h1 => ?_))
    · have e : D.read a = (([], 3), D) := by unfold Dev.read; rw [h, (Bool.not_eq_true' _).mp h1]
      refine aw_seq (aw_region hT ?_)
      refine aw_wk (wk_cells 4 [.p (.sl 1 [])] rfl ⟨.inr (.inr (.inr ⟨1, rfl, rfl⟩)), trivial⟩) ?_
      refine aw_ret ?_
      rw [e]
      exact retPick [0, 1, 2] ⟨rfl, rfl⟩ rfl
    exact aw_skip ⟨wk_pick [0, 1, 2, 3, 4, 5] [0, 3, 4, 5] rfl, h, (Bool.not_eq_false' _).mp h1⟩
  · rintro ⟨h, h1⟩
    have e : D.read a = (((D.readAt a).2, (D.readAt a).1), D.count) := by unfold Dev.read; rw [h, h1]
    rw [e]
    clear e
    have hlt : a.toNat < D.cells.length ∧ 0 ≤ a ∧ a < (D.cells.length : Int) := by
      have h1 : (decide (a ≥ 0) && decide (a < (D.cells.length : Int))) = true := h1
      rw [Bool.and_eq_true, decide_eq_true_eq, decide_eq_true_eq] at h1
      omega
    have hcg := List.getElem?_eq_getElem hlt.1
    have hcs := hc _ (List.getElem_mem hlt.1)
    generalize D.cells[a.toNat] = c at hcg hcs
    have g1 : (cx D.cells)[0 + a.toNat]? = some c.pv := by rw [Nat.zero_add]; exact cx_get hcg
    refine aw_seq (aw_region hT ?_)
    refine aw_seq (aw_seq (aw_region hT ?_))
    refine callP (af_in [2] (backward D.waits) rfl rfl rfl) ?_
    refine aw_block ?_
    refine aw_rangeFunc 7 54 [0, 1, 2, 3, 4, 5, 6, 7] [0, 3, 4, 5, 27] (fun L (_ : Unit) => readJ D.count a L) (fun L s => readZ D.count a s L) () (fun _ => lastW (hitA a) D.waits = none) (fun c z => c = .ret ∧ ∃ x, lastW (hitA a) D.waits = some x ∧ z = x.s) rfl rfl (fun L _ => ⟨rfl, fun _ => rfl⟩) (fun L _ => ⟨rfl, fun _ => rfl⟩) rfl ?_ ?_ ?_
    · refine AFm.mono (back_seq D.count a _ _ hn (hitA a) (fun c z => c = .ret) ?_) ?_
      · intro i x hx
        refine AYm.mono (ay_roundL (J := fun L (_ : Unit) => readJ D.count a L) (Z := fun L s => readZ D.count a s L) (a := ()) (Rnd := fun _ => hitA a x = false) (Stp := fun c z => c = .ret ∧ hitA a x = true ∧ z = x.s) (fun L _ => ⟨rfl, fun _ => rfl⟩) (fun L _ => ⟨rfl, fun _ => rfl⟩) ?_ ?_ rfl rfl ?_) ?_
        · exact fun t u ht => pickF_lt (ks := [0, 3, 4, 5, 27]) rfl ht
        · show ∀ p ∈ [28, 29], p < 54
          decide
        · intro B l hbl
          have hsx := hs x (List.mem_of_getElem? (show D.waits[i]? = some x from hx))
          refine aw_region hT ?_
          refine ⟨rfl, ?_⟩
          refine aw_block (aw_seq (aw_region hT ?_))
          refine aw_cond (boolI (fun h2 => ?_) (fun h2 => ?_))
          · refine aw_seq (aw_region hT ?_)
            refine callP (af_at (clone_u8 x.s hsx) _ rfl rfl) ?_
            refine aw_ret ?_
            exact ⟨x.s, _, ⟨rfl, h2, rfl⟩, wk_truncL 7 [] rfl hbl rfl rfl rfl⟩
          · refine aw_skip ?_
            exact ⟨(), _, h2, wk_truncL 7 [] rfl hbl rfl rfl rfl⟩
        · rintro r H' (⟨hr, _, hh, hH⟩ | ⟨hr, c, z, ⟨h3, h4, h5⟩, hH⟩)
          · exact .inl ⟨hr, hh, hH⟩
          · subst h5; exact .inr ⟨hr, h4, c, h3, hH⟩
      · rintro r H' (⟨hx, rfl⟩ | ⟨x, c, hx, rfl, rfl⟩)
        · exact .inl ⟨(), hx, rfl⟩
        · exact .inr ⟨_, _, ⟨rfl, x, hx, rfl⟩, rfl⟩
    · intro _ hl
      refine aw_seq (aw_seq ?_)
      refine aw_draw [] [] hT follows_mixed (by rfl) ?_
      refine ⟨⟨hlt.2.1, hlt.2.2⟩, ?_⟩
      refine optI g1 ?_
      have e : D.readAt a = match c.lost with | true => (20, []) | false => (0, c.s) := by unfold Dev.readAt; rw [hl, hcg]
      refine aw_cond (boolI (fun h2 => ?_) (fun h2 => ?_))
      · have h2 : c.lost = true := h2
        rw [h2] at e
        refine aw_seq (aw_region hT ?_)
        refine aw_wk (wk_cells 4 [.p (.sl 1 [])] rfl ⟨.inr (.inr (.inr ⟨1, rfl, rfl⟩)), trivial⟩) ?_
        refine aw_ret ?_
        rw [e]
        exact retPick [0, 1, 2] ⟨rfl, rfl⟩ rfl
      · have h2 : c.lost = false := h2
        rw [h2] at e
        refine aw_skip ?_
        refine aw_seq ?_
        refine aw_draw [9, 10] [] hT follows_mixed (by rfl) ?_
        refine ⟨⟨hlt.2.1, hlt.2.2⟩, ?_⟩
        refine optI g1 ?_
        refine ⟨_, af_at (clone_u8 c.s hcs) _ rfl rfl, ?_⟩
        refine aw_ret ?_
        rw [e]
        exact retPick [0, 1, 2] ⟨rfl, rfl⟩ rfl
    · rintro _ z ⟨rfl, x, hx, rfl⟩
      refine aw_ret ?_
      have e : D.readAt a = (0, x.s) := by unfold Dev.readAt; rw [hx]
      rw [e]
      exact retPick [0, 1, 2] ⟨rfl, rfl⟩ rfl
end Go.Proofs.YtinfbclgkghgaaaGreat.AL

/- The layer 06 (disk): what waits of a sector is settled. -/
namespace Go.Proofs.YtinfbclgkghgaaaGreat.AL
open Go Go.Proofs

abbrev devS (D : Dev) : List ABlk := [devC D 1 2, .row t_disk_cell 4 (cx D.cells), .row t_disk_write 2 (wx D.waits), .cells t_p_disk_Disk [.ref 0 0]]
abbrev cloS (a : Int) : AV := .clo (.func f_disk_Disk_settle_1) [.p (.box [.raw (.int .i64 a)]), .ref 3 0]
def Dev.hits (D : Dev) (a : Int) (x : Wr) : Dev := match hitA a x with | true => D.done x | false => D

theorem settle_1 (D : Dev) (a : Int) (x : Wr) (h0 : 0 ≤ x.at_) (h1 : x.at_.toNat < D.cells.length) :
    AFm Tryz.prog 4 f_disk_Disk_settle_1 [.agg [i64 x.at_, bA x.s], .p (.box [.raw (.int .i64 a)]), .ref 3 0] (devS D) (Pure (bl (hitA a x)) (devS (D.hits a x))) := by
  refine af_bodyM 4 hT F_disk_Disk_settle_1 rfl rfl N_disk_Disk_settle_1 rfl rfl ?_
  refine aw_seq (aw_region hT ?_)
  refine aw_wk (wk_boxL 4 [.raw (.int .i64 x.at_), bP x.s] rfl rfl) ?_
  refine aw_cut ⟨⟨16, [(1, .p (.box [.raw (.int .i64 a)])), (3, .p (.box [.raw (.int .i64 x.at_), bP x.s]))]⟩, devS (D.hits a x)⟩ True (aw_seq (aw_region hT ?_)) (fun _ => ?_)
  · refine aw_cond (boolI (fun h => ?_) (fun h => ?_))
    · have h : hitA a x = true := h
      refine aw_region hT ?_
      refine callP (af_in [0, 1, 2] (disk_done D x h0 h1) rfl rfl rfl) ?_
      refine ⟨?_, trivial⟩
      have e : D.hits a x = D.done x := by unfold Dev.hits; rw [h]
      rw [e]
      exact wk_pick [0, 1, 2, 3] [1, 3] rfl
    · have h : hitA a x = false := h
      refine aw_skip ⟨?_, trivial⟩
      have e : D.hits a x = D := by unfold Dev.hits; rw [h]
      rw [e]
      exact wk_pick [0, 1, 2, 3] [1, 3] rfl
  · refine aw_seq (aw_region hT ?_)
    refine aw_ret ?_
    exact retPick [0, 1, 2, 3] ⟨rfl, rfl⟩ rfl

theorem index_fn (D : Dev) (a : Int) (hw : D.waitsIn) (hn : D.waits.length ≤ 1000000) :
    AFm Tryz.prog 4 f_slices_IndexFunc_disk_write [.msl 2 2 0 D.waits.length, cloS a] (devS D) (fun r H' => (r = i64 (-1) ∧ (∀ x ∈ D.waits, hitA a x = false) ∧ H' = devS D) ∨
      (∃ (i : Nat) (x : Wr), D.waits[i]? = some x ∧ hitA a x = true ∧ (∀ y ∈ D.waits.take i, hitA a y = false) ∧ r = i64 i ∧ H' = devS (D.done x))) := by
  refine af_bodyM 4 hT F_slices_IndexFunc_disk_write rfl rfl N_slices_IndexFunc_disk_write rfl rfl ?_
  refine aw_seq (aw_region hT ?_)
  refine aw_seq (aw_seq (aw_region hT ?_))
  refine aw_block ?_
  refine aw_loopW (fun n s => ∃ (i : Nat) (j : Int), n + i = D.waits.length ∧ j = i ∧ (∀ y ∈ D.waits.take i, hitA a y = false) ∧ s = ⟨⟨19, [(0, .msl 2 2 0 D.waits.length), (1, cloS a), (7, i64 D.waits.length), (8, i64 j)]⟩, devS D⟩) D.waits.length ⟨⟨19, _⟩, [_, _, _, _]⟩ (wk_pick [0, 1, 2, 3] [0, 1, 7, 8] rfl) ⟨0, _, by omega, rfl, fun y hy => by simp at hy, rfl⟩ ?_
  rintro n s ⟨i, j, hni, rfl, hl, rfl⟩
  refine aw_seq (aw_region hT ?_)
  refine aw_seq (aw_cond (boolI (fun h => ?_) (fun h => ?_)))
  · have hi : i < D.waits.length := by
      have := of_decide_eq_true (show decide ((i : Int) < (D.waits.length : Int)) = true from h)
      omega
    have hx := List.getElem?_eq_getElem hi
    have hin := hw _ (List.getElem_mem hi)
    generalize D.waits[i] = x at hx hin
    refine aw_skip ?_
    refine aw_seq (aw_block (aw_seq (aw_region hT ?_)))
    refine aw_seq (aw_region hT ?_)
    refine ⟨⟨Int.natCast_nonneg _, of_decide_eq_true h⟩, ?_⟩
    refine optI (show (wx D.waits)[0 + ((i : Nat) : Int).toNat]? = some x.pv by rw [Nat.zero_add, Int.toNat_natCast]; exact wx_get hx) ?_
    refine callP (settle_1 D a x hin.1 (by omega)) ?_
    refine aw_cond (boolI (fun h2 => ?_) (fun h2 => ?_))
    · have e : D.hits a x = D.done x := by unfold Dev.hits; rw [h2]
      refine aw_seq (aw_region hT ?_)
      refine aw_ret ?_
      refine ⟨_, _, wk_pick [0, 1, 2, 3] [0] rfl, .inr ⟨i, x, hx, h2, hl, rfl, ?_⟩⟩
      rw [← e]; rfl
    · have e : D.hits a x = D := by unfold Dev.hits; rw [h2]
      refine aw_skip ?_
      refine aw_region hT ?_
      refine ⟨n - 1, by omega, _, wk_pick [0, 1, 2, 3] [0, 1, 7, 8] rfl, i + 1, IntKind.i64.wrap ((i : Int) + 1), by omega, ?_, ?_, ?_⟩
      · rw [wrap64 _ (by omega) (by omega)]; rfl
      · intro y hy
        rw [List.take_add_one, hx, List.mem_append] at hy
        rcases hy with hy | hy
        · exact hl y hy
        · have : y = x := by simpa using hy
          rw [this]; exact h2
      · refine congrArg (St.mk _) ?_
        show devS (D.hits a x) = devS D
        rw [e]
  · refine aw_exit ?_
    have hi : i = D.waits.length := by
      have : ¬ ((i : Int) < (D.waits.length : Int)) := of_decide_eq_false h
      omega
    refine aw_seq (aw_region hT ?_)
    refine aw_ret ?_
    refine ⟨_, _, wk_pick [0, 1, 2, 3] [0] rfl, .inl ⟨rfl, ?_, rfl⟩⟩
    rw [hi, List.take_length] at hl
    exact hl
end Go.Proofs.YtinfbclgkghgaaaGreat.AL

/- The layer 06 (disk): what waits of a sector is settled (2). -/
namespace Go.Proofs.YtinfbclgkghgaaaGreat.AL
open Go Go.Proofs

def settleC (a : Int) (W : List Wr) (C : List Cell) : List Cell := W.foldl (fun C x => match hitA a x with | true => doneL C x | false => C) C
def settleW (a : Int) (W : List Wr) : List Wr := W.filter fun x => !hitA a x
def Dev.settle (D : Dev) (a : Int) : Dev := { D with cells := settleC a D.waits D.cells, waits := settleW a D.waits }

theorem settleC_snoc (a : Int) (W : List Wr) (x : Wr) (C : List Cell) : settleC a (W ++ [x]) C = match hitA a x with | true => doneL (settleC a W C) x | false => settleC a W C := by
  unfold settleC; rw [List.foldl_append]; rfl
theorem settleC_len (a : Int) (W : List Wr) : ∀ C, (settleC a W C).length = C.length := by
  induction W with
  | nil => intro C; rfl
  | cons x r ih =>
    intro C
    show (settleC a r (match hitA a x with | true => doneL C x | false => C)).length = _
    rw [ih]; split
    · exact doneL_len _ _
    · rfl
theorem settleC_no {a : Int} {W : List Wr} (h : ∀ x ∈ W, hitA a x = false) (C : List Cell) : settleC a W C = C := by
  induction W generalizing C with
  | nil => rfl
  | cons x r ih =>
    show settleC a r (match hitA a x with | true => doneL C x | false => C) = _
    rw [h x (by simp)]; exact ih (fun y hy => h y (by simp [hy])) C
theorem settleW_no {a : Int} {W : List Wr} (h : ∀ x ∈ W, hitA a x = false) : settleW a W = W := by
  unfold settleW; rw [List.filter_eq_self]; intro x hx; rw [h x hx]; rfl
theorem settleW_snoc (a : Int) (W : List Wr) (x : Wr) : settleW a (W ++ [x]) = match hitA a x with | true => settleW a W | false => settleW a W ++ [x] := by
  unfold settleW; rw [List.filter_append]
  cases h : hitA a x <;> simp [h]
theorem settleW_le (a : Int) (W : List Wr) : (settleW a W).length ≤ W.length := List.length_filter_le _ _

abbrev delH (D : Dev) (a : Int) : List ABlk := [devC D 1 2, .row t_disk_cell 4 (cx (settleC a D.waits D.cells)), .row t_disk_write 2 (wx (settleW a D.waits)), .cells t_p_disk_Disk [.ref 0 0]]

theorem wx_set (l : List Wr) (i : Nat) (c : Wr) : wx (l.set i c) = (wx l).set i c.pv := by simp [wx, List.map_set]

structure DelOk (D : Dev) (a : Int) (k j : Nat) (C : List Cell) (W : List Wr) : Prop where
  len : W.length = D.waits.length
  kj : k < j
  jn : j ≤ D.waits.length
  C : C = settleC a (D.waits.take j) D.cells
  W1 : W.take k = settleW a (D.waits.take j)
  W2 : W.drop j = D.waits.drop j

theorem DelOk.hit {D : Dev} {a : Int} {k j : Nat} {C : List Cell} {W : List Wr} (h : DelOk D a k j C W) {x : Wr} (hx : D.waits[j]? = some x) (hh : hitA a x = true) : DelOk D a k (j + 1) (doneL C x) W := by
  have hjl : j < D.waits.length := (List.getElem?_eq_some_iff.1 hx).1
  refine ⟨h.len, by have := h.kj; omega, hjl, ?_, ?_, ?_⟩
  · rw [List.take_add_one, hx]; show _ = settleC a (_ ++ [x]) _; rw [settleC_snoc, hh, ← h.C]
  · rw [List.take_add_one, hx]; show _ = settleW a (_ ++ [x]); rw [settleW_snoc, hh, ← h.W1]
  · rw [← List.drop_drop, ← List.drop_drop, h.W2]
theorem DelOk.miss {D : Dev} {a : Int} {k j : Nat} {C : List Cell} {W : List Wr} (h : DelOk D a k j C W) {x : Wr} (hx : D.waits[j]? = some x) (hh : hitA a x = false) : DelOk D a (k + 1) (j + 1) C (W.set k x) := by
  have hjl : j < D.waits.length := (List.getElem?_eq_some_iff.1 hx).1
  have hkj := h.kj
  refine ⟨by rw [List.length_set]; exact h.len, by omega, hjl, ?_, ?_, ?_⟩
  · rw [List.take_add_one, hx]; show _ = settleC a (_ ++ [x]) _; rw [settleC_snoc, hh, ← h.C]
  · rw [List.take_add_one (l := D.waits), hx]; show _ = settleW a (_ ++ [x]); rw [settleW_snoc, hh, ← h.W1]
    rw [List.take_add_one, List.getElem?_set_self (by rw [h.len]; omega), List.take_set_of_le (Nat.le_refl _)]; rfl
  · rw [List.drop_set_of_lt (by omega), ← List.drop_drop, ← List.drop_drop, h.W2]

theorem cong2 {α β γ : Sort _} (f : α → β → γ) {a a' : α} {b b' : β} (h : a = a') (k : b = b') : f a b = f a' b' := by rw [h, k]
theorem take_setL {α : Type} (l : List α) (k : Nat) (vs : List α) (h : k ≤ l.length) : (setL l k vs).take k = l.take k := by
  unfold setL
  rw [List.append_assoc, List.take_append_of_le_length (by rw [List.length_take]; omega), List.take_take, Nat.min_self]

theorem settle_2 (D : Dev) (a : Int) (C : List Cell) (W : List Wr) (hC : C.length = D.cells.length) (hW : W.length = D.waits.length) (x : Wr) (h0 : 0 ≤ x.at_) (h1 : x.at_.toNat < D.cells.length) (b : Bool) (C' : List Cell)
    (hb : hitA a x = b) (hC' : C' = match b with | true => doneL C x | false => C) :
    AFm Tryz.prog 4 f_disk_Disk_settle_1 [.agg [i64 x.at_, bA x.s], .p (.box [.raw (.int .i64 a)]), .ref 3 0] [devC D 1 2, .row t_disk_cell 4 (cx C), .row t_disk_write 2 (wx W), .cells t_p_disk_Disk [.ref 0 0]]
      (Pure (bl b) [devC D 1 2, .row t_disk_cell 4 (cx C'), .row t_disk_write 2 (wx W), .cells t_p_disk_Disk [.ref 0 0]]) := by
  have h := settle_1 { D with cells := C, waits := W } a x h0 (by show x.at_.toNat < C.length; omega)
  have e1 : devS { D with cells := C, waits := W } = [devC D 1 2, .row t_disk_cell 4 (cx C), .row t_disk_write 2 (wx W), .cells t_p_disk_Disk [.ref 0 0]] := by
    unfold devS devC; rw [hC, hW]
  have e2 : devS (({ D with cells := C, waits := W } : Dev).hits a x) = [devC D 1 2, .row t_disk_cell 4 (cx C'), .row t_disk_write 2 (wx W), .cells t_p_disk_Disk [.ref 0 0]] := by
    unfold Dev.hits
    rw [hb]
    cases b with
    | true =>
      have hC'' : C'.length = D.cells.length := by rw [hC']; exact (doneL_len C x).trans hC
      rw [hC'] at hC'' ⊢
      unfold devS devC Dev.done
      rw [show (doneL C x).length = D.cells.length from hC'', hW]
    | false => rw [hC']; exact e1
  rw [e1, e2, hb] at h
  exact h

theorem delete_fn (D : Dev) (a : Int) (hw : D.waitsIn) (hn : D.waits.length ≤ 1000000) :
    AFm Tryz.prog 4 f_slices_DeleteFunc_disk_write [.msl 2 2 0 D.waits.length, cloS a] (devS D) (Pure (.msl 2 2 0 (settleW a D.waits).length) (delH D a)) := by
  refine af_bodyM 4 hT F_slices_DeleteFunc_disk_write rfl rfl N_slices_DeleteFunc_disk_write rfl rfl ?_
  refine aw_seq (aw_region hT ?_)
  refine aw_seq (aw_region hT ?_)
  refine callI (index_fn D a hw hn) ?_
  rintro r H' (⟨rfl, hno, rfl⟩ | ⟨i, x, hx, hh, hno, rfl, rfl⟩)
  · refine aw_seq (aw_seq (aw_region hT ?_))
    refine aw_cond ?_
    refine aw_seq (aw_region hT ?_)
    refine aw_ret ?_
    refine retPick [0, 1, 2, 3] ⟨?_, ?_⟩ rfl
    · rw [settleW_no hno]; rfl
    · show devS D = delH D a
      unfold devS delH
      rw [settleW_no hno, settleC_no hno]
  · have hi : i < D.waits.length := (List.getElem?_eq_some_iff.1 hx).1
    refine aw_seq (aw_seq (aw_region hT ?_))
    refine aw_cond ?_
    refine aw_skip ?_
    refine aw_seq (aw_seq (aw_region hT ?_))
    refine aw_block ?_
    refine aw_loopW (fun n s => ∃ (k j : Nat) (k' j' : Int) (C : List Cell) (W : List Wr), n + j = D.waits.length ∧ k' = k ∧ j' = j ∧ DelOk D a k j C W ∧ s = ⟨⟨42, [(0, .msl 2 2 0 D.waits.length), (1, cloS a), (5, i64 k'), (6, i64 j')]⟩, [devC D 1 2, .row t_disk_cell 4 (cx C), .row t_disk_write 2 (wx W), .cells t_p_disk_Disk [.ref 0 0]]⟩) (D.waits.length - (i + 1)) ⟨⟨42, _⟩, [_, _, _, _]⟩ (wk_pick [0, 1, 2, 3] [0, 1, 5, 6] rfl) ⟨i, i + 1, i, IntKind.i64.wrap ((i : Int) + 1), doneL D.cells x, D.waits, by omega, rfl, ?_, ?_, ?_⟩ ?_
    · rw [wrap64 _ (by omega) (by omega)]; rfl
    · refine ⟨rfl, by omega, hi, ?_, ?_, rfl⟩
      · rw [List.take_add_one, hx]; show _ = settleC a (_ ++ [x]) _; rw [settleC_snoc, hh, settleC_no hno]
      · rw [List.take_add_one, hx]; show _ = settleW a (_ ++ [x]); rw [settleW_snoc, hh, settleW_no hno]
    · refine congrArg (St.mk _) ?_
      show devS (D.done x) = _
      unfold devS devC
      rw [show (D.done x).cells.length = D.cells.length from doneL_len _ _]
      rfl
    rintro n s ⟨k, j, k', j', C, W, hnj, rfl, rfl, hd, rfl⟩
    refine aw_seq (aw_seq (aw_region hT ?_))
    refine aw_cond (boolI (fun h => ?_) (fun h => ?_))
    · have hj : j < D.waits.length := by
        have := of_decide_eq_true (show decide ((j : Int) < (D.waits.length : Int)) = true from h)
        omega
      have hx2 := List.getElem?_eq_getElem hj
      have hin := hw _ (List.getElem_mem hj)
      generalize D.waits[j] = y at hx2 hin
      have hkj := hd.kj
      have hy : W[j]? = some y := by
        have := congrArg (fun l => l[0]?) hd.W2
        simpa [hx2] using this
      have hCl : C.length = D.cells.length := by rw [hd.C, settleC_len]
      refine aw_skip ?_
      refine aw_seq (aw_block (aw_seq (aw_region hT ?_)))
      refine ⟨⟨Int.natCast_nonneg _, of_decide_eq_true h⟩, ?_⟩
      refine optI (show (wx W)[0 + ((j : Nat) : Int).toNat]? = some y.pv by rw [Nat.zero_add, Int.toNat_natCast]; exact wx_get hy) ?_
      refine aw_wk (wk_boxL 4 [.raw (.int .i64 y.at_), bP y.s] rfl rfl) ?_
      refine aw_seq (aw_region hT ?_)
      cases hh : hitA a y with
      | true =>
        refine callP (af_in [0, 1, 2, 3] (settle_2 D a C W hCl hd.len y hin.1 (by omega) true (doneL C y) hh rfl) rfl rfl rfl) ?_
        refine aw_cond ?_
        refine aw_skip ?_
        refine aw_region hT ?_
        refine ⟨n - 1, by omega, _, wk_pick [0, 1, 2, 3] [0, 1, 5, 6] rfl, k, j + 1, k, IntKind.i64.wrap ((j : Int) + 1), doneL C y, W, by omega, rfl, ?_, hd.hit hx2 hh, rfl⟩
        rw [wrap64 _ (by omega) (by omega)]; rfl
      | false =>
        refine callP (af_in [0, 1, 2, 3] (settle_2 D a C W hCl hd.len y hin.1 (by omega) false C hh rfl) rfl rfl rfl) ?_
        refine aw_cond ?_
        refine aw_seq (aw_region hT ?_)
        refine ⟨⟨Int.natCast_nonneg _, by omega⟩, ?_⟩
        refine optI (show (wx W)[0 + ((k : Nat) : Int).toNat]? = some (W[k]'(by rw [hd.len]; omega)).pv by rw [Nat.zero_add, Int.toNat_natCast]; exact wx_get (List.getElem?_eq_getElem _)) ?_
        refine chkI rfl (optI rfl ?_)
        refine aw_region hT ?_
        refine aw_region hT ?_
        refine ⟨n - 1, by omega, _, wk_pick [0, 1, 2, 3] [0, 1, 5, 6] rfl, k + 1, j + 1, IntKind.i64.wrap ((k : Int) + 1), IntKind.i64.wrap ((j : Int) + 1), C, W.set k y, by omega, ?_, ?_, hd.miss hx2 hh, ?_⟩
        · rw [wrap64 _ (by omega) (by omega)]; rfl
        · rw [wrap64 _ (by omega) (by omega)]; rfl
        · refine congrArg (St.mk _) ?_
          rw [wx_set, show (wx W).set k y.pv = (wx W).set (0 + ((k : Nat) : Int).toNat) y.pv by rw [Int.toNat_natCast, Nat.zero_add]]
          rfl
    · refine aw_exit ?_
      have hj : j = D.waits.length := by
        have : ¬ ((j : Int) < (D.waits.length : Int)) := of_decide_eq_false h
        have := hd.jn
        omega
      subst hj
      have hkj := hd.kj
      refine aw_seq (aw_region hT ?_)
      refine ⟨⟨Int.natCast_nonneg _, by omega, Int.le_refl _⟩, ?_⟩
      refine ⟨by rw [wx_len, hd.len]; simp; omega, ?_⟩
      refine aw_seq (aw_region hT ?_)
      refine ⟨⟨Int.le_refl _, Int.natCast_nonneg _, by omega⟩, ?_⟩
      refine aw_wk (wk_rowTake 2 k rfl) ?_
      refine aw_ret ?_
      have hk := hd.W1
      rw [List.take_length] at hk
      have hkl : (settleW a D.waits).length = k := by rw [← hk, List.length_take, hd.len]; omega
      refine retPick [0, 1, 2, 3] ⟨?_, ?_⟩ rfl
      · rw [hkl]; rfl
      · refine cong2 (fun x y => [devC D 1 2, ABlk.row t_disk_cell 4 (cx x), ABlk.row t_disk_write 2 y, ABlk.cells t_p_disk_Disk [.ref 0 0]]) ?_ ?_
        · rw [hd.C, List.take_length]
        · show (setL (wx W) (0 + ((k : Nat) : Int).toNat) _).take k = _
          rw [Nat.zero_add, Int.toNat_natCast, take_setL _ _ _ (by rw [wx_len, hd.len]; omega), ← hk]
          simp [wx]
end Go.Proofs.YtinfbclgkghgaaaGreat.AL

/- The layer 06 (disk): settle; the faults. -/
namespace Go.Proofs.YtinfbclgkghgaaaGreat.AL
open Go Go.Proofs

theorem disk_settle (D : Dev) (a : Int) (hw : D.waitsIn) (hn : D.waits.length ≤ 1000000) : AFm Tryz.prog 3 f_disk_Disk_settle [.ref 0 0, i64 a] (devH D) (Pure (.tup []) (devH (D.settle a))) := by
  refine af_bodyM 3 hT F_disk_Disk_settle rfl rfl N_disk_Disk_settle rfl rfl ?_
  refine aw_seq (aw_region hT ?_)
  refine aw_wk (wk_boxL 4 [.raw (.int .i64 a)] rfl rfl) ?_
  refine aw_draw [6, 9] [] hT follows_mixed (by rfl) ?_
  refine ⟨_, _, af_in [0, 1, 2, 3] (delete_fn D a hw hn) rfl rfl rfl, ?_⟩
  refine ⟨rfl, ?_⟩
  refine retPick [0, 1, 2] ⟨rfl, ?_⟩ rfl
  unfold devH devC
  rw [show (D.settle a).cells.length = D.cells.length from settleC_len _ _ _]
  rfl

/-- A fault. -/
structure Flt where
  kind : Int
  at_ : Int
  off : Int
  n : Int
  to : Int
  m0 : UInt8
  m1 : UInt8
  m2 : UInt8
  m3 : UInt8
  deriving DecidableEq
abbrev Flt.pv (f : Flt) : List PV := [.raw (.int .i64 f.kind), .raw (.int .i64 f.at_), .raw (.int .i64 f.off), .raw (.int .i64 f.n), .raw (.int .i64 f.to), u8 f.m0, u8 f.m1, u8 f.m2, u8 f.m3]
abbrev Flt.av (f : Flt) : AV := .agg [i64 f.kind, i64 f.at_, i64 f.off, i64 f.n, i64 f.to, .p (u8 f.m0), .p (u8 f.m1), .p (u8 f.m2), .p (u8 f.m3)]

/-- A cell is changed. -/
def Dev.upd (D : Dev) (a : Int) (g : Cell → Cell) : Dev := { D with cells := D.cells.modify a.toNat g }

theorem modify_some {l : List Cell} {i : Nat} {c : Cell} (g : Cell → Cell) (h : l[i]? = some c) : l.modify i g = l.set i (g c) := by
  apply List.ext_getElem?
  intro j
  rw [List.getElem?_modify, List.getElem?_set]
  by_cases e : i = j
  · subst e
    rw [if_pos rfl, if_pos (List.getElem?_eq_some_iff.1 h).1, h]; simp
  · simp [e]
theorem devH_upd (D : Dev) (a : Int) (g : Cell → Cell) {c : Cell} (h : D.cells[a.toNat]? = some c) : devH (D.upd a g) = [devC D 1 2, .row t_disk_cell 4 ((cx D.cells).set (0 + a.toNat) (g c).pv), .row t_disk_write 2 (wx D.waits)] := by
  rw [← devH_set D a.toNat (g c)]
  unfold Dev.upd
  rw [modify_some g h]

theorem has_iff {D : Dev} {a : Int} (h : D.has a = true) : a.toNat < D.cells.length ∧ 0 ≤ a ∧ a < (D.cells.length : Int) := by
  have h1 : (decide (a ≥ 0) && decide (a < (D.cells.length : Int))) = true := h
  rw [Bool.and_eq_true, decide_eq_true_eq, decide_eq_true_eq] at h1
  omega

theorem cell_get (D : Dev) {a : Int} (h : D.has a = true) : ∃ c, D.cells[a.toNat]? = some c ∧ (cx D.cells)[0 + a.toNat]? = some c.pv := by
  have hc := List.getElem?_eq_getElem (has_iff h).1
  exact ⟨_, hc, by rw [Nat.zero_add]; exact cx_get hc⟩

theorem settle_has (D : Dev) (a b : Int) : (D.settle a).has b = D.has b := by
  unfold Dev.has; rw [show (D.settle a).cells.length = D.cells.length from settleC_len _ _ _]

theorem bx_zeros : bx zeros = List.replicate 256 [PV.raw (.int .u8 0)] := by
  unfold zeros bx; rw [List.map_replicate]; rfl

theorem disk_lose (D : Dev) (f : Flt) (hw : D.waitsIn) (hn : D.waits.length ≤ 1000000) (hh : D.has f.at_ = true) :
    AFm Tryz.prog 3 f_disk_Disk_lose [.ref 0 0, f.av] (devH D) (Pure (.tup []) (devH ((D.settle f.at_).upd f.at_ fun c => { c with lost := true }))) := by
  refine af_bodyM 3 hT F_disk_Disk_lose rfl rfl N_disk_Disk_lose rfl rfl ?_
  refine aw_seq (aw_region hT ?_)
  refine aw_wk (wk_boxL 3 f.pv rfl rfl) ?_
  refine aw_seq (aw_region hT ?_)
  refine callP (af_in [0, 1, 2] (disk_settle D f.at_ hw hn) rfl rfl rfl) ?_
  have hlt := has_iff ((settle_has D f.at_ f.at_).trans hh)
  obtain ⟨c, hc, g1⟩ := cell_get (D.settle f.at_) ((settle_has D f.at_ f.at_).trans hh)
  refine aw_draw [8] [] hT follows_mixed (by rfl) ?_
  refine ⟨⟨hlt.2.1, hlt.2.2⟩, ?_⟩
  refine optI g1 ?_
  exact retPick [0, 1, 2] ⟨rfl, (devH_upd (D.settle f.at_) f.at_ (fun c => { c with lost := true }) hc).symm⟩ rfl

theorem disk_blank (D : Dev) (f : Flt) (hw : D.waitsIn) (hn : D.waits.length ≤ 1000000) (hh : D.has f.at_ = true) :
    AFm Tryz.prog 3 f_disk_Disk_blank [.ref 0 0, f.av] (devH D) (Pure (.tup []) (devH ((D.settle f.at_).upd f.at_ fun c => { c with s := zeros, lost := false }))) := by
  refine af_bodyM 3 hT F_disk_Disk_blank rfl rfl N_disk_Disk_blank rfl rfl ?_
  refine aw_seq (aw_region hT ?_)
  refine aw_wk (wk_boxL 3 f.pv rfl rfl) ?_
  refine aw_seq (aw_region hT ?_)
  refine callP (af_in [0, 1, 2] (disk_settle D f.at_ hw hn) rfl rfl rfl) ?_
  have hlt := has_iff ((settle_has D f.at_ f.at_).trans hh)
  obtain ⟨c, hc, g1⟩ := cell_get (D.settle f.at_) ((settle_has D f.at_ f.at_).trans hh)
  have g2 : ∀ e, ((cx (D.settle f.at_).cells).set (0 + f.at_.toNat) e)[0 + f.at_.toNat]? = some e := fun e => by
    rw [Nat.zero_add]; exact List.getElem?_set_self (by rw [cx_len]; exact hlt.1)
  refine aw_draw [15, 18] [12] hT follows_mixed (by rfl) ?_
  refine ⟨⟨rfl, by omega, by decide, by omega⟩, ?_⟩
  refine ⟨⟨rfl, List.length_replicate.symm⟩, ?_⟩
  refine ⟨⟨hlt.2.1, hlt.2.2⟩, ?_⟩
  refine optI g1 ?_
  refine chkI rfl (optI rfl ?_)
  refine ⟨⟨hlt.2.1, hlt.2.2⟩, ?_⟩
  refine optI (g2 _) ?_
  refine ⟨rfl, ?_⟩
  refine retPick [0, 1, 2] ⟨rfl, ?_⟩ rfl
  refine Eq.trans ?_ (devH_upd (D.settle f.at_) f.at_ (fun c => { c with s := zeros, lost := false }) hc).symm
  refine Eq.trans (congrArg (fun z => [devC (D.settle f.at_) 1 2, ABlk.row t_disk_cell 4 z, ABlk.row t_disk_write 2 (wx (D.settle f.at_).waits)]) (List.set_set ..)) ?_
  refine congrArg (fun z => [devC (D.settle f.at_) 1 2, ABlk.row t_disk_cell 4 ((cx (D.settle f.at_).cells).set (0 + f.at_.toNat) [.sl 1 z, .raw (.bool false), .raw (.int .i64 c.drop), iP c.miss]), ABlk.row t_disk_write 2 (wx (D.settle f.at_).waits)]) ?_
  exact bx_zeros.symm

theorem disk_drop (D : Dev) (f : Flt) (hh : D.has f.at_ = true) :
    AFm Tryz.prog 3 f_disk_Disk_drop [.ref 0 0, f.av] (devH D) (Pure (.tup []) (devH (D.upd f.at_ fun c => { c with drop := IntKind.i64.wrap (c.drop + f.n) }))) := by
  refine af_bodyM 3 hT F_disk_Disk_drop rfl rfl N_disk_Disk_drop rfl rfl ?_
  refine aw_seq (aw_region hT ?_)
  refine aw_wk (wk_boxL 3 f.pv rfl rfl) ?_
  have hlt := has_iff hh
  obtain ⟨c, hc, g1⟩ := cell_get D hh
  refine aw_draw [14] [] hT follows_mixed (by rfl) ?_
  refine ⟨⟨hlt.2.1, hlt.2.2⟩, ?_⟩
  refine optI g1 ?_
  refine ⟨⟨hlt.2.1, hlt.2.2⟩, ?_⟩
  refine optI g1 ?_
  exact retPick [0, 1, 2] ⟨rfl, (devH_upd D f.at_ (fun c => { c with drop := IntKind.i64.wrap (c.drop + f.n) }) hc).symm⟩ rfl

theorem disk_miss (D : Dev) (f : Flt) (hh : D.has f.at_ = true) (hm : ∀ c ∈ D.cells, c.miss.length ≤ 1000000) :
    AFm Tryz.prog 3 f_disk_Disk_miss [.ref 0 0, f.av] (devH D) (Pure (.tup []) (devH (D.upd f.at_ fun c => { c with miss := c.miss ++ [f.to] }))) := by
  refine af_bodyM 3 hT F_disk_Disk_miss rfl rfl N_disk_Disk_miss rfl rfl ?_
  refine aw_seq (aw_region hT ?_)
  refine aw_wk (wk_boxL 3 f.pv rfl rfl) ?_
  have hlt := has_iff hh
  obtain ⟨c, hc, g1⟩ := cell_get D hh
  have hcm := hm _ (List.mem_of_getElem? hc)
  refine aw_seq ?_
  refine aw_draw [] [] hT follows_mixed (by rfl) ?_
  refine ⟨⟨hlt.2.1, hlt.2.2⟩, ?_⟩
  refine aw_draw [5, 9, 12] [8, 9] hT follows_mixed (by rfl) ?_
  refine optI g1 ?_
  refine ⟨_, _, af_lift (clone_i64 c.miss hcm) _ rfl, ?_⟩
  refine ⟨⟨rfl, rfl⟩, ?_⟩
  refine ⟨ix_len _, ⟨?_, ?_⟩, ?_⟩
  · show ((ix c.miss).length + 1) * 8 ≤ 140737488355328
    rw [ix_len]; omega
  · show (ix c.miss).length + 1 ≤ 140737488355328
    rw [ix_len]; omega
  refine ⟨⟨rfl, rfl⟩, ?_⟩
  refine optI g1 ?_
  refine ⟨rfl, ?_⟩
  refine ⟨⟨⟨rfl, rfl⟩, rfl⟩, ?_⟩
  refine retPick [0, 1, 2] ⟨rfl, ?_⟩ rfl
  refine Eq.trans ?_ (devH_upd D f.at_ (fun c => { c with miss := c.miss ++ [f.to] }) hc).symm
  have e : ix (c.miss ++ [f.to]) = ix c.miss ++ [[.raw (.int .i64 f.to)]] := by simp [ix]
  show _ = [_, ABlk.row t_disk_cell 4 ((cx D.cells).set (0 + f.at_.toNat) [_, _, _, .sl 1 (ix (c.miss ++ [f.to]))]), _]
  rw [e]
  rfl
end Go.Proofs.YtinfbclgkghgaaaGreat.AL

/- The layer 06 (disk): what rots. -/
namespace Go.Proofs.YtinfbclgkghgaaaGreat.AL
open Go Go.Proofs

theorem clone_u8M (l : Bytes) (hl : l.length ≤ 1000000) : AF Tryz.prog f_slices_Clone_byte [bA l] [] (Pure (.msl 0 1 0 l.length) [.row t_u8 1 (bx l)]) := by
  have hb := bx_len l
  show AF Tryz.prog f_slices_Clone_byte [.p (.sl 1 (bx l))] [] _
  rw [← hb]
  generalize bx l = xs at hb
  refine af_body hT F_slices_Clone_byte rfl rfl N_slices_Clone_byte rfl ?_
  refine aw_seq (aw_region hT ?_)
  refine aw_seq (aw_seq (aw_region hT ?_))
  intro b hn
  refine aw_cond (boolI (fun h => ?_) (fun h => ?_))
  · refine aw_seq (aw_region hT ?_)
    refine aw_ret ?_
    rw [hn h]
    exact retNil t_u8 1 ⟨rfl, rfl⟩
  · refine aw_skip ?_
    refine aw_seq (aw_region hT ?_)
    refine ⟨rfl, ⟨?_, ?_⟩, ?_⟩
    · show (0 + xs.length) * 1 ≤ _; omega
    · show 0 + xs.length ≤ _; omega
    refine aw_ret ?_
    exact retPick [1] ⟨rfl, rfl⟩ rfl

def Flt.m (f : Flt) : Nat → UInt8 | 0 => f.m0 | 1 => f.m1 | 2 => f.m2 | _ => f.m3
def rotB (f : Flt) (s : Bytes) : Nat → Bytes
  | 0 => s
  | i + 1 => match decide (f.off + i < (s.length : Int)) with
    | true => (rotB f s i).set (f.off.toNat + i) ((rotB f s i).getD (f.off.toNat + i) 0 ^^^ f.m i)
    | false => rotB f s i
theorem rotB_len (f : Flt) (s : Bytes) : ∀ i, (rotB f s i).length = s.length
  | 0 => rfl
  | i + 1 => by
    unfold rotB; split
    · rw [List.length_set, rotB_len f s i]
    · exact rotB_len f s i

theorem xor_u8 (a b : UInt8) : IntKind.u8.wrap ((BitVec.ofInt 8 (a.toNat : Int) ^^^ BitVec.ofInt 8 (b.toNat : Int)).toNat : Int) = ((a ^^^ b).toNat : Int) := by
  have h1 : BitVec.ofInt 8 (a.toNat : Int) = a.toBitVec := by
    apply BitVec.eq_of_toNat_eq; simp
  have h2 : BitVec.ofInt 8 (b.toNat : Int) = b.toBitVec := by
    apply BitVec.eq_of_toNat_eq; simp
  rw [h1, h2]
  have h3 : (a.toBitVec ^^^ b.toBitVec) = (a ^^^ b).toBitVec := rfl
  rw [h3]
  have h4 : (a ^^^ b).toBitVec.toNat < 256 := (a ^^^ b).toBitVec.isLt
  show IntKind.u8.wrap (((a ^^^ b).toBitVec.toNat : Nat) : Int) = (((a ^^^ b).toBitVec.toNat : Nat) : Int)
  generalize (a ^^^ b).toBitVec.toNat = n at h4
  rw [IntKind.wrap_u8]; omega

theorem rot_at (f : Flt) (i : Nat) (h0 : 0 ≤ f.off) (h1 : f.off < 256) (hi : i < 4) : IntKind.i64.wrap (f.off + ((i : Nat) : Int)) = f.off + (i : Int) ∧ (IntKind.i64.wrap (f.off + ((i : Nat) : Int))).toNat = f.off.toNat + i := by
  rw [wrap64 _ (by omega) (by omega)]; omega
theorem rot_get (f : Flt) (s : Bytes) (i : Nat) (h0 : 0 ≤ f.off) (h1 : f.off < 256) (hi : i < 4) (h : f.off + (i : Int) < (s.length : Int)) :
    (bx (rotB f s i))[0 + (IntKind.i64.wrap (f.off + ((i : Nat) : Int))).toNat]? = some [u8 ((rotB f s i).getD (f.off.toNat + i) 0)] := by
  rw [Nat.zero_add, (rot_at f i h0 h1 hi).2]
  have hl : f.off.toNat + i < (rotB f s i).length := by rw [rotB_len]; omega
  rw [bx, List.getElem?_map, List.getElem?_eq_getElem hl, List.getD_eq_getElem?_getD, List.getElem?_eq_getElem hl]; rfl
theorem rot_yes (f : Flt) (s : Bytes) (i : Nat) (h0 : 0 ≤ f.off) (h1 : f.off < 256) (hi : i < 4) (h : f.off + (i : Int) < (s.length : Int)) :
    bx (rotB f s (i + 1)) = (bx (rotB f s i)).set (0 + (IntKind.i64.wrap (f.off + ((i : Nat) : Int))).toNat) [.raw (.int .u8 (IntKind.u8.wrap ((BitVec.ofInt 8 (((rotB f s i).getD (f.off.toNat + i) 0).toNat : Int) ^^^ BitVec.ofInt 8 ((f.m i).toNat : Int)).toNat : Int)))] := by
  rw [Nat.zero_add, (rot_at f i h0 h1 hi).2, xor_u8]
  conv => lhs; unfold rotB
  rw [decide_eq_true h]
  show bx (List.set _ _ _) = _
  rw [bx, List.map_set]; rfl
theorem rot_no (f : Flt) (s : Bytes) (i : Nat) (h : ¬ f.off + (i : Int) < (s.length : Int)) : rotB f s (i + 1) = rotB f s i := by
  conv => lhs; unfold rotB
  rw [decide_eq_false h]

theorem disk_rot (D : Dev) (f : Flt) (hw : D.waitsIn) (hn : D.waits.length ≤ 1000000) (hh : D.has f.at_ = true) (h0 : 0 ≤ f.off) (h1 : f.off < 256) (hs : ∀ c ∈ (D.settle f.at_).cells, c.s.length ≤ 1000000) :
    AFm Tryz.prog 3 f_disk_Disk_rot [.ref 0 0, f.av] (devH D) (Pure (.tup []) (devH ((D.settle f.at_).upd f.at_ fun c => { c with s := rotB f c.s 4 }))) := by
  refine af_bodyM 3 hT F_disk_Disk_rot rfl rfl N_disk_Disk_rot rfl rfl ?_
  refine aw_seq (aw_region hT ?_)
  refine aw_wk (wk_boxL 3 f.pv rfl rfl) ?_
  refine aw_seq (aw_region hT ?_)
  refine callP (af_in [0, 1, 2] (disk_settle D f.at_ hw hn) rfl rfl rfl) ?_
  have hlt := has_iff ((settle_has D f.at_ f.at_).trans hh)
  obtain ⟨c, hc, g1⟩ := cell_get (D.settle f.at_) ((settle_has D f.at_ f.at_).trans hh)
  have hcs := hs _ (List.mem_of_getElem? hc)
  refine aw_seq ?_
  refine aw_draw [9] [] hT follows_mixed (by rfl) ?_
  refine ⟨⟨hlt.2.1, hlt.2.2⟩, ?_⟩
  refine optI g1 ?_
  refine ⟨_, _, af_lift (clone_u8M c.s hcs) _ rfl, ?_⟩
  refine aw_seq (aw_seq (aw_region hT ?_))
  refine aw_block ?_
  refine aw_loopW (fun n s => ∃ (i : Nat) (j : Int), n + i = 4 ∧ j = i ∧ s = ⟨⟨54, [(0, .ref 0 0), (3, .p (.box f.pv)), (4, .msl 3 1 0 c.s.length), (22, .agg [.p (u8 f.m0), .p (u8 f.m1), .p (u8 f.m2), .p (u8 f.m3)]), (23, i64 j)]⟩, devH (D.settle f.at_) ++ [.row t_u8 1 (bx (rotB f c.s i))]⟩) 4 ⟨⟨54, _⟩, [_, _, _, _]⟩ (wk_pick [0, 1, 2, 4] [0, 3, 4, 22, 23] rfl) ⟨0, _, rfl, rfl, rfl⟩ ?_
  rintro n s ⟨i, j, hni, rfl, rfl⟩
  refine aw_seq (aw_region hT ?_)
  refine aw_seq (aw_cond (boolI (fun h => ?_) (fun h => ?_)))
  · have hi : i < 4 := by
      have := of_decide_eq_true (show decide ((i : Int) < 4) = true from h)
      omega
    refine aw_skip ?_
    obtain rfl | rfl | rfl | rfl : i = 0 ∨ i = 1 ∨ i = 2 ∨ i = 3 := by omega
    · refine aw_seq (aw_block (aw_seq (aw_region hT ?_)))
      refine ⟨⟨by omega, by omega⟩, ?_⟩
      have ha := rot_at f 0 h0 h1 (by omega)
      refine aw_seq (aw_region hT ?_)
      refine aw_cond (boolI (fun h3 => ?_) (fun h3 => ?_))
      · have h3 : f.off + ((0 : Nat) : Int) < (c.s.length : Int) := by
          have := of_decide_eq_true h3
          rw [ha.1] at this; exact this
        refine aw_region hT ?_
        refine ⟨⟨by rw [ha.1]; omega, by rw [ha.1]; exact h3⟩, ?_⟩
        refine optI (rot_get f c.s 0 h0 h1 (by omega) h3) ?_
        refine ⟨⟨by rw [ha.1]; omega, by rw [ha.1]; exact h3⟩, ?_⟩
        refine optI (rot_get f c.s 0 h0 h1 (by omega) h3) ?_
        refine aw_region hT ?_
        refine ⟨n - 1, by omega, _, wk_pick [0, 1, 2, 3] [0, 3, 4, 22, 23] rfl, 0 + 1, IntKind.i64.wrap (((0 : Nat) : Int) + 1), by omega, by decide, ?_⟩
        refine congrArg (St.mk _) ?_
        rw [rot_yes f c.s 0 h0 h1 (by omega) h3]
        rfl
      · have h3 : ¬ f.off + ((0 : Nat) : Int) < (c.s.length : Int) := by
          have := of_decide_eq_false h3
          rw [ha.1] at this; exact this
        refine aw_skip ?_
        refine aw_region hT ?_
        refine ⟨n - 1, by omega, _, wk_pick [0, 1, 2, 3] [0, 3, 4, 22, 23] rfl, 0 + 1, IntKind.i64.wrap (((0 : Nat) : Int) + 1), by omega, by decide, ?_⟩
        refine congrArg (St.mk _) ?_
        rw [rot_no f c.s 0 h3]
        rfl
    · refine aw_seq (aw_block (aw_seq (aw_region hT ?_)))
      refine ⟨⟨by omega, by omega⟩, ?_⟩
      have ha := rot_at f 1 h0 h1 (by omega)
      refine aw_seq (aw_region hT ?_)
      refine aw_cond (boolI (fun h3 => ?_) (fun h3 => ?_))
      · have h3 : f.off + ((1 : Nat) : Int) < (c.s.length : Int) := by
          have := of_decide_eq_true h3
          rw [ha.1] at this; exact this
        refine aw_region hT ?_
        refine ⟨⟨by rw [ha.1]; omega, by rw [ha.1]; exact h3⟩, ?_⟩
        refine optI (rot_get f c.s 1 h0 h1 (by omega) h3) ?_
        refine ⟨⟨by rw [ha.1]; omega, by rw [ha.1]; exact h3⟩, ?_⟩
        refine optI (rot_get f c.s 1 h0 h1 (by omega) h3) ?_
        refine aw_region hT ?_
        refine ⟨n - 1, by omega, _, wk_pick [0, 1, 2, 3] [0, 3, 4, 22, 23] rfl, 1 + 1, IntKind.i64.wrap (((1 : Nat) : Int) + 1), by omega, by decide, ?_⟩
        refine congrArg (St.mk _) ?_
        rw [rot_yes f c.s 1 h0 h1 (by omega) h3]
        rfl
      · have h3 : ¬ f.off + ((1 : Nat) : Int) < (c.s.length : Int) := by
          have := of_decide_eq_false h3
          rw [ha.1] at this; exact this
        refine aw_skip ?_
        refine aw_region hT ?_
        refine ⟨n - 1, by omega, _, wk_pick [0, 1, 2, 3] [0, 3, 4, 22, 23] rfl, 1 + 1, IntKind.i64.wrap (((1 : Nat) : Int) + 1), by omega, by decide, ?_⟩
        refine congrArg (St.mk _) ?_
        rw [rot_no f c.s 1 h3]
        rfl
    · refine aw_seq (aw_block (aw_seq (aw_region hT ?_)))
      refine ⟨⟨by omega, by omega⟩, ?_⟩
      have ha := rot_at f 2 h0 h1 (by omega)
      refine aw_seq (aw_region hT ?_)
      refine aw_cond (boolI (fun h3 => ?_) (fun h3 => ?_))
      · have h3 : f.off + ((2 : Nat) : Int) < (c.s.length : Int) := by
          have := of_decide_eq_true h3
          rw [ha.1] at this; exact this
        refine aw_region hT ?_
        refine ⟨⟨by rw [ha.1]; omega, by rw [ha.1]; exact h3⟩, ?_⟩
        refine optI (rot_get f c.s 2 h0 h1 (by omega) h3) ?_
        refine ⟨⟨by rw [ha.1]; omega, by rw [ha.1]; exact h3⟩, ?_⟩
        refine optI (rot_get f c.s 2 h0 h1 (by omega) h3) ?_
        refine aw_region hT ?_
        refine ⟨n - 1, by omega, _, wk_pick [0, 1, 2, 3] [0, 3, 4, 22, 23] rfl, 2 + 1, IntKind.i64.wrap (((2 : Nat) : Int) + 1), by omega, by decide, ?_⟩
        refine congrArg (St.mk _) ?_
        rw [rot_yes f c.s 2 h0 h1 (by omega) h3]
        rfl
      · have h3 : ¬ f.off + ((2 : Nat) : Int) < (c.s.length : Int) := by
          have := of_decide_eq_false h3
          rw [ha.1] at this; exact this
        refine aw_skip ?_
        refine aw_region hT ?_
        refine ⟨n - 1, by omega, _, wk_pick [0, 1, 2, 3] [0, 3, 4, 22, 23] rfl, 2 + 1, IntKind.i64.wrap (((2 : Nat) : Int) + 1), by omega, by decide, ?_⟩
        refine congrArg (St.mk _) ?_
        rw [rot_no f c.s 2 h3]
        rfl
    · refine aw_seq (aw_block (aw_seq (aw_region hT ?_)))
      refine ⟨⟨by omega, by omega⟩, ?_⟩
      have ha := rot_at f 3 h0 h1 (by omega)
      refine aw_seq (aw_region hT ?_)
      refine aw_cond (boolI (fun h3 => ?_) (fun h3 => ?_))
      · have h3 : f.off + ((3 : Nat) : Int) < (c.s.length : Int) := by
          have := of_decide_eq_true h3
          rw [ha.1] at this; exact this
        refine aw_region hT ?_
        refine ⟨⟨by rw [ha.1]; omega, by rw [ha.1]; exact h3⟩, ?_⟩
        refine optI (rot_get f c.s 3 h0 h1 (by omega) h3) ?_
        refine ⟨⟨by rw [ha.1]; omega, by rw [ha.1]; exact h3⟩, ?_⟩
        refine optI (rot_get f c.s 3 h0 h1 (by omega) h3) ?_
        refine aw_region hT ?_
        refine ⟨n - 1, by omega, _, wk_pick [0, 1, 2, 3] [0, 3, 4, 22, 23] rfl, 3 + 1, IntKind.i64.wrap (((3 : Nat) : Int) + 1), by omega, by decide, ?_⟩
        refine congrArg (St.mk _) ?_
        rw [rot_yes f c.s 3 h0 h1 (by omega) h3]
        rfl
      · have h3 : ¬ f.off + ((3 : Nat) : Int) < (c.s.length : Int) := by
          have := of_decide_eq_false h3
          rw [ha.1] at this; exact this
        refine aw_skip ?_
        refine aw_region hT ?_
        refine ⟨n - 1, by omega, _, wk_pick [0, 1, 2, 3] [0, 3, 4, 22, 23] rfl, 3 + 1, IntKind.i64.wrap (((3 : Nat) : Int) + 1), by omega, by decide, ?_⟩
        refine congrArg (St.mk _) ?_
        rw [rot_no f c.s 3 h3]
        rfl
  · refine aw_exit ?_
    have hi : i = 4 := by
      have := of_decide_eq_false (show decide ((i : Int) < 4) = false from h)
      omega
    subst hi
    refine aw_wk (wk_frz1 4 3 rfl rfl (by rw [bx_len, rotB_len]; omega)) ?_
    refine aw_draw [9] [] hT follows_mixed (by rfl) ?_
    refine ⟨⟨hlt.2.1, hlt.2.2⟩, ?_⟩
    refine optI g1 ?_
    refine retPick [0, 1, 2] ⟨rfl, ?_⟩ rfl
    refine Eq.trans ?_ (devH_upd (D.settle f.at_) f.at_ (fun c => { c with s := rotB f c.s 4 }) hc).symm
    refine congrArg (fun z => [devC (D.settle f.at_) 1 2, ABlk.row t_disk_cell 4 ((cx (D.settle f.at_).cells).set (0 + f.at_.toNat) [.sl 1 z, .raw (.bool c.lost), .raw (.int .i64 c.drop), iP c.miss]), ABlk.row t_disk_write 2 (wx (D.settle f.at_).waits)]) ?_
    show ((bx (rotB f c.s 4)).drop 0).take c.s.length = _
    rw [List.drop_zero, ← rotB_len f c.s 4, ← bx_len, List.take_length]
end Go.Proofs.YtinfbclgkghgaaaGreat.AL

/- The layer 06 (disk): which faults may be; a fault. -/
namespace Go.Proofs.YtinfbclgkghgaaaGreat.AL
open Go Go.Proofs

def Dev.may (D : Dev) (f : Flt) : Int := match D.has f.at_ with
  | false => 3
  | true => match decide (f.kind < 1) || decide (f.kind > 5) with
    | true => 1
    | false => match (f.kind == 1) && (decide (f.off < 0) || decide (f.off ≥ 256)) with
      | true => 1
      | false => match (f.kind == 4) && (decide (f.n < 1) || decide (f.n > 1000)) with
        | true => 1
        | false => match (f.kind == 5) && !(D.has f.to) with
          | true => 3
          | false => 0

theorem disk_may (D : Dev) (f : Flt) : AFm Tryz.prog 3 f_disk_Disk_may [.ref 0 0, f.av] (devH D) (Pure (i64 (D.may f)) (devH D)) := by
  refine af_bodyM 3 hT F_disk_Disk_may rfl rfl N_disk_Disk_may rfl rfl ?_
  refine aw_seq (aw_region hT ?_)
  refine aw_wk (wk_boxL 3 f.pv rfl rfl) ?_
  refine aw_cut ⟨⟨57, []⟩, devH D⟩ (D.may f = 0) (aw_block (aw_seq (aw_region hT ?_))) ?_
  · refine callP (af_in [0, 1, 2] (disk_has D f.at_) rfl rfl rfl) ?_
    refine aw_cond (boolI (fun h => ?_) (fun h => ?_))
    · have e : D.may f = 3 := by unfold Dev.may; rw [(Bool.not_eq_true' _).mp h]
      refine aw_seq (aw_region hT ?_)
      refine aw_ret ?_
      rw [e]
      exact retPick [0, 1, 2] ⟨rfl, rfl⟩ rfl
    have h : D.has f.at_ = true := (Bool.not_eq_false' _).mp h
    have one : (decide (f.kind < 1) || decide (f.kind > 5)) = true → D.may f = 1 := fun h2 => by unfold Dev.may; rw [h, h2]
    refine aw_cut2 (fun s1 => ∃ b, b = (decide (f.kind < 1) || decide (f.kind > 5)) ∧ s1 = ⟨⟨57, [(0, .ref 0 0), (3, .p (.box f.pv)), (11, bl b)]⟩, devH D⟩) (aw_seq (aw_region hT ?_)) ?_
    · refine aw_cond (boolI (fun h2 => ?_) (fun h2 => ?_))
      · refine aw_skip ⟨_, wk_pick [0, 1, 2] [0, 3, 11] rfl, decide (f.kind < 1), ?_, rfl⟩
        rw [show decide (f.kind < 1) = true from h2]; rfl
      · refine aw_region hT ?_
        refine ⟨_, wk_pick [0, 1, 2] [0, 3, 11] rfl, decide (f.kind > 5), ?_, rfl⟩
        rw [show decide (f.kind < 1) = false from h2]; rfl
    rintro _ ⟨b, hb, rfl⟩
    refine aw_cond (boolI (fun h2 => ?_) (fun h2 => ?_))
    · have e : D.may f = 1 := one (hb.symm.trans h2)
      refine aw_seq (aw_region hT ?_)
      refine aw_ret ?_
      rw [e]
      exact retPick [0, 1, 2] ⟨rfl, rfl⟩ rfl
    have hk : (decide (f.kind < 1) || decide (f.kind > 5)) = false := hb.symm.trans h2
    have two : ((f.kind == 1) && (decide (f.off < 0) || decide (f.off ≥ 256))) = true → D.may f = 1 := fun h3 => by unfold Dev.may; rw [h, hk, h3]
    refine aw_cut2 (fun s1 => ∃ b, b = ((f.kind == 1) && (decide (f.off < 0) || decide (f.off ≥ 256))) ∧ s1 = ⟨⟨57, [(0, .ref 0 0), (3, .p (.box f.pv)), (18, bl b)]⟩, devH D⟩) (aw_region hT ?_) ?_
    · refine boolI (fun h3 => ?_) (fun h3 => ?_)
      · have h3 : (f.kind == 1) = true := h3
        refine boolI (fun h4 => ?_) (fun h4 => ?_)
        · refine ⟨_, wk_pick [0, 1, 2] [0, 3, 18] rfl, true, ?_, rfl⟩
          rw [h3, show decide (f.off < 0) = true from h4]; rfl
        · refine ⟨_, wk_pick [0, 1, 2] [0, 3, 18] rfl, decide (f.off ≥ 256), ?_, rfl⟩
          rw [h3, show decide (f.off < 0) = false from h4]; rfl
      · have h3 : (f.kind == 1) = false := h3
        refine ⟨_, wk_pick [0, 1, 2] [0, 3, 18] rfl, false, ?_, rfl⟩
        rw [h3]; rfl
    rintro _ ⟨b, hb, rfl⟩
    refine aw_cond (boolI (fun h2 => ?_) (fun h2 => ?_))
    · have e : D.may f = 1 := two (hb.symm.trans h2)
      refine aw_seq (aw_region hT ?_)
      refine aw_ret ?_
      rw [e]
      exact retPick [0, 1, 2] ⟨rfl, rfl⟩ rfl
    have hk2 : ((f.kind == 1) && (decide (f.off < 0) || decide (f.off ≥ 256))) = false := hb.symm.trans h2
    have three : ((f.kind == 4) && (decide (f.n < 1) || decide (f.n > 1000))) = true → D.may f = 1 := fun h3 => by unfold Dev.may; rw [h, hk, hk2, h3]
    refine aw_cut2 (fun s1 => ∃ b, b = ((f.kind == 4) && (decide (f.n < 1) || decide (f.n > 1000))) ∧ s1 = ⟨⟨57, [(0, .ref 0 0), (3, .p (.box f.pv)), (32, bl b)]⟩, devH D⟩) (aw_region hT ?_) ?_
    · refine boolI (fun h3 => ?_) (fun h3 => ?_)
      · have h3 : (f.kind == 4) = true := h3
        refine boolI (fun h4 => ?_) (fun h4 => ?_)
        · refine ⟨_, wk_pick [0, 1, 2] [0, 3, 32] rfl, true, ?_, rfl⟩
          rw [h3, show decide (f.n < 1) = true from h4]; rfl
        · refine ⟨_, wk_pick [0, 1, 2] [0, 3, 32] rfl, decide (f.n > 1000), ?_, rfl⟩
          rw [h3, show decide (f.n < 1) = false from h4]; rfl
      · have h3 : (f.kind == 4) = false := h3
        refine ⟨_, wk_pick [0, 1, 2] [0, 3, 32] rfl, false, ?_, rfl⟩
        rw [h3]; rfl
    rintro _ ⟨b, hb, rfl⟩
    refine aw_cond (boolI (fun h2 => ?_) (fun h2 => ?_))
    · have e : D.may f = 1 := three (hb.symm.trans h2)
      refine aw_seq (aw_region hT ?_)
      refine aw_ret ?_
      rw [e]
      exact retPick [0, 1, 2] ⟨rfl, rfl⟩ rfl
    have hk3 : ((f.kind == 4) && (decide (f.n < 1) || decide (f.n > 1000))) = false := hb.symm.trans h2
    refine aw_seq (aw_region hT ?_)
    refine boolI (fun h3 => ?_) (fun h3 => ?_)
    · have h3 : (f.kind == 5) = true := h3
      refine callP (af_in [0, 1, 2] (disk_has D f.to) rfl rfl rfl) ?_
      refine aw_cond (boolI (fun h4 => ?_) (fun h4 => ?_))
      · have e : D.may f = 3 := by unfold Dev.may; rw [h, hk, hk2, hk3, h3, show (!(D.has f.to)) = true from h4]; rfl
        refine aw_seq (aw_region hT ?_)
        refine aw_ret ?_
        rw [e]
        exact retPick [0, 1, 2] ⟨rfl, rfl⟩ rfl
      · have e : D.may f = 0 := by unfold Dev.may; rw [h, hk, hk2, hk3, h3, show (!(D.has f.to)) = false from h4]; rfl
        exact aw_skip ⟨wk_pick [0, 1, 2] [] rfl, e⟩
    · have h3 : (f.kind == 5) = false := h3
      have e : D.may f = 0 := by unfold Dev.may; rw [h, hk, hk2, hk3, h3]; rfl
      refine aw_cond ?_
      exact aw_skip ⟨wk_pick [0, 1, 2] [] rfl, e⟩
  · intro e
    refine aw_seq (aw_region hT ?_)
    refine aw_ret ?_
    rw [e]
    exact retPick [0, 1, 2] ⟨rfl, rfl⟩ rfl
end Go.Proofs.YtinfbclgkghgaaaGreat.AL

/- The layer 06 (disk): a fault; a device that is well. -/
namespace Go.Proofs.YtinfbclgkghgaaaGreat.AL
open Go Go.Proofs

/-- A device of which what waits, and what is misled, is in range; sectors have their length. -/
structure Dev.Ok (D : Dev) (b : Nat) : Prop where
  at_ : ∀ x ∈ D.waits, 0 ≤ x.at_ ∧ x.at_ < (D.cells.length : Int)
  ws : ∀ x ∈ D.waits, x.s.length = 256
  cs : ∀ c ∈ D.cells, c.s.length = 256
  mt : ∀ c ∈ D.cells, ∀ t ∈ c.miss, 0 ≤ t ∧ t < (D.cells.length : Int)
  ml : ∀ c ∈ D.cells, c.miss.length ≤ b
  wl : D.waits.length ≤ b

def Dev.hurt (D : Dev) (f : Flt) : Dev :=
  if f.kind = 1 then (D.settle f.at_).upd f.at_ fun c => { c with s := rotB f c.s 4 }
  else if f.kind = 2 then (D.settle f.at_).upd f.at_ fun c => { c with s := zeros, lost := false }
  else if f.kind = 3 then (D.settle f.at_).upd f.at_ fun c => { c with lost := true }
  else if f.kind = 4 then D.upd f.at_ fun c => { c with drop := IntKind.i64.wrap (c.drop + f.n) }
  else D.upd f.at_ fun c => { c with miss := c.miss ++ [f.to] }
def Dev.fault (D : Dev) (f : Flt) : Int × Dev := match D.may f == 0 with
  | false => (D.may f, D)
  | true => (0, D.hurt f)

theorem may_ok {D : Dev} {f : Flt} (h : D.may f = 0) : D.has f.at_ = true ∧ (1 ≤ f.kind ∧ f.kind ≤ 5) ∧ (f.kind = 1 → 0 ≤ f.off ∧ f.off < 256) ∧ (f.kind = 4 → 1 ≤ f.n ∧ f.n ≤ 1000) ∧ (f.kind = 5 → D.has f.to = true) := by
  unfold Dev.may at h
  split at h
  · omega
  rename_i h1
  split at h
  · omega
  rename_i h2
  split at h
  · omega
  rename_i h3
  split at h
  · omega
  rename_i h4
  split at h
  · omega
  rename_i h5
  simp only [Bool.or_eq_false_iff, decide_eq_false_iff_not, Bool.and_eq_false_iff, beq_eq_false_iff_ne, Bool.not_eq_false'] at h2 h3 h4 h5
  refine ⟨h1, by omega, fun hk => ?_, fun hk => ?_, fun hk => ?_⟩
  · rcases h3 with h3 | h3
    · exact absurd hk h3
    · omega
  · rcases h4 with h4 | h4
    · exact absurd hk h4
    · omega
  · rcases h5 with h5 | h5
    · exact absurd hk h5
    · exact h5

theorem doneL_mem {C : List Cell} {x : Wr} {c : Cell} (h : c ∈ doneL C x) : c ∈ C ∨ ∃ c0 ∈ C, c = { c0 with s := x.s, lost := false } := by
  unfold doneL at h
  split at h
  · rename_i c0 hc0
    rcases List.mem_or_eq_of_mem_set h with h | h
    · exact .inl h
    · exact .inr ⟨c0, List.mem_of_getElem? hc0, h⟩
  · exact .inl h

theorem settleC_mem {a : Int} {W : List Wr} {C : List Cell} {c : Cell} (h : c ∈ settleC a W C) : ∃ c0 ∈ C, c.miss = c0.miss ∧ (c.s = c0.s ∨ ∃ x ∈ W, c.s = x.s) := by
  induction W generalizing C with
  | nil => exact ⟨c, h, rfl, .inl rfl⟩
  | cons x r ih =>
    have h : c ∈ settleC a r (match hitA a x with | true => doneL C x | false => C) := h
    obtain ⟨c1, h1, h2, h3⟩ := ih h
    have : ∃ c0 ∈ C, c1.miss = c0.miss ∧ (c1.s = c0.s ∨ c1.s = x.s) := by
      split at h1
      · rcases doneL_mem h1 with h1 | ⟨c0, h0, e⟩
        · exact ⟨c1, h1, rfl, .inl rfl⟩
        · exact ⟨c0, h0, by rw [e], .inr (by rw [e])⟩
      · exact ⟨c1, h1, rfl, .inl rfl⟩
    obtain ⟨c0, g1, g2, g3⟩ := this
    refine ⟨c0, g1, h2.trans g2, ?_⟩
    rcases h3 with h3 | ⟨y, hy, h3⟩
    · rcases g3 with g3 | g3
      · exact .inl (h3.trans g3)
      · exact .inr ⟨x, by simp, h3.trans g3⟩
    · exact .inr ⟨y, by simp [hy], h3⟩

theorem Dev.Ok.settle {D : Dev} {b : Nat} (h : D.Ok b) (a : Int) : (D.settle a).Ok b := by
  have hl : (D.settle a).cells.length = D.cells.length := settleC_len _ _ _
  have hw : ∀ x ∈ (D.settle a).waits, x ∈ D.waits := fun x hx => (List.mem_filter.1 hx).1
  refine ⟨fun x hx => by rw [hl]; exact h.at_ x (hw x hx), fun x hx => h.ws x (hw x hx), fun c hc => ?_, fun c hc t ht => ?_, fun c hc => ?_, Nat.le_trans (settleW_le a D.waits) h.wl⟩
  · obtain ⟨c0, h0, _, h2⟩ := settleC_mem hc
    rcases h2 with h2 | ⟨x, hx, h2⟩
    · rw [h2]; exact h.cs c0 h0
    · rw [h2]; exact h.ws x hx
  · obtain ⟨c0, h0, h1, _⟩ := settleC_mem hc
    rw [h1] at ht; rw [hl]; exact h.mt c0 h0 t ht
  · obtain ⟨c0, h0, h1, _⟩ := settleC_mem hc
    rw [h1]; exact h.ml c0 h0

theorem disk_Fault (D : Dev) (f : Flt) (b : Nat) (hD : D.Ok b) (hb : b ≤ 1000000) : AFm Tryz.prog 3 f_disk_Disk_Fault [.ref 0 0, f.av] (devH D) (Pure (i64 (D.fault f).1) (devH (D.fault f).2)) := by
  refine af_bodyM 3 hT F_disk_Disk_Fault rfl rfl N_disk_Disk_Fault rfl rfl ?_
  refine aw_seq (aw_region hT ?_)
  refine aw_wk (wk_boxL 3 f.pv rfl rfl) ?_
  refine aw_seq (aw_seq (aw_region hT ?_))
  refine callP (af_in [0, 1, 2] (disk_may D f) rfl rfl rfl) ?_
  refine aw_seq (aw_region hT ?_)
  refine aw_cond (boolI (fun h => ?_) (fun h => ?_))
  · have h : (D.may f == 0) = false := by
      have h : (D.may f != 0) = true := h
      simpa using h
    have e : D.fault f = (D.may f, D) := by unfold Dev.fault; rw [h]
    refine aw_seq (aw_region hT ?_)
    refine aw_ret ?_
    rw [e]
    exact retPick [0, 1, 2] ⟨rfl, rfl⟩ rfl
  have h : (D.may f == 0) = true := by
    have h : (D.may f != 0) = false := h
    simpa using h
  have e : D.fault f = (0, D.hurt f) := by unfold Dev.fault; rw [h]
  have hm := may_ok (show D.may f = 0 by simpa using h)
  rw [e]
  refine aw_skip ?_
  refine aw_seq (aw_region hT ?_)
  obtain ⟨k, fa, fo, fn, ft, f0, f1, f2, f3⟩ := f
  have hw : D.waitsIn := fun x hx => hD.at_ x hx
  have hn : D.waits.length ≤ 1000000 := Nat.le_trans hD.wl hb
  have hcs : ∀ c ∈ (D.settle fa).cells, c.s.length ≤ 1000000 := fun c hc => by rw [(hD.settle fa).cs c hc]; omega
  have hml : ∀ c ∈ D.cells, c.miss.length ≤ 1000000 := fun c hc => Nat.le_trans (hD.ml c hc) hb
  have hk : k = 1 ∨ k = 2 ∨ k = 3 ∨ k = 4 ∨ k = 5 := by have := hm.2.1; simp only at this; omega
  rcases hk with rfl | rfl | rfl | rfl | rfl
  · refine aw_seq (aw_region hT ?_)
    refine callP (af_in [0, 1, 2] (disk_rot D ⟨1, fa, fo, fn, ft, f0, f1, f2, f3⟩ hw hn hm.1 (hm.2.2.1 rfl).1 (hm.2.2.1 rfl).2 hcs) rfl rfl rfl) ?_
    refine aw_seq (aw_region hT ?_)
    refine aw_ret ?_
    exact retPick [0, 1, 2] ⟨rfl, rfl⟩ rfl
  · refine aw_seq (aw_region hT ?_)
    refine callP (af_in [0, 1, 2] (disk_blank D ⟨2, fa, fo, fn, ft, f0, f1, f2, f3⟩ hw hn hm.1) rfl rfl rfl) ?_
    refine aw_seq (aw_region hT ?_)
    refine aw_ret ?_
    exact retPick [0, 1, 2] ⟨rfl, rfl⟩ rfl
  · refine aw_seq (aw_region hT ?_)
    refine callP (af_in [0, 1, 2] (disk_lose D ⟨3, fa, fo, fn, ft, f0, f1, f2, f3⟩ hw hn hm.1) rfl rfl rfl) ?_
    refine aw_seq (aw_region hT ?_)
    refine aw_ret ?_
    exact retPick [0, 1, 2] ⟨rfl, rfl⟩ rfl
  · refine aw_seq (aw_region hT ?_)
    refine callP (af_in [0, 1, 2] (disk_drop D ⟨4, fa, fo, fn, ft, f0, f1, f2, f3⟩ hm.1) rfl rfl rfl) ?_
    refine aw_seq (aw_region hT ?_)
    refine aw_ret ?_
    exact retPick [0, 1, 2] ⟨rfl, rfl⟩ rfl
  · refine aw_seq (aw_region hT ?_)
    refine callP (af_in [0, 1, 2] (disk_miss D ⟨5, fa, fo, fn, ft, f0, f1, f2, f3⟩ hm.1 hml) rfl rfl rfl) ?_
    refine aw_seq (aw_region hT ?_)
    refine aw_ret ?_
    exact retPick [0, 1, 2] ⟨rfl, rfl⟩ rfl
end Go.Proofs.YtinfbclgkghgaaaGreat.AL

/- The law's helpers: a sector of one byte; are two the same. -/
namespace Go.Proofs.YtinfbclgkghgaaaGreat.AL
open Go Go.Proofs

def sect (b : UInt8) : Bytes := List.replicate 256 b
theorem ref04_Same (s t : Bytes) (hs : s.length ≤ 1000000) : AF Tryz.prog f_ref04_Same [bA s, bA t] [] (Pure (bl (s == t)) []) := by
  refine af_body hT F_ref04_Same rfl rfl N_ref04_Same rfl ?_
  refine aw_seq (aw_region hT ?_)
  refine aw_seq (aw_seq (aw_region hT ?_))
  refine aw_cond (boolI (fun h => ?_) (fun h => ?_))
  · have hne : (s == t) = false := by
      have h : (((bx s).length : Int) != ((bx t).length : Int)) = true := h
      rw [bx_len, bx_len] at h
      rw [beq_eq_false_iff_ne]
      rintro rfl
      simp at h
    refine aw_seq (aw_region hT ?_)
    refine aw_ret ?_
    rw [hne]
    exact retPick [] ⟨rfl, rfl⟩ rfl
  have hlen : s.length = t.length := by
    have h : (((bx s).length : Int) != ((bx t).length : Int)) = false := h
    rw [bx_len, bx_len] at h
    have h : (s.length : Int) = t.length := by simpa using h
    omega
  refine aw_skip ?_
  refine aw_seq (aw_seq (aw_region hT ?_))
  refine aw_block ?_
  refine aw_loopW (fun n st => ∃ (i : Nat) (j : Int), n + i = s.length ∧ j = i ∧ s.take i = t.take i ∧ st = ⟨⟨26, [(0, bA s), (1, bA t), (5, i64 j)]⟩, []⟩) s.length ⟨⟨26, _⟩, []⟩ (wk_pick [] [0, 1, 5] rfl) ⟨0, _, rfl, rfl, rfl, rfl⟩ ?_
  rintro n st ⟨i, j, hni, rfl, ht, rfl⟩
  refine aw_seq (aw_seq (aw_region hT ?_))
  refine aw_cond (boolI (fun h => ?_) (fun h => ?_))
  · have hi : i < s.length := by
      have := of_decide_eq_true (show decide ((i : Int) < ((bx s).length : Int)) = true from h)
      rw [bx_len] at this; omega
    have hx : (bx s)[((i : Nat) : Int).toNat]? = some [u8 s[i]] := by
      rw [Int.toNat_natCast, bx, List.getElem?_map, List.getElem?_eq_getElem hi]; rfl
    have hy : (bx t)[((i : Nat) : Int).toNat]? = some [u8 (t[i]'(by omega))] := by
      rw [Int.toNat_natCast, bx, List.getElem?_map, List.getElem?_eq_getElem (by omega)]; rfl
    refine aw_skip ?_
    refine aw_seq (aw_block (aw_seq ?_))
    refine aw_draw [] [] hT follows_mixed (by rfl) ?_
    refine ⟨Int.natCast_nonneg _, optI hx ?_⟩
    refine ⟨Int.natCast_nonneg _, optI hy ?_⟩
    refine aw_cond (boolI (fun h2 => ?_) (fun h2 => ?_))
    · have hne : (s == t) = false := by
        rw [beq_eq_false_iff_ne]
        rintro rfl
        have h2 : (((s[i].toNat : Nat) : Int) != ((s[i].toNat : Nat) : Int)) = true := h2
        simp at h2
      refine aw_seq (aw_region hT ?_)
      refine aw_ret ?_
      rw [hne]
      exact retPick [] ⟨rfl, rfl⟩ rfl
    · have he : s[i] = t[i]'(by omega) := by
        have h2 : (((s[i].toNat : Nat) : Int) != (((t[i]'(by omega)).toNat : Nat) : Int)) = false := h2
        have h2 : (s[i].toNat : Int) = ((t[i]'(by omega)).toNat : Int) := by simpa using h2
        have h2 : s[i].toNat = (t[i]'(by omega)).toNat := by omega
        exact UInt8.toNat_inj.mp h2
      refine aw_skip ?_
      refine aw_region hT ?_
      refine ⟨n - 1, by omega, _, wk_pick [] [0, 1, 5] rfl, i + 1, IntKind.i64.wrap ((i : Int) + 1), by omega, ?_, ?_, rfl⟩
      · rw [wrap64 _ (by omega) (by omega)]; rfl
      · rw [List.take_add_one, List.take_add_one, ht, List.getElem?_eq_getElem hi, List.getElem?_eq_getElem (show i < t.length by omega), he]
  · refine aw_exit ?_
    have hi : i = s.length := by
      have := of_decide_eq_false (show decide ((i : Int) < ((bx s).length : Int)) = false from h)
      rw [bx_len] at this; omega
    have he : (s == t) = true := by
      rw [beq_iff_eq]
      rw [hi, List.take_length, hlen, List.take_length] at ht
      exact ht
    refine aw_seq (aw_region hT ?_)
    refine aw_ret ?_
    rw [he]
    exact retPick [] ⟨rfl, rfl⟩ rfl
end Go.Proofs.YtinfbclgkghgaaaGreat.AL

/- A device stays well. -/
namespace Go.Proofs.YtinfbclgkghgaaaGreat.AL
open Go Go.Proofs

theorem Dev.Ok.mono {D : Dev} {b b' : Nat} (h : D.Ok b) (hb : b ≤ b') : D.Ok b' :=
  ⟨h.at_, h.ws, h.cs, h.mt, fun c hc => Nat.le_trans (h.ml c hc) hb, Nat.le_trans h.wl hb⟩
theorem ok_new (n b : Nat) : (Dev.new n).Ok b := by
  refine ⟨fun x hx => by simp [Dev.new] at hx, fun x hx => by simp [Dev.new] at hx, fun c hc => ?_, fun c hc t ht => ?_, fun c hc => ?_, Nat.zero_le _⟩
  · rw [List.eq_of_mem_replicate hc]; exact List.length_replicate
  · rw [List.eq_of_mem_replicate hc] at ht; simp at ht
  · rw [List.eq_of_mem_replicate hc]; exact Nat.zero_le _
theorem Dev.Ok.lives {D : Dev} {b : Nat} (h : D.Ok b) : D.lives.Ok b := ⟨h.at_, h.ws, h.cs, h.mt, h.ml, h.wl⟩
theorem Dev.Ok.count {D : Dev} {b : Nat} (h : D.Ok b) : D.count.Ok b := ⟨h.at_, h.ws, h.cs, h.mt, h.ml, h.wl⟩
theorem Dev.Ok.read {D : Dev} {b : Nat} (h : D.Ok b) (a : Int) : (D.read a).2.Ok b := by
  unfold Dev.read
  split
  · exact h
  · split
    · exact h
    · exact h.count

theorem crashC_mem {W : List Wr} {keep : List Bool} {C : List Cell} {i : Nat} {c : Cell} (h : c ∈ crashC W keep i C) (hi : i ≤ W.length) : ∃ c0 ∈ C, c.miss = c0.miss ∧ (c.s = c0.s ∨ ∃ x ∈ W, c.s = x.s) := by
  induction i generalizing c with
  | zero => exact ⟨c, h, rfl, .inl rfl⟩
  | succ i ih =>
    unfold crashC at h
    split at h
    · have hx : W.getD i ⟨0, []⟩ ∈ W := by
        rw [List.getD_eq_getElem?_getD, List.getElem?_eq_getElem (by omega)]
        exact List.getElem_mem _
      rcases doneL_mem h with h | ⟨c0, h0, e⟩
      · exact ih h (by omega)
      · obtain ⟨c1, g1, g2, _⟩ := ih h0 (by omega)
        refine ⟨c1, g1, by rw [e]; exact g2, .inr ⟨_, hx, by rw [e]⟩⟩
    · exact ih h (by omega)

theorem Dev.Ok.drain {D : Dev} {b : Nat} (h : D.Ok b) (keep : List Bool) : (D.drain keep).Ok b := by
  have hl : (D.drain keep).cells.length = D.cells.length := crashC_len _ _ _ _
  refine ⟨fun x hx => by simp [Dev.drain] at hx, fun x hx => by simp [Dev.drain] at hx, fun c hc => ?_, fun c hc t ht => ?_, fun c hc => ?_, Nat.zero_le _⟩
  · obtain ⟨c0, h0, _, h2⟩ := crashC_mem hc (Nat.le_refl _)
    rcases h2 with h2 | ⟨x, hx, h2⟩
    · rw [h2]; exact h.cs c0 h0
    · rw [h2]; exact h.ws x hx
  · obtain ⟨c0, h0, h1, _⟩ := crashC_mem hc (Nat.le_refl _)
    rw [h1] at ht; rw [hl]; exact h.mt c0 h0 t ht
  · obtain ⟨c0, h0, h1, _⟩ := crashC_mem hc (Nat.le_refl _)
    rw [h1]; exact h.ml c0 h0
theorem Dev.Ok.crashed {D : Dev} {b : Nat} (h : D.Ok b) (keep : List Bool) : (D.crashed keep).Ok b := by
  have h := h.drain keep
  exact ⟨h.at_, h.ws, h.cs, h.mt, h.ml, h.wl⟩
theorem Dev.Ok.flush {D : Dev} {b : Nat} (h : D.Ok b) : D.flush.2.Ok b := by
  unfold Dev.flush
  split
  · exact h
  · split
    · exact h.lives
    · exact h.lives.drain _

/-- A cell is changed. -/
theorem Dev.Ok.set {D : Dev} {b : Nat} (h : D.Ok b) (i : Nat) {c : Cell} (h1 : c.s.length = 256) (h2 : ∀ t ∈ c.miss, 0 ≤ t ∧ t < (D.cells.length : Int)) (h3 : c.miss.length ≤ b) : ({ D with cells := D.cells.set i c } : Dev).Ok b := by
  have hm : ∀ x ∈ D.cells.set i c, x ∈ D.cells ∨ x = c := fun x hx => List.mem_or_eq_of_mem_set hx
  refine ⟨fun x hx => by show _ ∧ _ < ((D.cells.set i c).length : Int); rw [List.length_set]; exact h.at_ x hx, h.ws, fun x hx => ?_, fun x hx t ht => ?_, fun x hx => ?_, h.wl⟩
  · rcases hm x hx with hx | rfl
    · exact h.cs x hx
    · exact h1
  · show _ ∧ _ < ((D.cells.set i c).length : Int)
    rw [List.length_set]
    rcases hm x hx with hx | rfl
    · exact h.mt x hx t ht
    · exact h2 t ht
  · rcases hm x hx with hx | rfl
    · exact h.ml x hx
    · exact h3
theorem Dev.Ok.wait {D : Dev} {b : Nat} (h : D.Ok b) {x : Wr} (h1 : 0 ≤ x.at_ ∧ x.at_ < (D.cells.length : Int)) (h2 : x.s.length = 256) : ({ D with waits := D.waits ++ [x] } : Dev).Ok (b + 1) := by
  have hm : ∀ y ∈ D.waits ++ [x], y ∈ D.waits ∨ y = x := fun y hy => by simpa using hy
  refine ⟨fun y hy => ?_, fun y hy => ?_, h.cs, h.mt, fun c hc => Nat.le_succ_of_le (h.ml c hc), ?_⟩
  · rcases hm y hy with hy | rfl
    · exact h.at_ y hy
    · exact h1
  · rcases hm y hy with hy | rfl
    · exact h.ws y hy
    · exact h2
  · show (D.waits ++ [x]).length ≤ b + 1
    have := h.wl
    simp; omega

theorem Dev.Ok.put {D : Dev} {b : Nat} (h : D.Ok b) {a : Int} (ha : D.has a = true) {s : Bytes} (hs : s.length = 256) : (D.put a s).Ok (b + 1) := by
  have hlt := has_iff ha
  obtain ⟨c, hc, _⟩ := cell_get D ha
  have hcm := List.mem_of_getElem? hc
  obtain ⟨c1, c2, c3, c4⟩ := c
  cases h3 : decide (c3 > 0) with
  | true =>
    rw [put_drop hc h3]
    exact (h.set a.toNat (c := ⟨c1, c2, IntKind.i64.wrap (c3 - 1), c4⟩) (h.cs ⟨c1, c2, c3, c4⟩ hcm) (h.mt ⟨c1, c2, c3, c4⟩ hcm) (h.ml ⟨c1, c2, c3, c4⟩ hcm)).mono (Nat.le_succ _)
  | false =>
    cases c4 with
    | nil =>
      rw [put_plain hc h3]
      exact h.wait hlt.2 hs
    | cons t r =>
      rw [put_miss hc h3]
      have ht := h.mt _ hcm t (by simp)
      have h1 := h.set a.toNat (c := ⟨c1, c2, c3, r⟩) (h.cs ⟨c1, c2, c3, t :: r⟩ hcm) (fun t' ht' => h.mt _ hcm t' (by simp [ht'])) (Nat.le_trans (Nat.le_succ _) (h.ml _ hcm))
      exact h1.wait (x := ⟨t, s⟩) (by show _ ∧ _ < ((D.cells.set _ _).length : Int); rw [List.length_set]; exact ht) hs

theorem Dev.Ok.write {D : Dev} {b : Nat} (h : D.Ok b) (a : Int) (s : Bytes) : (D.write a s).2.Ok (b + 1) := by
  unfold Dev.write
  split
  · exact h.mono (Nat.le_succ _)
  split
  · exact h.mono (Nat.le_succ _)
  rename_i ha
  split
  · exact h.mono (Nat.le_succ _)
  rename_i hs
  split
  · exact h.lives.mono (Nat.le_succ _)
  · have hs : (s.length : Int) = 256 := by simpa using hs
    exact h.lives.count.put (a := a) ha (by omega)

theorem Dev.Ok.upd {D : Dev} {b : Nat} (h : D.Ok b) {a : Int} (ha : D.has a = true) (g : Cell → Cell) (h1 : ∀ c ∈ D.cells, (g c).s.length = 256) (h2 : ∀ c ∈ D.cells, ∀ t ∈ (g c).miss, 0 ≤ t ∧ t < (D.cells.length : Int)) (h3 : ∀ c ∈ D.cells, (g c).miss.length ≤ b) : (D.upd a g).Ok b := by
  obtain ⟨c, hc, _⟩ := cell_get D ha
  have hcm := List.mem_of_getElem? hc
  unfold Dev.upd
  rw [modify_some g hc]
  exact h.set a.toNat (h1 c hcm) (h2 c hcm) (h3 c hcm)

theorem Dev.Ok.fault {D : Dev} {b : Nat} (h : D.Ok b) (f : Flt) : (D.fault f).2.Ok (b + 1) := by
  unfold Dev.fault
  split
  · exact h.mono (Nat.le_succ _)
  rename_i hm
  have hm := may_ok (show D.may f = 0 by simpa using hm)
  have hs := h.settle f.at_
  have ha : (D.settle f.at_).has f.at_ = true := (settle_has D f.at_ f.at_).trans hm.1
  unfold Dev.hurt
  split
  · exact (hs.upd ha (fun c => { c with s := rotB f c.s 4 }) (fun c hc => (rotB_len f c.s 4).trans (hs.cs c hc)) (fun c hc => hs.mt c hc) (fun c hc => hs.ml c hc)).mono (Nat.le_succ _)
  split
  · exact (hs.upd ha (fun c => { c with s := zeros, lost := false }) (fun c hc => List.length_replicate) (fun c hc => hs.mt c hc) (fun c hc => hs.ml c hc)).mono (Nat.le_succ _)
  split
  · exact (hs.upd ha (fun c => { c with lost := true }) (fun c hc => hs.cs c hc) (fun c hc => hs.mt c hc) (fun c hc => hs.ml c hc)).mono (Nat.le_succ _)
  split
  · exact (h.upd hm.1 (fun c => { c with drop := IntKind.i64.wrap (c.drop + f.n) }) (fun c hc => h.cs c hc) (fun c hc => h.mt c hc) (fun c hc => h.ml c hc)).mono (Nat.le_succ _)
  · have h5 : f.kind = 5 := by omega
    have hto := has_iff (hm.2.2.2.2 h5)
    refine (h.mono (Nat.le_succ _)).upd hm.1 (fun c => { c with miss := c.miss ++ [f.to] }) (fun c hc => h.cs c hc) (fun c hc t ht => ?_) (fun c hc => ?_)
    · rcases List.mem_append.1 ht with ht | ht
      · exact h.mt c hc t ht
      · have : t = f.to := by simpa using ht
        rw [this]; exact hto.2
    · have := h.ml c hc
      simp; omega
end Go.Proofs.YtinfbclgkghgaaaGreat.AL

/- The law of layer 06: has; its examples. -/
namespace Go.Proofs.YtinfbclgkghgaaaGreat.AL
open Go Go.Proofs

def Dev.holds (D : Dev) (a : Int) (b : UInt8) : Bool := match (D.read a).1.2 == 0 with | true => (D.read a).1.1 == sect b | false => false

theorem Dev.Ok.big {D : Dev} {b : Nat} (h : D.Ok b) (hb : b ≤ 1000000) : D.waitsIn ∧ D.waits.length ≤ 1000000 ∧ (∀ x ∈ D.waits, x.s.length ≤ 1000000) ∧ (∀ c ∈ D.cells, c.s.length ≤ 1000000) :=
  ⟨h.at_, Nat.le_trans h.wl hb, fun x hx => by rw [h.ws x hx]; omega, fun c hc => by rw [h.cs c hc]; omega⟩

end Go.Proofs.YtinfbclgkghgaaaGreat.AL

/- The check of bytes: bit by bit, and by steps of eight bits; that a run of changed bytes is seen. -/
namespace Go.Proofs.YtinfbclgkghgaaaGreat.AL
namespace Crc

abbrev W := BitVec 32
def poly : W := 0x82F63B78#32
/-- One bit. -/
def st (n : W) : W := (n >>> 1) ^^^ (match n.getLsbD 0 with | true => poly | false => 0#32)
def stN : Nat → W → W
  | 0, n => n
  | k + 1, n => stN k (st n)

theorem st_xor (a b : W) : st (a ^^^ b) = st a ^^^ st b := by
  unfold st
  rw [BitVec.ushiftRight_xor_distrib, BitVec.getLsbD_xor]
  cases a.getLsbD 0 <;> cases b.getLsbD 0
  · simp
  · simp [BitVec.xor_assoc]
  · simp only [Bool.xor_false, BitVec.xor_zero]
    rw [BitVec.xor_assoc, BitVec.xor_assoc, BitVec.xor_comm (b >>> 1)]
  · show (a >>> 1 ^^^ b >>> 1) ^^^ 0#32 = (a >>> 1 ^^^ poly) ^^^ (b >>> 1 ^^^ poly)
    rw [BitVec.xor_zero, BitVec.xor_assoc (a >>> 1), ← BitVec.xor_assoc poly, BitVec.xor_comm poly (b >>> 1), BitVec.xor_assoc (b >>> 1), BitVec.xor_self, BitVec.xor_zero]
theorem stN_xor : ∀ (k : Nat) (a b : W), stN k (a ^^^ b) = stN k a ^^^ stN k b
  | 0, _, _ => rfl
  | k + 1, a, b => by rw [stN, stN, stN, st_xor, stN_xor k]
theorem stN_add : ∀ (j k : Nat) (n : W), stN (j + k) n = stN k (stN j n)
  | 0, k, n => by rw [Nat.zero_add]; rfl
  | j + 1, k, n => by rw [Nat.add_right_comm]; exact stN_add j k (st n)
theorem st_even {n : W} (h : n.getLsbD 0 = false) : st n = n >>> 1 := by unfold st; rw [h]; simp
theorem stN_low : ∀ (k : Nat) {n : W}, (∀ i, i < k → n.getLsbD i = false) → stN k n = n >>> k
  | 0, n, _ => by simp [stN]
  | k + 1, n, h => by
    rw [stN, st_even (h 0 (by omega)), stN_low k (fun i hi => by rw [BitVec.getLsbD_ushiftRight]; exact h (1 + i) (by omega)), ← BitVec.shiftRight_add, Nat.add_comm k 1]

theorem bits_255 (i : Nat) : (255#32).getLsbD i = decide (i < 8) := by
  by_cases h : i < 32
  · have : ∀ j : Fin 32, (255#32).getLsbD j.val = decide (j.val < 8) := by decide
    exact this ⟨i, h⟩
  · rw [BitVec.getLsbD_of_ge _ _ (by omega), decide_eq_false (by omega)]
theorem st8_low (n : W) : stN 8 (n ^^^ (n &&& 255#32)) = n >>> 8 := by
  rw [stN_low 8 (fun i hi => by rw [BitVec.getLsbD_xor, BitVec.getLsbD_and, bits_255, decide_eq_true hi, Bool.and_true, Bool.xor_self])]
  apply BitVec.eq_of_getLsbD_eq
  intro i hi
  rw [BitVec.getLsbD_ushiftRight, BitVec.getLsbD_ushiftRight, BitVec.getLsbD_xor, BitVec.getLsbD_and, bits_255, decide_eq_false (by omega), Bool.and_false, Bool.xor_false]
/-- A byte, as it is fed. -/
def wd (c : UInt8) : W := BitVec.ofNat 32 c.toNat
def feed (n : W) (c : UInt8) : W := stN 8 (n ^^^ wd c)
def run (n : W) (l : List UInt8) : W := l.foldl feed n
def all1 : W := 0xFFFFFFFF#32
/-- The sum of bytes. -/
def sum (l : List UInt8) : W := run all1 l ^^^ all1
theorem run_append (n : W) (l r : List UInt8) : run n (l ++ r) = run (run n l) r := List.foldl_append
theorem run_snoc (n : W) (l : List UInt8) (c : UInt8) : run n (l ++ [c]) = feed (run n l) c := by rw [run_append]; rfl
/-! The steps can be turned back. -/
/-! Four bytes are a word. -/
/-! What two runs differ in. -/
theorem wd_xor (a b : UInt8) : wd (a ^^^ b) = wd a ^^^ wd b := by
  unfold wd
  rw [UInt8.toNat_xor]
  apply BitVec.eq_of_getLsbD_eq
  intro i hi
  simp [hi]
end Crc
end Go.Proofs.YtinfbclgkghgaaaGreat.AL

/- The check of bytes: the steps of eight bits are made. -/
namespace Go.Proofs.YtinfbclgkghgaaaGreat.AL
open Go Go.Proofs Go.Proofs.YtinfbclgkghgaaaGreat.AL.Crc

abbrev u32 (x : W) : PV := .raw (.int .u32 (x.toNat : Int))
theorem w_ofInt (x : W) : BitVec.ofInt 32 (x.toNat : Int) = x := by
  apply BitVec.eq_of_toNat_eq
  rw [BitVec.toNat_ofInt]
  have := x.isLt
  omega
theorem w_wrap (x : W) : IntKind.u32.wrap (x.toNat : Int) = (x.toNat : Int) := by
  have := x.isLt
  have e : ∀ n : Int, IntKind.u32.wrap n = n % 4294967296 := fun n => by simp [IntKind.wrap, IntKind.bits, IntKind.signed]
  rw [e]; omega
theorem w_nat (n : Nat) : IntKind.u32.wrap (n : Int) = ((BitVec.ofNat 32 n).toNat : Int) := by
  have e : ∀ n : Int, IntKind.u32.wrap n = n % 4294967296 := fun n => by simp [IntKind.wrap, IntKind.bits, IntKind.signed]
  rw [e, BitVec.toNat_ofNat]; omega
theorem w_xor (x y : W) : IntKind.u32.wrap ((BitVec.ofInt 32 (x.toNat : Int) ^^^ BitVec.ofInt 32 (y.toNat : Int)).toNat : Int) = ((x ^^^ y).toNat : Int) := by rw [w_ofInt, w_ofInt, w_wrap]
theorem w_shr (x : W) (k : Nat) (hk : k ≤ 32) : ((x.toNat : Int).fdiv (2 ^ (min ((k : Nat) : Int).toNat 32))) = ((x >>> k).toNat : Int) := by
  rw [Int.toNat_natCast, Nat.min_eq_left hk, BitVec.toNat_ushiftRight, Nat.shiftRight_eq_div_pow]
  rw [Int.fdiv_eq_ediv_of_nonneg _ (Int.pow_nonneg (by omega))]
  rw [Int.natCast_ediv, Int.natCast_pow]; rfl
/-- The last bit. -/
theorem w_odd (x : W) : (IntKind.u32.wrap ((BitVec.ofInt 32 (x.toNat : Int) &&& BitVec.ofInt 32 1).toNat : Int) == 1) = x.getLsbD 0 := by
  rw [w_ofInt, show BitVec.ofInt 32 1 = 1#32 by decide, w_wrap]
  have e : (x &&& 1#32).toNat = x.toNat % 2 := by
    rw [BitVec.toNat_and]; exact Nat.and_one_is_mod x.toNat
  rw [e, ← BitVec.testBit_toNat, Nat.testBit_zero]
  rcases Nat.mod_two_eq_zero_or_one x.toNat with h | h <;> rw [h] <;> decide
theorem st_step (x : W) : st x = match x.getLsbD 0 with | true => (x >>> 1) ^^^ poly | false => x >>> 1 := by
  unfold st
  cases x.getLsbD 0 with
  | true => rfl
  | false => exact BitVec.xor_zero
theorem stN_step (k : Nat) (n : W) : stN (k + 1) n = st (stN k n) := stN_add k 1 n

def tabE (j : Nat) : W := stN 8 (BitVec.ofNat 32 j)
def tabL (N i : Nat) : List PV := (List.range i).map (fun j => u32 (tabE j)) ++ List.replicate (N - i) (u32 0)
def tabR (N i : Nat) : List (List PV) := (tabL N i).map fun p => [p]
theorem tabL_set {N i : Nat} (h : i < N) : (tabL N i).set i (u32 (tabE i)) = tabL N (i + 1) := by
  unfold tabL
  rw [List.set_append_right _ _ (by simp), List.length_map, List.length_range, Nat.sub_self, show N - i = (N - (i + 1)) + 1 by omega, List.replicate_succ, List.set_cons_zero, List.range_succ, List.map_append]
  simp
theorem tabR_set {N i : Nat} (h : i < N) : (tabR N i).set i [u32 (tabE i)] = tabR N (i + 1) := by
  unfold tabR; rw [← tabL_set h, List.map_set]
theorem tabR_get {N j : Nat} (h : j < N) : (tabR N N)[j]? = some [u32 (tabE j)] := by
  unfold tabR tabL
  rw [Nat.sub_self, List.replicate_zero, List.append_nil, List.getElem?_map, List.getElem?_map, List.getElem?_range h]; rfl
theorem tabR_some {N i : Nat} (h : i < N) : ∃ x, (tabR N i)[i]? = some [x] := by
  unfold tabR
  rw [List.getElem?_map, List.getElem?_eq_getElem (by simp [tabL]; omega)]
  exact ⟨_, rfl⟩

set_option maxRecDepth 20000 in
theorem crc_made : AF Tryz.prog f_crc_made [] [] (Pure (.elr 0 1 0 0) [.row t_crc_steps 1 (tabR 256 256)]) := by
  refine af_body hT F_crc_made rfl rfl N_crc_made rfl ?_
  refine aw_seq (aw_region hT ?_)
  refine aw_seq (aw_region hT ?_)
  refine aw_wk (Wk.trans (wk_elr 1 0 1 rfl) (wk_arr 0 (List.replicate 256 (u32 0)) rfl rfl rfl)) ?_
  obtain ⟨N, hN⟩ : ∃ N : Nat, N = 256 := ⟨_, rfl⟩
  rw [← hN]
  refine aw_seq (aw_seq (aw_region hT ?_))
  refine aw_block ?_
  refine aw_loopW (fun n s => ∃ (i : Nat) (j : Int), n + i = N ∧ j = i ∧ s = ⟨⟨25, [(1, .elr 0 1 0 0), (5, i64 j)]⟩, [.row t_crc_steps 1 (tabR N i)]⟩) N ⟨⟨25, _⟩, [_]⟩ (wk_pick [0] [1, 5] rfl) ⟨0, 0, rfl, rfl, by unfold tabR tabL; rfl⟩ ?_
  rintro n s ⟨i, j, hni, rfl, rfl⟩
  refine aw_seq (aw_region hT ?_)
  refine aw_seq (aw_cond (boolI (fun h => ?_) (fun h => ?_)))
  · have hi : i < N := by
      have := of_decide_eq_true (show decide ((i : Int) < 256) = true from h)
      omega
    refine aw_skip ?_
    refine aw_cut ⟨⟨25, [(1, .elr 0 1 0 0), (5, i64 i)]⟩, [.row t_crc_steps 1 (tabR N (i + 1))]⟩ True (aw_block ?_) (fun _ => ?_)
    · refine aw_seq (aw_region hT ?_)
      refine aw_seq (aw_region hT ?_)
      refine aw_cut ⟨⟨25, [(1, .elr 0 1 0 0), (2, i64 i), (3, .p (u32 (tabE i))), (5, i64 i)]⟩, [.row t_crc_steps 1 (tabR N i)]⟩ True (aw_seq (aw_region hT ?_)) (fun _ => ?_)
      · refine aw_block ?_
        refine aw_loopW (fun n s => ∃ (k : Nat) (j v : Int), n + k = 8 ∧ j = k ∧ v = ((stN k (BitVec.ofNat 32 i)).toNat : Int) ∧ s = ⟨⟨25, [(1, .elr 0 1 0 0), (2, i64 i), (3, .p (.raw (.int .u32 v))), (5, i64 i), (10, i64 j)]⟩, [.row t_crc_steps 1 (tabR N i)]⟩) 8 ⟨⟨25, _⟩, [_]⟩ (wk_pick [0] [1, 2, 3, 5, 10] rfl) ⟨0, 0, _, rfl, rfl, w_nat i, rfl⟩ ?_
        rintro m s ⟨k, j, v, hmk, rfl, hv, rfl⟩
        refine aw_seq (aw_region hT ?_)
        refine aw_seq (aw_cond (boolI (fun h => ?_) (fun h => ?_)))
        · have hk : k < 8 := by
            have := of_decide_eq_true (show decide ((k : Int) < 8) = true from h)
            omega
          refine aw_skip ?_
          refine aw_cut ⟨⟨25, [(1, .elr 0 1 0 0), (2, i64 i), (3, .p (u32 (stN (k + 1) (BitVec.ofNat 32 i)))), (5, i64 i), (10, i64 k)]⟩, [.row t_crc_steps 1 (tabR N i)]⟩ True (aw_block ?_) (fun _ => ?_)
          · rw [stN_step, st_step]
            subst hv
            generalize stN k (BitVec.ofNat 32 i) = x
            refine aw_seq (aw_region hT ?_)
            refine aw_seq (aw_region hT ?_)
            refine aw_seq (aw_region hT ?_)
            refine aw_cond (boolI (fun h => ?_) (fun h => ?_))
            · have h : (IntKind.u32.wrap ((BitVec.ofInt 32 (x.toNat : Int) &&& BitVec.ofInt 32 1).toNat : Int) == 1) = true := h
              rw [w_odd] at h
              refine aw_region hT ?_
              rw [h]
              have e : (((x >>> 1) ^^^ poly).toNat : Int) = IntKind.u32.wrap ((BitVec.ofInt 32 ((x.toNat : Int).fdiv (2 ^ (min ((1 : Nat) : Int).toNat 32))) ^^^ BitVec.ofInt 32 2197175160).toNat : Int) := by
                rw [w_shr x 1 (by omega), w_ofInt, show BitVec.ofInt 32 2197175160 = poly by decide, w_wrap]
              show Wk _ _ ⟨⟨25, [(1, _), (2, _), (3, .p (.raw (.int .u32 (((x >>> 1) ^^^ poly).toNat : Int)))), (5, _), (10, _)]⟩, _⟩ ∧ True
              rw [e]
              exact ⟨wk_pick [0] [1, 2, 3, 5, 10] rfl, trivial⟩
            · have h : (IntKind.u32.wrap ((BitVec.ofInt 32 (x.toNat : Int) &&& BitVec.ofInt 32 1).toNat : Int) == 1) = false := h
              rw [w_odd] at h
              refine aw_skip ?_
              rw [h]
              show Wk _ _ ⟨⟨25, [(1, _), (2, _), (3, .p (.raw (.int .u32 ((x >>> 1).toNat : Int)))), (5, _), (10, _)]⟩, _⟩ ∧ True
              rw [← w_shr x 1 (by omega)]
              exact ⟨wk_pick [0] [1, 2, 3, 5, 10] rfl, trivial⟩
          · refine aw_region hT ?_
            refine ⟨m - 1, by omega, _, wk_pick [0] [1, 2, 3, 5, 10] rfl, k + 1, IntKind.i64.wrap ((k : Int) + 1), _, by omega, ?_, rfl, rfl⟩
            rw [wrap64 _ (by omega) (by omega)]; rfl
        · have hk : ¬ (k : Int) < 8 := of_decide_eq_false h
          have hk8 : k = 8 := by omega
          subst hk8 hv
          refine aw_exit ?_
          exact ⟨wk_pick [0] [1, 2, 3, 5] rfl, trivial⟩
      · obtain ⟨x0, hx0⟩ := tabR_some hi
        refine aw_region hT ?_
        refine ⟨⟨Int.natCast_nonneg _, by omega⟩, ?_⟩
        have hx1 : (tabR N i)[0 + ((i : Nat) : Int).toNat]? = some [x0] := by rw [Nat.zero_add, Int.toNat_natCast]; exact hx0
        refine chkI rfl (optI hx1 ?_)
        rw [show tabR N (i + 1) = (tabR N i).set (0 + ((i : Nat) : Int).toNat) [u32 (tabE i)] by rw [Nat.zero_add, Int.toNat_natCast, tabR_set hi]]
        exact ⟨wk_pick [0] [1, 5] rfl, trivial⟩
    · refine aw_region hT ?_
      refine ⟨n - 1, by omega, _, wk_pick [0] [1, 5] rfl, i + 1, IntKind.i64.wrap ((i : Int) + 1), by omega, ?_, rfl⟩
      rw [wrap64 _ (by omega) (by omega)]; rfl
  · have hi : i = N := by
      have := of_decide_eq_false (show decide ((i : Int) < 256) = false from h)
      omega
    subst hi
    refine aw_exit ?_
    refine aw_seq (aw_region hT ?_)
    refine aw_ret ?_
    rw [hN]
    exact retPick [0] ⟨rfl, rfl⟩ rfl
end Go.Proofs.YtinfbclgkghgaaaGreat.AL

/- The check of bytes: sums; seals. -/
namespace Go.Proofs.YtinfbclgkghgaaaGreat.AL
open Go Go.Proofs Go.Proofs.YtinfbclgkghgaaaGreat.AL.Crc

theorem u8_wrapN (n : Nat) : IntKind.u8.wrap (n : Int) = ((UInt8.ofNat n).toNat : Int) := by
  rw [IntKind.wrap_u8, UInt8.toNat_ofNat']; omega
theorem tab_idx (x : W) (c : UInt8) : IntKind.u8.wrap ((BitVec.ofInt 8 (IntKind.u8.wrap (x.toNat : Int)) ^^^ BitVec.ofInt 8 (c.toNat : Int)).toNat : Int) = ((UInt8.ofNat x.toNat ^^^ c).toNat : Int) := by
  rw [u8_wrapN x.toNat, xor_u8]
theorem wd_low (x : W) : wd (UInt8.ofNat x.toNat) = x &&& 255#32 := by
  apply BitVec.eq_of_getLsbD_eq
  intro i hi
  unfold wd
  rw [BitVec.getLsbD_and, bits_255, BitVec.getLsbD_ofNat, decide_eq_true hi, Bool.true_and, UInt8.toNat_ofNat', show 2 ^ 8 = 2 ^ 8 from rfl, Nat.testBit_mod_two_pow, BitVec.testBit_toNat, Bool.and_comm]
theorem feed_tab (x : W) (c : UInt8) : feed x c = tabE (UInt8.ofNat x.toNat ^^^ c).toNat ^^^ (x >>> 8) := by
  unfold feed tabE
  rw [show BitVec.ofNat 32 (UInt8.ofNat x.toNat ^^^ c).toNat = wd (UInt8.ofNat x.toNat ^^^ c) from rfl, wd_xor, wd_low, ← st8_low, ← stN_xor]
  congr 1
  rw [BitVec.xor_assoc, BitVec.xor_comm (wd c), ← BitVec.xor_assoc, BitVec.xor_comm x (x &&& 255#32), ← BitVec.xor_assoc (x &&& 255#32), BitVec.xor_self, BitVec.zero_xor]

theorem bx_get {l : Bytes} {i : Nat} {c : UInt8} (h : l[i]? = some c) : (bx l)[i]? = some [u8 c] := by rw [bx, List.getElem?_map, h]; rfl

set_option maxRecDepth 20000 in
theorem crc_More (l : Bytes) (hl : l.length ≤ 1000000) : AF Tryz.prog f_crc_More [i64 0, bA l] [] (Pure (i64 ((sum l).toNat : Int)) []) := by
  obtain ⟨N, hN⟩ : ∃ N : Nat, N = 256 := ⟨_, rfl⟩
  have hm := crc_made
  rw [← hN] at hm
  refine af_body hT F_crc_More rfl rfl N_crc_More rfl ?_
  refine aw_seq (aw_region hT ?_)
  refine aw_seq (aw_region hT ?_)
  refine callP hm ?_
  refine aw_seq (aw_region hT ?_)
  refine aw_cut ⟨⟨34, [(6, .p (u32 (run all1 l)))]⟩, []⟩ True (aw_seq (aw_region hT ?_)) (fun _ => ?_)
  · refine aw_block ?_
    refine aw_loopW (fun n s => ∃ (i : Nat) (j v : Int), n + i = l.length ∧ j = i ∧ v = ((run all1 (l.take i)).toNat : Int) ∧ s = ⟨⟨34, [(5, .elr 0 1 0 0), (6, .p (.raw (.int .u32 v))), (13, bA l), (14, i64 l.length), (15, i64 j)]⟩, [.row t_crc_steps 1 (tabR N N)]⟩) l.length ⟨⟨34, _⟩, [_]⟩ (wk_pick [0] [5, 6, 13, 14, 15] rfl) ⟨0, 0, _, rfl, rfl, (by decide : IntKind.u32.wrap ((BitVec.ofInt 32 (IntKind.u32.wrap 0) ^^^ BitVec.ofInt 32 4294967295).toNat : Int) = (all1.toNat : Int)), by rw [← bx_len l]; rfl⟩ ?_
    rintro n s ⟨i, j, v, hni, rfl, hv, rfl⟩
    refine aw_seq (aw_region hT ?_)
    refine aw_seq (aw_cond (boolI (fun h => ?_) (fun h => ?_)))
    · have hi : i < l.length := by
        have := of_decide_eq_true (show decide ((i : Int) < (l.length : Int)) = true from h)
        omega
      have hx := List.getElem?_eq_getElem hi
      have htk : l.take (i + 1) = l.take i ++ [l[i]] := by rw [List.take_add_one, hx]; rfl
      generalize l[i] = c at hx htk
      have hxp : (bx l)[((i : Nat) : Int).toNat]? = some [u8 c] := by rw [Int.toNat_natCast]; exact bx_get hx
      have hrun : run all1 (l.take (i + 1)) = feed (run all1 (l.take i)) c := by rw [htk, run_snoc]
      subst hv
      generalize run all1 (l.take i) = x at hrun
      refine aw_skip ?_
      refine aw_cut ⟨⟨34, [(5, .elr 0 1 0 0), (6, .p (u32 (run all1 (l.take (i + 1))))), (13, bA l), (14, i64 l.length), (15, i64 i)]⟩, [.row t_crc_steps 1 (tabR N N)]⟩ True (aw_block (aw_seq (aw_region hT ?_))) (fun _ => ?_)
      · refine ⟨Int.natCast_nonneg _, optI hxp ?_⟩
        refine aw_region hT ?_
        have hy := tab_idx x c
        have hyl : (UInt8.ofNat x.toNat ^^^ c).toNat < 256 := UInt8.toNat_lt _
        rw [hrun, feed_tab]
        generalize UInt8.ofNat x.toNat ^^^ c = y at hy hyl
        refine ⟨?_, ?_⟩
        · show 0 ≤ IntKind.u8.wrap ((BitVec.ofInt 8 (IntKind.u8.wrap (x.toNat : Int)) ^^^ BitVec.ofInt 8 (c.toNat : Int)).toNat : Int) ∧ IntKind.u8.wrap ((BitVec.ofInt 8 (IntKind.u8.wrap (x.toNat : Int)) ^^^ BitVec.ofInt 8 (c.toNat : Int)).toNat : Int) < ((256 : Nat) : Int)
          rw [hy]; omega
        have hg : (tabR N N)[0 + (IntKind.u8.wrap ((BitVec.ofInt 8 (IntKind.u8.wrap (x.toNat : Int)) ^^^ BitVec.ofInt 8 (c.toNat : Int)).toNat : Int)).toNat]? = some [u32 (tabE y.toNat)] := by
          rw [hy, Nat.zero_add, Int.toNat_natCast]; exact tabR_get (by omega)
        refine chkI rfl (optI hg ?_)
        have e : (((tabE y.toNat) ^^^ (x >>> 8)).toNat : Int) = IntKind.u32.wrap ((BitVec.ofInt 32 ((tabE y.toNat).toNat : Int) ^^^ BitVec.ofInt 32 ((x.toNat : Int).fdiv (2 ^ (min ((8 : Nat) : Int).toNat 32)))).toNat : Int) := by
          rw [w_shr x 8 (by omega), w_xor]
        show Wk _ _ ⟨⟨34, [(5, _), (6, .p (.raw (.int .u32 (((tabE y.toNat) ^^^ (x >>> 8)).toNat : Int)))), (13, _), (14, _), (15, _)]⟩, _⟩ ∧ True
        rw [e]
        exact ⟨wk_pick [0] [5, 6, 13, 14, 15] rfl, trivial⟩
      · refine aw_region hT ?_
        refine ⟨n - 1, by omega, _, wk_pick [0] [5, 6, 13, 14, 15] rfl, i + 1, IntKind.i64.wrap ((i : Int) + 1), _, by omega, ?_, rfl, rfl⟩
        rw [wrap64 _ (by omega) (by omega)]; rfl
    · have hi : ¬ (i : Int) < (l.length : Int) := of_decide_eq_false h
      have hil : i = l.length := by omega
      subst hil hv
      rw [List.take_length]
      refine aw_exit ?_
      exact ⟨wk_pick [] [6] rfl, trivial⟩
  · refine aw_seq (aw_region hT ?_)
    refine aw_ret ?_
    refine retPick [] ⟨?_, rfl⟩ rfl
    show AV.p (.raw (.int .i64 (IntKind.i64.wrap (IntKind.u32.wrap ((BitVec.ofInt 32 ((run all1 l).toNat : Int) ^^^ BitVec.ofInt 32 4294967295).toNat : Int))))) = _
    rw [show (4294967295 : Int) = (all1.toNat : Int) by decide, w_xor]
    have := (run all1 l ^^^ all1).isLt
    rw [wrap64 _ (by omega) (by omega)]
    rfl
theorem crc_Sum (l : Bytes) (hl : l.length ≤ 1000000) : AF Tryz.prog f_crc_Sum [bA l] [] (Pure (i64 ((sum l).toNat : Int)) []) := by
  refine af_body hT F_crc_Sum rfl rfl N_crc_Sum rfl ?_
  refine aw_seq (aw_region hT ?_)
  refine aw_seq (aw_region hT ?_)
  refine callP (crc_More l hl) ?_
  refine aw_ret ?_
  exact retPick [] ⟨rfl, rfl⟩ rfl
end Go.Proofs.YtinfbclgkghgaaaGreat.AL

/- The number whose bits are those in which two differ. -/
namespace Go.Proofs.YtinfbclgkghgaaaGreat.AL

def diffN (a b : Nat) : Nat → Nat
  | 0 => 0
  | k + 1 => match a / 2 ^ k % 2 != b / 2 ^ k % 2 with
    | true => diffN a b k + 2 ^ k
    | false => diffN a b k

theorem xor_bit (a b k : Nat) : (a ^^^ b) / 2 ^ k % 2 = if (a / 2 ^ k % 2 != b / 2 ^ k % 2) = true then 1 else 0 := by
  have h := Nat.testBit_xor (x := a) (y := b) (i := k)
  rw [Nat.testBit_eq_decide_div_mod_eq, Nat.testBit_eq_decide_div_mod_eq, Nat.testBit_eq_decide_div_mod_eq] at h
  have h1 : (a ^^^ b) / 2 ^ k % 2 < 2 := Nat.mod_lt _ (by omega)
  have h2 : a / 2 ^ k % 2 < 2 := Nat.mod_lt _ (by omega)
  have h3 : b / 2 ^ k % 2 < 2 := Nat.mod_lt _ (by omega)
  generalize (a ^^^ b) / 2 ^ k % 2 = x at *
  generalize a / 2 ^ k % 2 = y at *
  generalize b / 2 ^ k % 2 = z at *
  have hx : x = 0 ∨ x = 1 := by omega
  have hy : y = 0 ∨ y = 1 := by omega
  have hz : z = 0 ∨ z = 1 := by omega
  rcases hx with rfl | rfl <;> rcases hy with rfl | rfl <;> rcases hz with rfl | rfl <;> simp at h ⊢

theorem diffN_eq (a b : Nat) : ∀ k, diffN a b k = (a ^^^ b) % 2 ^ k
  | 0 => by rw [Nat.pow_zero, Nat.mod_one]; rfl
  | k + 1 => by
    have ih := diffN_eq a b k
    rw [Nat.mod_pow_succ, xor_bit]
    unfold diffN
    cases h : (a / 2 ^ k % 2 != b / 2 ^ k % 2) with
    | true => simp only [ih, if_true, Nat.mul_one]
    | false => simp only [ih, Bool.false_eq_true, if_false, Nat.mul_zero, Nat.add_zero]

theorem diffN_lt (a b k : Nat) : diffN a b k < 2 ^ k := by rw [diffN_eq]; exact Nat.mod_lt _ (Nat.two_pow_pos k)
end Go.Proofs.YtinfbclgkghgaaaGreat.AL

/- The document's check of bytes: in which bits do two numbers differ. -/
namespace Go.Proofs.YtinfbclgkghgaaaGreat.AL
open Go Go.Proofs Go.Proofs.YtinfbclgkghgaaaGreat.AL.Crc

set_option maxRecDepth 8000 in
theorem ref04_differN (a b : Nat) (ha : a < 4294967296) (hb : b < 4294967296) : AF Tryz.prog f_ref04_differ [i64 a, i64 b] [] (Pure (i64 (a ^^^ b : Nat)) []) := by
  refine af_body hT F_ref04_differ rfl rfl N_ref04_differ rfl ?_
  refine aw_seq (aw_region hT ?_)
  refine aw_seq (aw_region hT ?_)
  refine aw_seq (aw_region hT ?_)
  refine aw_seq (aw_seq (aw_region hT ?_))
  refine aw_block ?_
  refine aw_loopW (fun n s => ∃ (k : Nat) (k' : Int) (d p x y : Int), n + k = 32 ∧ k' = k ∧ d = diffN a b k ∧ p = ((2 ^ k : Nat) : Int) ∧ x = ((a / 2 ^ k : Nat) : Int) ∧ y = ((b / 2 ^ k : Nat) : Int) ∧ s = ⟨⟨27, [(0, i64 x), (1, i64 y), (5, i64 d), (6, i64 p), (7, i64 k')]⟩, []⟩) 32 ⟨⟨27, _⟩, []⟩ (wk_pick [] [0, 1, 5, 6, 7] rfl) ⟨0, 0, 0, 1, _, _, rfl, rfl, rfl, rfl, ?_, ?_, rfl⟩ ?_
  · rw [Nat.pow_zero, Nat.div_one]
  · rw [Nat.pow_zero, Nat.div_one]
  rintro n s ⟨k, k', d, p, x, y, hk, rfl, rfl, rfl, rfl, rfl, rfl⟩
  have hd := diffN_lt a b k
  have hm : ∀ q : Nat, ((q : Int).tmod 2) = ((q % 2 : Nat) : Int) := fun q => by
    rw [Int.tmod_eq_emod_of_nonneg (Int.natCast_nonneg _)]; exact (Int.natCast_emod q 2).symm
  have hq : ∀ q : Nat, q < 4294967296 → IntKind.i64.wrap ((q : Int).tdiv 2) = ((q / 2 : Nat) : Int) := fun q hq => by
    rw [Int.tdiv_eq_ediv_of_nonneg (Int.natCast_nonneg _), wrap64 _ (by omega) (by omega)]; omega
  refine aw_seq (aw_seq (aw_region hT ?_))
  refine aw_cond (boolI (fun h => ?_) (fun h => ?_))
  · have hk32 : k < 32 := by
      have := of_decide_eq_true (show decide ((k : Int) < 32) = true from h)
      omega
    have hp : 2 ^ k ≤ 2 ^ 31 := Nat.pow_le_pow_right (by omega) (by omega)
    have hp2 : 2 ^ (k + 1) = 2 ^ k * 2 := Nat.pow_succ ..
    have hdx : a / 2 ^ k < 4294967296 := Nat.lt_of_le_of_lt (Nat.div_le_self _ _) ha
    have hdy : b / 2 ^ k < 4294967296 := Nat.lt_of_le_of_lt (Nat.div_le_self _ _) hb
    have hx2 : a / 2 ^ (k + 1) = a / 2 ^ k / 2 := by rw [hp2, Nat.div_div_eq_div_mul]
    have hy2 : b / 2 ^ (k + 1) = b / 2 ^ k / 2 := by rw [hp2, Nat.div_div_eq_div_mul]
    refine aw_skip ?_
    refine aw_cut ⟨⟨27, [(0, i64 ((a / 2 ^ (k + 1) : Nat) : Int)), (1, i64 ((b / 2 ^ (k + 1) : Nat) : Int)), (5, i64 (diffN a b (k + 1) : Nat)), (6, i64 ((2 ^ (k + 1) : Nat) : Int)), (7, i64 (k : Nat))]⟩, []⟩ True (aw_block ?_) (fun _ => ?_)
    · refine aw_cut ⟨⟨27, [(0, i64 ((a / 2 ^ k : Nat) : Int)), (1, i64 ((b / 2 ^ k : Nat) : Int)), (5, i64 (diffN a b (k + 1) : Nat)), (6, i64 ((2 ^ k : Nat) : Int)), (7, i64 (k : Nat))]⟩, []⟩ True (aw_seq (aw_region hT ?_)) (fun _ => ?_)
      · refine aw_cond (boolI (fun h1 => ?_) (fun h1 => ?_))
        · have h1 : (((a / 2 ^ k : Nat) : Int).tmod 2 != ((b / 2 ^ k : Nat) : Int).tmod 2) = true := h1
          rw [hm, hm] at h1
          have h2 : (a / 2 ^ k % 2 != b / 2 ^ k % 2) = true := by
            rw [bne_iff_ne] at h1 ⊢; omega
          have e : diffN a b (k + 1) = diffN a b k + 2 ^ k := by
            conv => lhs; unfold diffN
            rw [h2]
          refine aw_region hT ?_
          have e2 : IntKind.i64.wrap (((diffN a b k : Nat) : Int) + ((2 ^ k : Nat) : Int)) = ((diffN a b (k + 1) : Nat) : Int) := by
            rw [e, wrap64 _ (by omega) (by omega)]; omega
          rw [← e2]
          exact ⟨wk_pick [] [0, 1, 5, 6, 7] rfl, trivial⟩
        · have h1 : (((a / 2 ^ k : Nat) : Int).tmod 2 != ((b / 2 ^ k : Nat) : Int).tmod 2) = false := h1
          rw [hm, hm] at h1
          have h2 : (a / 2 ^ k % 2 != b / 2 ^ k % 2) = false := by
            rw [bne_eq_false_iff_eq] at h1 ⊢; omega
          have e : diffN a b (k + 1) = diffN a b k := by
            conv => lhs; unfold diffN
            rw [h2]
          rw [e]
          exact aw_skip ⟨wk_pick [] [0, 1, 5, 6, 7] rfl, trivial⟩
      · refine aw_seq (aw_region hT ?_)
        refine aw_seq (aw_region hT ?_)
        refine aw_region hT ?_
        have e3 : IntKind.i64.wrap (((2 ^ k : Nat) : Int) * 2) = ((2 ^ (k + 1) : Nat) : Int) := by
          rw [hp2, wrap64 _ (by omega) (by omega)]; omega
        rw [hx2, hy2, ← hq _ hdx, ← hq _ hdy, ← e3]
        exact ⟨wk_pick [] [0, 1, 5, 6, 7] rfl, trivial⟩
    · refine aw_region hT ?_
      refine ⟨n - 1, by omega, _, wk_pick [] [0, 1, 5, 6, 7] rfl, k + 1, IntKind.i64.wrap ((k : Int) + 1), _, _, _, _, by omega, ?_, rfl, rfl, rfl, rfl, rfl⟩
      rw [wrap64 _ (by omega) (by omega)]; rfl
  · have hk32 : k = 32 := by
      have := of_decide_eq_false (show decide ((k : Int) < 32) = false from h)
      omega
    subst hk32
    refine aw_exit ?_
    refine aw_seq (aw_region hT ?_)
    refine aw_ret ?_
    have e : diffN a b 32 = (a ^^^ b : Nat) := by
      rw [diffN_eq]
      exact Nat.mod_eq_of_lt (Nat.xor_lt_two_pow (show a < 2 ^ 32 from ha) (show b < 2 ^ 32 from hb))
    rw [← e]
    exact retPick [] ⟨rfl, rfl⟩ rfl
theorem ref04_differ (x y : W) : AF Tryz.prog f_ref04_differ [i64 (x.toNat : Int), i64 (y.toNat : Int)] [] (Pure (i64 ((x ^^^ y).toNat : Int)) []) := by
  have := ref04_differN x.toNat y.toNat x.isLt y.isLt
  rw [BitVec.toNat_xor]; exact this
end Go.Proofs.YtinfbclgkghgaaaGreat.AL
