/- The abstract layer (second make), part o: forgetting, results, a function's body, calls among more blocks. -/
import Derived.Test.YtolefphdldmlkaaBLn
namespace Go.Proofs.Ytolefphdldmlkaa.AL
open Go Go.RowKit

/-- Of what a state says another one says less. -/
def Wk (m : Nat) (s s2 : St) : Prop :=
  ∀ (N : Nat) (w : World) (I : Nat → Prop) (ι : Nat → Option Nat) (a : Act), Sim N w I ι s a → m ≤ s.H.length → ∃ I2 ι2, Sim N w I2 ι2 s2 a ∧ Ex m w I ι s.H w I2 ι2 s2.H

section
variable {P : Program} {T : TTab} {ro : Option Nat} {m : Nat} {s s2 : St} {Q : Exit → St → Prop}

theorem Wk.refl (m : Nat) (s : St) : Wk m s s := fun _ _ I ι _ hs hm => ⟨I, ι, hs, Ex.refl hm⟩
theorem Wk.trans {s3 : St} (h : Wk m s s2) (k : Wk m s2 s3) : Wk m s s3 := fun N w I ι a hs hm => by
  obtain ⟨I2, ι2, h1, h2⟩ := h N w I ι a hs hm
  obtain ⟨I3, ι3, h3, h4⟩ := k N w I2 ι2 a h1 h2.len
  exact ⟨I3, ι3, h3, h2.trans h4⟩

theorem aw_wk {c : Code} (h : Wk m s s2) (k : AW P ro m c s2 Q) : AW P ro m c s Q := fun N w I ι a hs hm => by
  obtain ⟨I2, ι2, h1, h2⟩ := h N w I ι a hs hm
  exact wpIn_mono (k N w I2 ι2 a h1 h2.len) fun _ _ _ hh => hh.step h2

theorem aw_post {c : Code} (h : AW P ro m c s (fun e s' => ∃ s2, Wk m s' s2 ∧ Q e s2)) : AW P ro m c s Q := fun N w I ι a hs hm => by
  refine wpIn_mono (h N w I ι a hs hm) ?_
  rintro e a' w' ⟨s', I', ι', ⟨s2, hw, hq⟩, h1, h2⟩
  obtain ⟨I2, ι2, h3, h4⟩ := hw N w' I' ι' a' h1 h2.len
  exact ⟨s2, I2, ι2, hq, h3, h2.trans h4⟩

theorem aw_loopW {c : Code} (Inv : Nat → St → Prop) (n : Nat) (s0 : St) (hw : Wk m s s0) (h0 : Inv n s0)
    (round : ∀ n s, Inv n s → AW P ro m c s (thenA (fun s' => ∃ k, k < n ∧ ∃ s2, Wk m s' s2 ∧ Inv k s2) Q)) : AW P ro m (.loop c) s Q := by
  refine aw_wk hw (aw_loop Inv n h0 fun n s hI => aw_post ((round n s hI).mono ?_))
  intro e s' h
  cases e with
  | normal => obtain ⟨k, hk, s2, hw, hI⟩ := h; exact ⟨s2, hw, k, hk, hI⟩
  | _ => exact ⟨s', Wk.refl _ _, h⟩

/-! Renaming. -/
mutual
def AV.ren (ρ : Nat → Nat) : AV → AV
  | .p x => .p x
  | .agg l => .agg (renL ρ l)
  | .tup l => .tup (renL ρ l)
  | .ref b o => .ref (ρ b) o
  | .msl b s o n => .msl (ρ b) s o n
  | .elr b s i o => .elr (ρ b) s i o
  | .clo f c => .clo f (renL ρ c)
  | .mth f c => .mth f (renL ρ c)
  | .yld b => .yld (ρ b)
  | .mp b => .mp (ρ b)
  | .top => .top
def renL (ρ : Nat → Nat) : List AV → List AV
  | [] => []
  | u :: r => u.ren ρ :: renL ρ r
end

theorem renL_map (ρ : Nat → Nat) : ∀ l : List AV, renL ρ l = l.map (AV.ren ρ)
  | [] => rfl
  | u :: r => by rw [renL, renL_map ρ r]; rfl

def ABlk.ren (ρ : Nat → Nat) : ABlk → ABlk
  | .dead => .dead
  | .cells t l => .cells t (renL ρ l)
  | .row t sz xs => .row t sz xs
  | .obj o => .obj o
  | .lp q st pe l => .lp q st pe (renL ρ l)

theorem ARep.ren_of {w : World} {I : Nat → Prop} {ι : Nat → Option Nat} {ρ : Nat → Nat} {u : AV} {v : Value} (h : ARep w I (fun b => ι (ρ b)) u v) : ARep w I ι (u.ren ρ) v := by
  induction h with
  | p h => exact .p h
  | top v => exact .top v
  | agg l vs hn _ ih =>
    refine .agg _ vs (by rw [renL_map]; simpa using hn) (fun i u hu => ?_)
    rw [renL_map] at hu
    simp only [List.getElem?_map, Option.map_eq_some_iff] at hu
    obtain ⟨x, hx, rfl⟩ := hu
    exact ih i x hx
  | tup l vs hn _ ih =>
    refine .tup _ vs (by rw [renL_map]; simpa using hn) (fun i u hu => ?_)
    rw [renL_map] at hu
    simp only [List.getElem?_map, Option.map_eq_some_iff] at hu
    obtain ⟨x, hx, rfl⟩ := hu
    exact ih i x hx
  | ref b off B h => exact .ref _ off B h
  | msl b sz off len B c h hc hs => exact .msl _ sz off len B c h hc hs
  | msl0 b sz off A => exact .msl0 _ sz off A
  | elr b sz i off B h => exact .elr _ sz i off B h
  | clo fn caps vs hn _ ih =>
    refine .clo fn _ vs (by rw [renL_map]; simpa using hn) (fun i u hu => ?_)
    rw [renL_map] at hu
    simp only [List.getElem?_map, Option.map_eq_some_iff] at hu
    obtain ⟨x, hx, rfl⟩ := hu
    exact ih i x hx
  | mth fn caps vs hn _ ih =>
    refine .mth fn _ vs (by rw [renL_map]; simpa using hn) (fun i u hu => ?_)
    rw [renL_map] at hu
    simp only [List.getElem?_map, Option.map_eq_some_iff] at hu
    obtain ⟨x, hx, rfl⟩ := hu
    exact ih i x hx
  | yld b B h => exact .yld _ B h
  | mp b B h => exact .mp _ B h

mutual
theorem ren_inv {w : World} {I : Nat → Prop} {ι : Nat → Option Nat} {ρ : Nat → Nat} : ∀ (u : AV) {v : Value}, ARep w I ι (u.ren ρ) v → ARep w I (fun b => ι (ρ b)) u v
  | .p x, v, h => by cases h with | p h => exact .p h
  | .agg l, v, h => by
    cases h with
    | agg _ vs hn h => exact .agg l vs (by rw [renL_map] at hn; simpa using hn) (fun i u hu => ren_invL l i u hu (h i (u.ren ρ) (by rw [renL_map, List.getElem?_map, hu]; rfl)))
  | .tup l, v, h => by
    cases h with
    | tup _ vs hn h => exact .tup l vs (by rw [renL_map] at hn; simpa using hn) (fun i u hu => ren_invL l i u hu (h i (u.ren ρ) (by rw [renL_map, List.getElem?_map, hu]; rfl)))
  | .ref b o, v, h => by cases h with | ref _ _ B h => exact .ref b o B h
  | .msl b s o n, v, h => by
    cases h with
    | msl _ _ _ _ B c h hc hs => exact .msl b s o n B c h hc hs
    | msl0 _ _ _ A => exact .msl0 b s o A
  | .elr b s i o, v, h => by cases h with | elr _ _ _ _ B h => exact .elr b s i o B h
  | .clo f c, v, h => by
    cases h with
    | clo _ _ vs hn h => exact .clo f c vs (by rw [renL_map] at hn; simpa using hn) (fun i u hu => ren_invL c i u hu (h i (u.ren ρ) (by rw [renL_map, List.getElem?_map, hu]; rfl)))
  | .mth f c, v, h => by
    cases h with
    | mth _ _ vs hn h => exact .mth f c vs (by rw [renL_map] at hn; simpa using hn) (fun i u hu => ren_invL c i u hu (h i (u.ren ρ) (by rw [renL_map, List.getElem?_map, hu]; rfl)))
  | .yld b, v, h => by cases h with | yld _ B h => exact .yld b B h
  | .mp b, v, h => by cases h with | mp _ B h => exact .mp b B h
  | .top, v, _ => .top v
theorem ren_invL {w : World} {I : Nat → Prop} {ι : Nat → Option Nat} {ρ : Nat → Nat} : ∀ (l : List AV) (i : Nat) (u : AV), l[i]? = some u → ∀ {v : Value}, ARep w I ι (u.ren ρ) v → ARep w I (fun b => ι (ρ b)) u v
  | [], i, u, hu, v, _ => by simp at hu
  | x :: r, 0, u, hu, v, h => by
    simp at hu
    subst hu
    exact ren_inv x h
  | x :: r, i + 1, u, hu, v, h => ren_invL r i u (by simpa using hu) h
end

def rho (n : Nat) (ps : List Nat) (b : Nat) : Nat := ps.getD b n

/-- A choice of blocks. -/
structure Sel (ps : List Nat) (H H2 : List ABlk) : Prop where
  len : H2.length = ps.length
  nodup : ps.Nodup
  blk : ∀ (b : Nat) (k : ABlk), H2[b]? = some k → k = .dead ∨ ∃ p : Nat, ps[b]? = some p ∧ H[p]? = some (k.ren (rho H.length ps))

theorem Sel.sim {w : World} {I : Nat → Prop} {ι : Nat → Option Nat} {ps : List Nat} {H H2 : List ABlk} (h : Sel ps H H2) (hs : SimH w I ι H) : SimH w I (fun b => ι (rho H.length ps b)) H2 := by
  have hget : ∀ b p, ps[b]? = some p → rho H.length ps b = p := fun b p hb => by simp [rho, List.getD_eq_getElem?_getD, hb]
  refine ⟨fun b k hb => ?_, fun b b' B hb hb' h1 h2 => ?_, hs.Ilt, fun b hb => ?_, fun b B hb => hs.rng _ B hb⟩
  · rcases h.blk b k hb with rfl | ⟨p, hp, hk⟩
    · trivial
    · have h0 := hs.blk p _ hk
      cases k with
      | dead => trivial
      | cells t l =>
        obtain ⟨B, cs, g1, g2, g3, g4, g5⟩ := h0
        refine ⟨B, cs, by show ι (rho H.length ps b) = _; rw [hget b p hp]; exact g1, g2, g3, by rw [renL_map] at g4; simpa using g4, fun i u hu => ?_⟩
        exact ren_inv u (g5 i (u.ren _) (by rw [renL_map, List.getElem?_map, hu]; rfl))
      | lp q st pe l =>
        obtain ⟨B, cs, g1, g2, g3, g4, g5⟩ := h0
        refine ⟨B, cs, by show ι (rho H.length ps b) = _; rw [hget b p hp]; exact g1, g2, g3, by rw [renL_map] at g4; simpa using g4, fun i u hu => ?_⟩
        exact ren_inv u (g5 i (u.ren _) (by rw [renL_map, List.getElem?_map, hu]; rfl))
      | row t sz xs =>
        rcases h0 with ⟨g1, g2⟩ | ⟨B, cs, g1, g2⟩
        · exact .inl ⟨g1, by show ι (rho H.length ps b) = _; rw [hget b p hp]; exact g2⟩
        · exact .inr ⟨B, cs, by show ι (rho H.length ps b) = _; rw [hget b p hp]; exact g1, g2⟩
      | obj o =>
        obtain ⟨g0, B, g1, g2⟩ := h0
        exact ⟨g0, B, by show ι (rho H.length ps b) = _; rw [hget b p hp]; exact g1, g2⟩
  · have hlv : ∀ b, live H2 b → ∃ p, ps[b]? = some p ∧ live H p := fun b hb => by
      obtain ⟨k, hk, hl⟩ := hb
      rcases h.blk b k hk with rfl | ⟨p, hp, hk'⟩
      · simp [ABlk.live] at hl
      · exact ⟨p, hp, _, hk', by cases k <;> first | exact hl | rfl⟩
    obtain ⟨p, hp, hlp⟩ := hlv b hb
    obtain ⟨p', hp', hlp'⟩ := hlv b' hb'
    replace h1 : ι (rho H.length ps b) = some B := h1
    replace h2 : ι (rho H.length ps b') = some B := h2
    rw [hget b p hp] at h1
    rw [hget b' p' hp'] at h2
    have := hs.inj p p' B hlp hlp' h1 h2
    subst this
    obtain ⟨l1, e1⟩ := List.getElem?_eq_some_iff.1 hp
    obtain ⟨l2, e2⟩ := List.getElem?_eq_some_iff.1 hp'
    have hnd := List.pairwise_iff_getElem.1 h.nodup
    rcases Nat.lt_trichotomy b b' with hlt | heq | hgt
    · exact absurd (e1.trans e2.symm) (hnd b b' l1 l2 hlt)
    · exact heq
    · exact absurd (e2.trans e1.symm) (hnd b' b l2 l1 hgt)
  · have : rho H.length ps b = H.length := by
      unfold rho; rw [List.getD_eq_getElem?_getD, List.getElem?_eq_none (by rw [← h.len]; exact hb)]; rfl
    show ι (rho H.length ps b) = none
    rw [this]; exact hs.dom _ (Nat.le_refl _)

theorem Sel.live {ps : List Nat} {H H2 : List ABlk} (h : Sel ps H H2) {b : Nat} (hb : live H2 b) : live H (rho H.length ps b) := by
  obtain ⟨k, hk, hl⟩ := hb
  rcases h.blk b k hk with rfl | ⟨p, hp, hk'⟩
  · simp [ABlk.live] at hl
  · have : rho H.length ps b = p := by simp [rho, List.getD_eq_getElem?_getD, hp]
    rw [this]
    exact ⟨_, hk', by cases k <;> first | exact hl | rfl⟩

/-- nil is a list of nothing. -/
theorem nil_sl {w : World} {I : Nat → Prop} (sz : Nat) : PRep w I (.sl sz []) (.slice none 0 0) :=
  .sl sz [] none 0 (fun _ _ => undef) (by simp) (by simp) (.inl rfl) (fun j e i u h => by simp at h)

/-- What a slot may say instead. -/
def Less (ρ : Nat → Nat) (u u2 : AV) : Prop := u2 = .top ∨ u = u2.ren ρ ∨ (∃ b sz off, u = .p (.raw (.slice none 0 0)) ∧ u2 = .msl b sz off 0) ∨ (∃ sz, u = .p (.raw (.slice none 0 0)) ∧ u2 = .p (.sl sz []))

theorem Less.rep {w : World} {I : Nat → Prop} {ι : Nat → Option Nat} {ρ : Nat → Nat} {u u2 : AV} {v : Value} (h : Less ρ u u2) (hu : ARep w I ι u v) : ARep w I (fun b => ι (ρ b)) u2 v := by
  rcases h with rfl | rfl | ⟨b, sz, off, rfl, rfl⟩ | ⟨sz, rfl, rfl⟩
  · exact .top v
  · exact ren_inv u2 hu
  · rw [rep_raw hu]; exact .msl0 b sz off none
  · rw [rep_raw hu]; exact .p (nil_sl sz)

/-- What an activation knows goes over to other words on the same world. -/
theorem Sim.turn {N : Nat} {w : World} {I I2 : Nat → Prop} {ι ι2 : Nat → Option Nat} {a : Act} {H2 : List ABlk} {fr2 : Fr} {m : Nat} (hs : Sim N w I ι s a) (hf : FrOk w I2 ι2 fr2 a.tmps) (hH : SimH w I2 ι2 H2) (hx : Ex m w I ι s.H w I2 ι2 H2) : Sim N w I2 ι2 ⟨fr2, H2⟩ a :=
  ⟨hf, hH, hs.hN, fun d hd => (hs.d d hd).move hx.ext, hs.nd⟩

/-- Blocks are chosen, in an order; slots are forgotten. -/
theorem wk_sel (ps : List Nat) (h : Sel ps s.H s2.H) (hm : ∀ b : Nat, b < m → ps[b]? = some b) (hlen : s2.fr.n = s.fr.n)
    (hfr : ∀ (i : Nat) (u2 : AV), look s2.fr.l i = some u2 → ∃ u, look s.fr.l i = some u ∧ Less (rho s.H.length ps) u u2) : Wk m s s2 := fun N w I ι a hs hm0 => by
  have hx : Ex m w I ι s.H w I (fun b => ι (rho s.H.length ps b)) s2.H := by
    refine ⟨⟨rfl, rfl, rfl, Nat.le_refl _, Shape.refl w, fun _ h => h, fun _ _ _ => rfl, fun _ h => .inl h, fun b B hb hB => .inr ⟨_, h.live hb, hB⟩⟩, fun b hb => ?_, ?_⟩
    · have : rho s.H.length ps b = b := by simp [rho, List.getD_eq_getElem?_getD, hm b hb]
      show ι (rho s.H.length ps b) = ι b
      rw [this]
    · rw [h.len]
      rcases Nat.eq_zero_or_pos m with h0 | h0
      · omega
      · have := (List.getElem?_eq_some_iff.1 (hm (m - 1) (by omega))).1
        omega
  refine ⟨I, fun b => ι (rho s.H.length ps b), hs.turn ⟨by rw [hs.fr.1, hlen], fun i u2 hu => ?_⟩ (h.sim hs.H) hx, hx⟩
  obtain ⟨u, hu', hl⟩ := hfr i u2 hu
  exact hl.rep (hs.fr.2 i u hu')

/-! Results. -/
def resOne (T : TTab) (H : List ABlk) (fr : Fr) (r : ResultVar) (K : AV → Prop) : Prop :=
  match r with
  | .tmp t => optK (look fr.l t) K
  | .cell a t => optK (look fr.l a) fun ua => optK (T t) fun ti => chk (isRowTD ti.d || ti.size == 1) <| loadK H ua ti.size fun us => K (mkVal ti.d us)

def resL (T : TTab) (H : List ABlk) (fr : Fr) : List ResultVar → (List AV → Prop) → Prop
  | [], K => K []
  | r :: rs, K => resOne T H fr r fun u => forceV u fun u => resL T H fr rs fun us => K (u :: us)

def resK (T : TTab) (H : List ABlk) (fr : Fr) (rs : List ResultVar) (K : AV → Prop) : Prop :=
  resL T H fr rs fun us => match us with
    | [u] => K u
    | us => K (.tup us)

theorem loadVar_ok (hT : TOk P T) {w : World} {I : Nat → Prop} {ι : Nat → Option Nat} {H : List ABlk} {t : TypeId} {ti : TI} (hti : T t = some ti) (c1 : (isRowTD ti.d || ti.size == 1) = true) {x : AV} {vx : Value} {K : List AV → Prop}
    (hs : SimH w I ι H) (hx : ARep w I ι x vx) (h : loadK H x ti.size K) : ∃ us ad v, K us ∧ vx = .pointer (some ad) ∧ (loadVar t ad).run P w = .ok v w ∧ ARep w I ι (mkVal ti.d us) v := by
  obtain ⟨i, d, z, h1, h2, h3, h4, h5, h6, h7, h8⟩ := tok hT hti
  obtain ⟨us, B, off, vs, k1, k2, k3, k4, k5, k6⟩ := load_ok hs hx h
  cases hrow : isRowTD ti.d with
  | true =>
    have hd : d.isRow = true := by rw [← isRow_tdOf, ← h4]; exact hrow
    refine ⟨us, _, .agg vs.toArray, k1, k2, run_loadVar_mid (P := P) w B off t vs d k5 h2 hd (by rw [h1, k4]; simp [h5]), ?_⟩
    have : mkVal ti.d us = .agg us := by cases hdd : ti.d <;> simp [hdd, isRowTD] at hrow <;> rfl
    rw [this]
    exact .agg us vs.toArray (by simp [k3, k4]) (fun i u hu => by rw [arr_getD]; exact k6 i u hu)
  | false =>
    have hd : d.isRow = false := by rw [← isRow_tdOf, ← h4]; exact hrow
    rw [hrow] at c1
    have hsz : ti.size = 1 := by simpa using c1
    rw [hsz] at k3 k4
    obtain ⟨u, rfl⟩ := List.length_eq_one_iff.1 k3
    obtain ⟨v, rfl⟩ := List.length_eq_one_iff.1 k4
    have hcell : w.cell? ⟨B, off, none⟩ = some v := by simpa using k5 0 v rfl
    have hagg : (isAgg t).run P w = .ok false w := by
      unfold isAgg
      rw [Sem.run_bind, run_underlying h2 w]
      cases d <;> simp_all
    refine ⟨[u], _, v, k1, k2, by simp [loadVar, hagg, load, Sem.run, hcell], ?_⟩
    have : mkVal ti.d [u] = u := by cases hdd : ti.d <;> simp [hdd, isRowTD] at hrow <;> rfl
    rw [this]
    exact k6 0 u rfl

def resOp (tmps : Array Value) : ResultVar → Sem Value
  | .tmp t => pure (tmps.getD t undef)
  | .cell a t => do loadVar t (← asAddr (tmps.getD a undef))

theorem resOne_ok (hT : TOk P T) {w : World} {I : Nat → Prop} {ι : Nat → Option Nat} {H : List ABlk} {fr : Fr} {tmps : Array Value} (hs : SimH w I ι H) (hf : FrOk w I ι fr tmps) {r : ResultVar} {K : AV → Prop} (h : resOne T H fr r K) :
    ∃ u v, K u ∧ (resOp tmps r).run P w = .ok v w ∧ ARep w I ι u v := by
  cases r with
  | tmp t =>
    obtain ⟨u, hu, h⟩ := optE h
    exact ⟨u, _, h, rfl, hf.2 t u hu⟩
  | cell a t =>
    simp only [resOne] at h
    obtain ⟨ua, hua, h⟩ := optE h
    obtain ⟨ti, hti, h⟩ := optE h
    obtain ⟨c1, h⟩ := chkE h
    obtain ⟨us, ad, v, k1, k2, k3, k4⟩ := loadVar_ok hT hti c1 hs (hf.2 a ua hua) h
    exact ⟨_, v, k1, by simp only [resOp, k2]; simp [asAddr, k3], k4⟩

theorem resL_ok (hT : TOk P T) {w : World} {I : Nat → Prop} {ι : Nat → Option Nat} {H : List ABlk} {fr : Fr} {tmps : Array Value} (hs : SimH w I ι H) (hf : FrOk w I ι fr tmps) : ∀ (rs : List ResultVar) {K : List AV → Prop}, resL T H fr rs K →
    ∃ us vs, K us ∧ (rs.mapM (resOp tmps)).run P w = .ok vs w ∧ us.length = vs.length ∧ ∀ (i : Nat) u, us[i]? = some u → ARep w I ι u (vs.getD i undef)
  | [], K, h => ⟨[], [], h, by simp, rfl, fun i u hu => by simp at hu⟩
  | r :: rs, K, h => by
    obtain ⟨u, v, h1, h2, h3⟩ := resOne_ok hT hs hf h
    rw [forceV_eq] at h1
    obtain ⟨us, vs, k1, k2, k3, k4⟩ := resL_ok hT hs hf rs h1
    refine ⟨u :: us, v :: vs, k1, by simp [List.mapM_cons, h2, k2], by simp [k3], fun i x hx => ?_⟩
    cases i with
    | zero => simp at hx; subst hx; exact h3
    | succ i => simp at hx; exact k4 i x hx

theorem resK_ok (hT : TOk P T) {fn : Func} {w : World} {I : Nat → Prop} {ι : Nat → Option Nat} {H : List ABlk} {fr : Fr} {tmps : Array Value} (hs : SimH w I ι H) (hf : FrOk w I ι fr tmps) {K : AV → Prop} (h : resK T H fr fn.results.toList K) :
    ∃ u v, K u ∧ (results fn tmps).run P w = .ok v w ∧ ARep w I ι u v := by
  obtain ⟨us, vs, h1, h2, h3, h4⟩ := resL_ok hT hs hf _ h
  have hrun : (results fn tmps).run P w = .ok (if h : vs.toArray.size = 1 then vs.toArray[0] else .tuple vs.toArray) w := by
    have e : results fn tmps = (do
      let vs ← fn.results.mapM (resOp tmps)
      pure (if h : vs.size = 1 then vs[0] else .tuple vs)) := by
      unfold results
      congr 1
    rw [e, Sem.run_bind, Array.mapM_eq_mapM_toList]
    simp [h2]
  rcases us with _ | ⟨u, _ | ⟨u', us⟩⟩
  · have : vs = [] := List.length_eq_zero_iff.1 h3.symm
    subst this
    exact ⟨_, _, h1, hrun, .tup [] #[] rfl (fun i u hu => by simp at hu)⟩
  · obtain ⟨v, rfl⟩ := List.length_eq_one_iff.1 h3.symm
    exact ⟨_, _, h1, hrun, h4 0 u rfl⟩
  · refine ⟨_, _, h1, hrun, ?_⟩
    have hne : ¬ vs.toArray.size = 1 := by
      have : vs.length = us.length + 2 := by rw [← h3]; simp
      simp [this]
    rw [dif_neg hne]
    exact .tup _ vs.toArray (by simp [← h3]) (fun i u hu => by rw [arr_getD]; exact h4 i u hu)

/-- What is asked at a function's end: its result, with blocks that may be chosen. -/
def retPost (T : TTab) (m : Nat) (fn : Func) (R : AV → List ABlk → Prop) : Exit → St → Prop
  | .normal, s | .ret, s => resK T s.H s.fr fn.results.toList fun u => ∃ u2 H2, Wk m ⟨⟨1, [(0, u)]⟩, s.H⟩ ⟨⟨1, [(0, u2)]⟩, H2⟩ ∧ R u2 H2
  | _, _ => False

def argsFr : Nat → List AV → List (Nat × AV)
  | _, [] => []
  | k, u :: r => (k, u) :: argsFr (k + 1) r
theorem look_args : ∀ (l : List AV) (k t : Nat), look (argsFr k l) t = if k ≤ t then l[t - k]? else none
  | [], k, t => by simp [argsFr, look]
  | u :: r, k, t => by
    unfold argsFr
    by_cases e : k = t
    · subst e; rw [look_self, if_pos (Nat.le_refl _)]; simp
    · rw [look_other _ _ e, look_args r (k + 1) t]
      by_cases h : k ≤ t
      · rw [if_pos (by omega), if_pos h]
        obtain ⟨d, rfl⟩ : ∃ d, t = k + 1 + d := ⟨t - (k + 1), by omega⟩
        rw [show k + 1 + d - (k + 1) = d by omega, show k + 1 + d - k = d + 1 by omega, List.getElem?_cons_succ]
      · rw [if_neg (by omega), if_neg h]

/-- A block outside all that is known is written. -/
theorem out_sim {w : World} {I : Nat → Prop} {ι : Nat → Option Nat} {H : List ABlk} {D : Nat} {o o' : Obj} (hs : SimH w I ι H) (h0 : w.heap[D]? = some o) (hno : o.noCells) (hI : ¬ I D) (hl : ∀ b, live H b → ι b ≠ some D) :
    SimH (w.putObj D o') I ι H ∧ Shape w (w.putObj D o') := by
  have hoth : ∀ k, k ≠ D → (w.putObj D o').heap[k]? = w.heap[k]? := fun k hk => World.putObj_heap_other hk
  have hsh : Shape w (w.putObj D o') := fun B cs t fr h => by
    by_cases e : B = D
    · subst e; rw [h0] at h; exact absurd (Option.some.inj h) (hno cs t fr)
    · exact ⟨cs, by rw [hoth B e]; exact h, rfl⟩
  have hI' : ∀ B, I B → (w.putObj D o').heap[B]? = w.heap[B]? := fun B hB => hoth B (fun e => hI (e ▸ hB))
  refine ⟨⟨fun b k hb => ?_, hs.inj, fun B hB => by rw [World.putObj_size]; exact hs.Ilt B hB, hs.dom, fun b B hb => by rw [World.putObj_size]; exact hs.rng b B hb⟩, hsh⟩
  have h := hs.blk b k hb
  have hne : ∀ B, k.live = true → ι b = some B → B ≠ D := fun B hk hB e => hl b ⟨k, hb, hk⟩ (e ▸ hB)
  cases k with
  | dead => trivial
  | cells t l =>
    obtain ⟨B, cs, g1, g2, g3, g4, g5⟩ := h
    exact ⟨B, cs, g1, by rw [hoth B (hne B rfl g1)]; exact g2, g3, g4, fun i u hu => (g5 i u hu).move hI' (fun _ h => h) (fun _ _ h => h) hsh⟩
  | lp q st pe l =>
    obtain ⟨B, cs, g1, g2, g3, g4, g5⟩ := h
    exact ⟨B, cs, g1, by rw [hoth B (hne B rfl g1)]; exact g2, g3, g4, fun i u hu => (g5 i u hu).move hI' (fun _ h => h) (fun _ _ h => h) hsh⟩
  | row t sz xs =>
    rcases h with g0 | ⟨B, cs, g1, g2, g3, g4, g5, g6⟩
    · exact .inl g0
    · exact .inr ⟨B, cs, g1, by rw [hoth B (hne B rfl g1)]; exact g2, g3, g4, g5, fun j e hj => ⟨(g6 j e hj).1, fun i u hu => ((g6 j e hj).2 i u hu).move hI' (fun _ h => h)⟩⟩
  | obj q =>
    obtain ⟨g0, B, g1, g2, g3⟩ := h
    exact ⟨g0, B, g1, by rw [hoth B (hne B rfl g1)]; exact g2, g3⟩

theorem out_ex {w0 w : World} {I0 I : Nat → Prop} {ι0 ι : Nat → Option Nat} {H0 H : List ABlk} {D : Nat} {o : Obj} (h : Ex m w0 I0 ι0 H0 w I ι H) (hD : w0.heap.size ≤ D) (hsh : Shape w (w.putObj D o)) : Ex m w0 I0 ι0 H0 (w.putObj D o) I ι H := by
  have x := h.ext
  exact ⟨⟨x.os, x.tape, x.output, by rw [World.putObj_size]; exact x.size, x.shape.trans hsh, x.Isub, fun B hB hn => by rw [World.putObj_heap_other (by omega)]; exact x.frame B hB hn, x.Inew, x.own⟩, h.keep, h.len⟩

theorem noCells_deferred (d : Option (List Deferred)) : (Obj.deferred d).noCells := fun _ _ _ h => by cases h

/-- The marks that an activation leaves are taken up at its end; then its result is read. -/
theorem leaves_marks (hT : TOk P T) {fn : Func} {fr : Fr} {tmps : Array Value} {w0 : World} {I0 : Nat → Prop} {ι0 : Nat → Option Nat} {H0 : List ABlk} {R : AV → List ABlk → Prop} : ∀ (ds : List Deferred) (w : World) (I : Nat → Prop) (ι : Nat → Option Nat) (H : List ABlk),
    FrOk w I ι fr tmps → SimH w I ι H → (∀ d ∈ ds, Mark w0.heap.size w I ι H d) → ds.Pairwise (fun x y => x.target ≠ y.target) → Ex m w0 I0 ι0 H0 w I ι H →
    (resK T H fr fn.results.toList fun u => ∃ u2 H2, Wk m ⟨⟨1, [(0, u)]⟩, H⟩ ⟨⟨1, [(0, u2)]⟩, H2⟩ ∧ R u2 H2) →
    LeavesInM Fence.wide 0 P fn tmps (fun e w' => ∃ v r H' I' ι', e = .returned v ∧ R r H' ∧ ARep w' I' ι' r v ∧ SimH w' I' ι' H' ∧ Ex m w0 I0 ι0 H0 w' I' ι' H') ds .returning w
  | [], w, I, ι, H, hf, hs, _, _, hx, hr => by
    obtain ⟨u, v, ⟨u2, H2, k1, k2⟩, k3, k4⟩ := resK_ok hT hs hf hr
    obtain ⟨I2, ι2, k5, k6⟩ := k1 0 w I ι { tmps := #[v], defers := [] } ⟨⟨rfl, fun i x hx => by
      by_cases e : 0 = i
      · subst e; rw [look_self] at hx; obtain rfl := Option.some.inj hx; exact k4
      · rw [look_other _ _ e] at hx; simp [look] at hx⟩, hs, Nat.zero_le _, fun d hd => by simp at hd, List.Pairwise.nil⟩ hx.len
    exact ⟨v, k3, v, u2, H2, I2, ι2, rfl, k2, k5.fr.2 0 u2 rfl, k5.H, hx.trans k6⟩
  | d :: ds, w, I, ι, H, hf, hs, hm, hnd, hx, hr => by
    obtain ⟨D, rfl, hD, hh, hI, hl⟩ := hm d List.mem_cons_self
    obtain ⟨s1, hsh⟩ := out_sim (o' := .deferred none) hs hh (noCells_deferred _) hI hl
    have hI' : ∀ B, I B → (w.putObj D (.deferred none)).heap[B]? = w.heap[B]? := fun B hB => World.putObj_heap_other (fun e => hI (e ▸ hB))
    rw [List.pairwise_cons] at hnd
    refine ⟨by simp, .inl ⟨D, w.putObj D (.deferred none), rfl, run_takeDeferred hh, ?_⟩⟩
    refine leaves_marks hT ds _ I ι H ⟨hf.1, fun i u hu => (hf.2 i u hu).move hI' (fun _ h => h) (fun _ _ h => h) hsh⟩ s1 (fun d hd => ?_) hnd.2 (out_ex hx hD hsh) hr
    obtain ⟨D', rfl, hD', hh', hI'', hl'⟩ := hm d (List.mem_cons_of_mem _ hd)
    have hne : D' ≠ D := fun e => hnd.1 _ hd (by rw [e])
    exact ⟨D', rfl, hD', by rw [World.putObj_heap_other hne]; exact hh', hI'', hl'⟩

theorem af_body (hT : TOk P T) {f : FuncId} {fn : Func} {c : Code} {args : List AV} {H : List ABlk} {R : AV → List ABlk → Prop} {n : Nat} (hf : P.funcs[f]? = some fn) (hb : fn.body = some c) (hname : (fn.name == "runtime.NumGoroutine") = false) (hn0 : fn.ntmps = n) (hn1 : Nat.ble args.length n = true)
    (h : AW P none H.length c ⟨⟨n, argsFr 0 args⟩, H⟩ (retPost T H.length fn R)) : AF P f args H R := by
  have hn1 := Nat.le_of_ble_eq_true hn1
  refine ⟨⟨fn, hf, by rw [hb]; rfl, hname⟩, fun w I ι vals hn ha hs => (callsIn_wide (n := 0)).1 (callsIn_of_wp_marks hf hb trivial ?_ rfl)⟩
  have hsim : Sim w.heap.size w I ι ⟨⟨n, argsFr 0 args⟩, H⟩ { tmps := vals ++ Array.replicate (fn.ntmps - vals.size) undef, defers := [] } := by
    refine ⟨⟨by simp [hn, hn0]; omega, fun i u hu => ?_⟩, hs, Nat.le_refl _, fun d hd => by simp at hd, List.Pairwise.nil⟩
    rw [look_args, if_pos (Nat.zero_le _), Nat.sub_zero] at hu
    have hlt : i < args.length := (List.getElem?_eq_some_iff.1 hu).1
    have := ha i u hu
    rw [Array.getD_eq_getD_getElem?] at this ⊢
    rw [Array.getElem?_append_left (by omega)]
    exact this
  refine wpIn_mono (h _ w I ι _ hsim (Nat.le_refl _)) ?_
  rintro e a' w' ⟨s', I', ι', hq, h1, h2⟩
  cases e with
  | normal => exact leaves_marks hT _ _ _ _ _ h1.fr h1.H h1.d h1.nd h2 hq
  | ret => exact leaves_marks hT _ _ _ _ _ h1.fr h1.H h1.d h1.nd h2 hq
  | exit id => exact hq.elim
  | goto l => exact hq.elim
  | panic ch => exact hq.elim
  | outgrown => exact hq.elim

end
end Go.Proofs.Ytolefphdldmlkaa.AL
