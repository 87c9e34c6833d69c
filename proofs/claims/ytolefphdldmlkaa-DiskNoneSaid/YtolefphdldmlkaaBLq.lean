/- The abstract layer (second make), part q: contracts that tell one answer, blocks that are forgotten, lent and frozen. -/
import Derived.Test.YtolefphdldmlkaaBLp
namespace Go.Proofs.Ytolefphdldmlkaa.AL
open Go Go.RowKit

abbrev i64 (n : Int) : AV := .p (.raw (.int .i64 n))
abbrev bl (b : Bool) : AV := .p (.raw (.bool b))
mutual
theorem ren_id {n : Nat} {ρ : Nat → Nat} (hρ : ∀ b, b < n → ρ b = b) : ∀ u : AV, belowB n u = true → u.ren ρ = u
  | .p _, _ => rfl
  | .agg l, h => by rw [AV.ren, ren_idL hρ l h]
  | .tup l, h => by rw [AV.ren, ren_idL hρ l h]
  | .ref b o, h => by rw [AV.ren, hρ b (by simpa [belowB, Nat.blt_eq] using h)]
  | .msl b s o k, h => by rw [AV.ren, hρ b (by simpa [belowB, Nat.blt_eq] using h)]
  | .elr b s i o, h => by rw [AV.ren, hρ b (by simpa [belowB, Nat.blt_eq] using h)]
  | .clo f l, h => by rw [AV.ren, ren_idL hρ l h]
  | .mth f l, h => by rw [AV.ren, ren_idL hρ l h]
  | .yld b, h => by rw [AV.ren, hρ b (by simpa [belowB, Nat.blt_eq] using h)]
  | .mp b, h => by rw [AV.ren, hρ b (by simpa [belowB, Nat.blt_eq] using h)]
  | .top, _ => rfl
theorem ren_idL {n : Nat} {ρ : Nat → Nat} (hρ : ∀ b, b < n → ρ b = b) : ∀ l : List AV, belowL n l = true → renL ρ l = l
  | [], _ => rfl
  | u :: r, h => by
    simp only [belowL, Bool.and_eq_true] at h
    rw [renL, ren_id hρ u h.1, ren_idL hρ r h.2]
end

mutual
theorem ren_congr {n : Nat} {ρ ρ' : Nat → Nat} (hρ : ∀ b, b < n → ρ b = ρ' b) : ∀ u : AV, belowB n u = true → u.ren ρ = u.ren ρ'
  | .p _, _ => rfl
  | .agg l, h => by rw [AV.ren, AV.ren, ren_congrL hρ l h]
  | .tup l, h => by rw [AV.ren, AV.ren, ren_congrL hρ l h]
  | .ref b o, h => by rw [AV.ren, AV.ren, hρ b (by simpa [belowB, Nat.blt_eq] using h)]
  | .msl b s o k, h => by rw [AV.ren, AV.ren, hρ b (by simpa [belowB, Nat.blt_eq] using h)]
  | .elr b s i o, h => by rw [AV.ren, AV.ren, hρ b (by simpa [belowB, Nat.blt_eq] using h)]
  | .clo f l, h => by rw [AV.ren, AV.ren, ren_congrL hρ l h]
  | .mth f l, h => by rw [AV.ren, AV.ren, ren_congrL hρ l h]
  | .yld b, h => by rw [AV.ren, AV.ren, hρ b (by simpa [belowB, Nat.blt_eq] using h)]
  | .mp b, h => by rw [AV.ren, AV.ren, hρ b (by simpa [belowB, Nat.blt_eq] using h)]
  | .top, _ => rfl
theorem ren_congrL {n : Nat} {ρ ρ' : Nat → Nat} (hρ : ∀ b, b < n → ρ b = ρ' b) : ∀ l : List AV, belowL n l = true → renL ρ l = renL ρ' l
  | [], _ => rfl
  | u :: r, h => by
    simp only [belowL, Bool.and_eq_true] at h
    rw [renL, renL, ren_congr hρ u h.1, ren_congrL hρ r h.2]
end

theorem renB_id {n : Nat} {ρ : Nat → Nat} (hρ : ∀ b, b < n → ρ b = b) (k : ABlk) (h : belowK n k = true) : k.ren ρ = k := by
  cases k with
  | cells t l => rw [ABlk.ren, ren_idL hρ l h]
  | lp q st pe l => rw [ABlk.ren, ren_idL hρ l h]
  | _ => rfl

def keepL (l : List (Nat × AV)) : List Nat → List (Nat × AV)
  | [] => []
  | t :: ks => match look l t with
    | some u => (t, u) :: keepL l ks
    | none => keepL l ks
def belowF (n : Nat) : List (Nat × AV) → Bool
  | [] => true
  | (_, u) :: r => belowB n u && belowF n r

theorem look_keep {n : Nat} {l : List (Nat × AV)} : ∀ {ks : List Nat}, belowF n (keepL l ks) = true → ∀ {i : Nat} {u : AV}, look (keepL l ks) i = some u → look l i = some u ∧ belowB n u = true
  | [], _, i, u, h => by simp [keepL, look] at h
  | t :: ks, hb, i, u, h => by
    simp only [keepL] at hb h
    cases hl : look l t with
    | none => rw [hl] at hb h; exact look_keep hb h
    | some x =>
      rw [hl] at hb h
      simp only [belowF, Bool.and_eq_true] at hb
      by_cases e : t = i
      · subst e; rw [look_self] at h; obtain rfl := Option.some.inj h; exact ⟨hl, hb.1⟩
      · rw [look_other _ _ e] at h; exact look_keep hb.2 h

section
variable {P : Program} {T : TTab} {m : Nat} {s s2 : St} {Q : Exit → St → Prop}

theorem callP {f : FuncId} {args : List AV} {H : List ABlk} {K : AV → List ABlk → Prop} {r : AV} {H' : List ABlk} (h : AF P f args H (Pure r H')) (k : K r H') : callK P f args H K :=
  callI h (by rintro _ _ ⟨rfl, rfl⟩; exact k)

theorem Sel.range (H : List ABlk) (k : Nat) (hk : k ≤ H.length) (hb : belowH k (H.take k) = true) : Sel (List.range k) H (H.take k) := by
  have hr : ∀ b, b < k → rho H.length (List.range k) b = b := fun b hb => by simp [rho, List.getD_eq_getElem?_getD, hb]
  refine ⟨by simp; omega, List.nodup_range, fun b x hx => .inr ⟨b, ?_, ?_⟩⟩
  · have : b < k := by have := (List.getElem?_eq_some_iff.1 hx).1; simp at this; omega
    simp [this]
  · have hlt : b < k := by have := (List.getElem?_eq_some_iff.1 hx).1; simp at this; omega
    rw [renB_id hr x (belowH_get hb b x hx)]
    rw [List.getElem?_take_of_lt hlt] at hx
    exact hx

/-- The last blocks are forgotten, and all slots but some. -/
theorem wk_trunc (k : Nat) (ks : List Nat) (hm : Nat.ble m k = true) (hk : Nat.ble k s.H.length = true) (hf : belowF k (keepL s.fr.l ks) = true) (hb : belowH k (s.H.take k) = true) :
    Wk m s ⟨⟨s.fr.n, keepL s.fr.l ks⟩, s.H.take k⟩ := by
  have hm := Nat.le_of_ble_eq_true hm
  have hk := Nat.le_of_ble_eq_true hk
  refine wk_sel (List.range k) (Sel.range s.H k hk hb) (fun b hb => by rw [List.getElem?_range (by omega)]) rfl (fun i u2 hu => ?_)
  obtain ⟨h1, h2⟩ := look_keep hf hu
  refine ⟨u2, h1, .inr (.inl ?_)⟩
  rw [ren_id (fun b hb => by simp [rho, List.getD_eq_getElem?_getD, hb]) u2 h2]

/-- A result of which the first blocks are all. -/
theorem retI {u : AV} {H : List ABlk} {R : AV → List ABlk → Prop} (m : Nat) (h : R u (H.take m)) (hu : belowB m u = true) (hb : belowH m (H.take m) = true) (hm : Nat.ble m H.length = true) : ∃ u2 H2, Wk m ⟨⟨1, [(0, u)]⟩, H⟩ ⟨⟨1, [(0, u2)]⟩, H2⟩ ∧ R u2 H2 :=
  ⟨u, H.take m, wk_trunc (s := ⟨⟨1, [(0, u)]⟩, H⟩) m [0] (by rw [Nat.ble_eq]; exact Nat.le_refl _) hm (by simp [keepL, look, belowF, hu]) hb, h⟩

theorem Sel.single {H : List ABlk} {b : Nat} {t : TypeId} {sz : Nat} {xs : List (List PV)} (hb : H[b]? = some (.row t sz xs)) : Sel [b] H [.row t sz xs] := by
  refine ⟨rfl, by simp, fun c k hc => .inr ?_⟩
  cases c with
  | zero => simp at hc; subst hc; exact ⟨b, rfl, hb⟩
  | succ c => simp at hc

/-- A result with its own row. -/
theorem retRow {u u2 : AV} {H : List ABlk} {R : AV → List ABlk → Prop} (b : Nat) {t : TypeId} {sz : Nat} {xs : List (List PV)} (hb : H[b]? = some (.row t sz xs)) (hu : u = u2.ren (fun _ => b)) (h1 : belowB 1 u2 = true) (h : R u2 [.row t sz xs]) :
    ∃ u2 H2, Wk 0 ⟨⟨1, [(0, u)]⟩, H⟩ ⟨⟨1, [(0, u2)]⟩, H2⟩ ∧ R u2 H2 := by
  refine ⟨u2, _, wk_sel (s := ⟨⟨1, [(0, u)]⟩, H⟩) (s2 := ⟨⟨1, [(0, u2)]⟩, [.row t sz xs]⟩) [b] (Sel.single hb) (fun c hc => absurd hc (by omega)) rfl (fun i v hv => ?_), h⟩
  by_cases e : 0 = i
  · subst e
    rw [look_self] at hv; obtain rfl := Option.some.inj hv
    refine ⟨u, look_self _ _ _, .inr (.inl ?_)⟩
    rw [hu]
    exact ren_congr (fun c hc => by
      have : c = 0 := by omega
      subst this; rfl) u2 h1
  · rw [look_other _ _ e] at hv; simp [look] at hv

/-- A row of nothing is added. -/
theorem wk_phantom (t : TypeId) (sz : Nat) : Wk m s ⟨s.fr, s.H ++ [.row t sz []]⟩ := fun N w I ι a hs hm => by
  obtain ⟨h1, h2⟩ := hs.H.phantom t sz
  exact ⟨I, ι, hs.turn hs.fr h1 (h2.less hm), h2.less hm⟩

/-- A nil slice is one of no elements. -/
theorem wk_nil (i b sz off : Nat) (h : look s.fr.l i = some (.p (.raw (.slice none 0 0)))) : Wk m s ⟨⟨s.fr.n, (i, .msl b sz off 0) :: s.fr.l⟩, s.H⟩ := fun N w I ι a hs hm => by
  refine ⟨I, ι, hs.turn ⟨hs.fr.1, fun j u hu => ?_⟩ hs.H (Ex.refl hm), Ex.refl hm⟩
  by_cases e : i = j
  · subst e
    rw [look_self] at hu; obtain rfl := Option.some.inj hu
    rw [rep_raw (hs.fr.2 i _ h)]; exact .msl0 b sz off none
  · rw [look_other _ _ e] at hu; exact hs.fr.2 j u hu

/-- What a cell may say instead. -/
def LessC (u u2 : AV) : Prop := u2 = u ∨ u2 = .top ∨ (∃ b sz off, u = .p (.raw (.slice none 0 0)) ∧ u2 = .msl b sz off 0) ∨ (∃ sz, u = .p (.raw (.slice none 0 0)) ∧ u2 = .p (.sl sz []))
theorem LessC.rep {w : World} {I : Nat → Prop} {ι : Nat → Option Nat} {u u2 : AV} {v : Value} (h : LessC u u2) (hu : ARep w I ι u v) : ARep w I ι u2 v := by
  rcases h with rfl | rfl | ⟨b, sz, off, rfl, rfl⟩ | ⟨sz, rfl, rfl⟩
  · exact hu
  · exact .top v
  · rw [rep_raw hu]; exact .msl0 b sz off none
  · rw [rep_raw hu]; exact .p (nil_sl sz)
def LessCL : List AV → List AV → Prop
  | [], [] => True
  | u :: r, u2 :: r2 => LessC u u2 ∧ LessCL r r2
  | _, _ => False
theorem LessCL.get : ∀ {l l2 : List AV}, LessCL l l2 → l2.length = l.length ∧ ∀ (i : Nat) (u2 : AV), l2[i]? = some u2 → ∃ u, l[i]? = some u ∧ LessC u u2
  | [], [], _ => ⟨rfl, fun i u h => by simp at h⟩
  | [], _ :: _, h => h.elim
  | _ :: _, [], h => h.elim
  | u :: r, u2 :: r2, h => by
    obtain ⟨h1, h2⟩ := LessCL.get h.2
    refine ⟨by simp [h1], fun i x hx => ?_⟩
    cases i with
    | zero => simp at hx; subst hx; exact ⟨u, rfl, h.1⟩
    | succ i => exact h2 i x (by simpa using hx)

/-- Cells say less. -/
theorem wk_cells (b : Nat) {t : TypeId} {l : List AV} (l2 : List AV) (hb : s.H[b]? = some (.cells t l)) (hl : LessCL l l2) : Wk m s ⟨s.fr, s.H.set b (.cells t l2)⟩ := fun N w I ι a hs hm => by
  obtain ⟨h1, h2⟩ := hl.get
  have hlive : live s.H b := ⟨_, hb, rfl⟩
  have hlv : ∀ c, live (s.H.set b (.cells t l2)) c → live s.H c := fun c hc => live_set hc hlive
  have hsim : SimH w I ι (s.H.set b (.cells t l2)) := by
    refine ⟨fun c k hc => ?_, fun c c' B hc hc' => hs.H.inj c c' B (hlv c hc) (hlv c' hc'), hs.H.Ilt, fun c hc => hs.H.dom c (by simpa using hc), hs.H.rng⟩
    by_cases e : c = b
    · subst e
      rw [List.getElem?_set_self (live_lt hlive)] at hc
      obtain rfl := Option.some.inj hc
      obtain ⟨B, cs, g1, g2, g3, g4, g5⟩ := hs.H.blk c _ hb
      refine ⟨B, cs, g1, g2, g3, by omega, fun i u2 hu => ?_⟩
      obtain ⟨u, hu', hle⟩ := h2 i u2 hu
      exact hle.rep (g5 i u hu')
    · rw [List.getElem?_set_ne (by omega)] at hc
      exact hs.H.blk c k hc
  have hx : Ex m w I ι s.H w I ι (s.H.set b (.cells t l2)) := ⟨⟨rfl, rfl, rfl, Nat.le_refl _, Shape.refl w, fun _ h => h, fun _ _ _ => rfl, fun _ h => .inl h, fun c B hc h => .inr ⟨c, hlv c hc, h⟩⟩, fun _ _ => rfl, by simpa using hm⟩
  exact ⟨I, ι, hs.turn hs.fr hsim hx, hx⟩

/-- A slot that holds nil holds a list of nothing. -/
theorem wk_nilP (i sz : Nat) (h : look s.fr.l i = some (.p (.raw (.slice none 0 0)))) : Wk m s ⟨⟨s.fr.n, (i, .p (.sl sz [])) :: s.fr.l⟩, s.H⟩ := fun N w I ι a hs hm => by
  refine ⟨I, ι, hs.turn ⟨hs.fr.1, fun j u hu => ?_⟩ hs.H (Ex.refl hm), Ex.refl hm⟩
  by_cases e : i = j
  · subst e
    rw [look_self] at hu; obtain rfl := Option.some.inj hu
    rw [rep_raw (hs.fr.2 i _ h)]; exact .p (nil_sl sz)
  · rw [look_other _ _ e] at hu; exact hs.fr.2 j u hu

/-- Elements of a row say less: nil is a list of nothing. -/
def LessP (u u2 : PV) : Prop := u2 = u ∨ ∃ sz, u = .raw (.slice none 0 0) ∧ u2 = .sl sz []
theorem LessP.rep {w : World} {I : Nat → Prop} {u u2 : PV} {v : Value} (h : LessP u u2) (hu : PRep w I u v) : PRep w I u2 v := by
  rcases h with rfl | ⟨sz, rfl, rfl⟩
  · exact hu
  · cases hu; exact nil_sl sz
theorem wk_row (b : Nat) {t : TypeId} {sz : Nat} {xs : List (List PV)} (xs2 : List (List PV)) (hb : s.H[b]? = some (.row t sz xs)) (hn : xs2.length = xs.length)
    (hl : ∀ (j : Nat) (e2 : List PV), xs2[j]? = some e2 → ∃ e, xs[j]? = some e ∧ e2.length = e.length ∧ ∀ (i : Nat) (u2 : PV), e2[i]? = some u2 → ∃ u, e[i]? = some u ∧ LessP u u2) : Wk m s ⟨s.fr, s.H.set b (.row t sz xs2)⟩ := fun N w I ι a hs hm => by
  have hlive : live s.H b := ⟨_, hb, rfl⟩
  have hlv : ∀ c, live (s.H.set b (.row t sz xs2)) c → live s.H c := fun c hc => live_set hc hlive
  have hsim : SimH w I ι (s.H.set b (.row t sz xs2)) := by
    refine ⟨fun c k hc => ?_, fun c c' B hc hc' => hs.H.inj c c' B (hlv c hc) (hlv c' hc'), hs.H.Ilt, fun c hc => hs.H.dom c (by simpa using hc), hs.H.rng⟩
    by_cases e : c = b
    · subst e
      rw [List.getElem?_set_self (live_lt hlive)] at hc
      obtain rfl := Option.some.inj hc
      rcases hs.H.blk c _ hb with ⟨g1, g2⟩ | ⟨B, cs, g1, g2, g3, g4, g5, g6⟩
      · subst g1
        exact .inl ⟨List.length_eq_zero_iff.1 (by simpa using hn), g2⟩
      · refine .inr ⟨B, cs, g1, g2, g3, by rw [hn]; exact g4, by rw [hn]; exact g5, fun j e2 hj => ?_⟩
        obtain ⟨e, he, hle, hu⟩ := hl j e2 hj
        obtain ⟨q1, q2⟩ := g6 j e he
        refine ⟨hle.trans q1, fun i u2 hu2 => ?_⟩
        obtain ⟨u, hu1, hlp⟩ := hu i u2 hu2
        exact hlp.rep (q2 i u hu1)
    · rw [List.getElem?_set_ne (by omega)] at hc
      exact hs.H.blk c k hc
  have hx : Ex m w I ι s.H w I ι (s.H.set b (.row t sz xs2)) := ⟨⟨rfl, rfl, rfl, Nat.le_refl _, Shape.refl w, fun _ h => h, fun _ _ _ => rfl, fun _ h => .inl h, fun c B hc h => .inr ⟨c, hlv c hc, h⟩⟩, fun _ _ => rfl, by simpa using hm⟩
  exact ⟨I, ι, hs.turn hs.fr hsim hx, hx⟩

/-- Cells that are never written again. -/
def FrzB (b : Nat) (cs : List PV) (u u2 : AV) : Prop := u2 = u ∨ ∃ o, u = .ref b o ∧ u2 = .p (.box (cs.drop o))

theorem wk_box (b : Nat) {t : TypeId} {l : List AV} {cs : List PV} (hb : s.H[b]? = some (.cells t l)) (hl : l = cs.map .p) (hH : s2.H = s.H.set b .dead) (hn : s2.fr.n = s.fr.n)
    (hfr : ∀ (i : Nat) (u2 : AV), look s2.fr.l i = some u2 → ∃ u, look s.fr.l i = some u ∧ FrzB b cs u u2) : Wk m s s2 := fun N w I ι a hs hm => by
  have hlive : live s.H b := ⟨_, hb, rfl⟩
  obtain ⟨k1, k2⟩ := hs.H.freeze b hlive
  obtain ⟨B, vs, g1, g2, g3, g4, g5⟩ := hs.H.blk b _ hb
  rw [← hH] at k1 k2
  refine ⟨_, ι, hs.turn ⟨by rw [hs.fr.1, hn], fun i u2 hu2 => ?_⟩ k1 (k2.less hm), k2.less hm⟩
  obtain ⟨u, hu, hz⟩ := hfr i u2 hu2
  have hu := hs.fr.2 i u hu
  rcases hz with rfl | ⟨o, rfl, rfl⟩
  · exact hu.move (fun _ _ => rfl) (fun _ h => .inl h) (fun _ _ h => h) (Shape.refl w)
  · generalize a.tmps.getD i undef = v at hu
    cases hu with
    | ref _ _ B' hB =>
      rw [g1] at hB; obtain rfl := Option.some.inj hB
      refine .p (.box _ B o (fun i => vs.getD (o + i) undef) (.inr g1) (fun i hi => ?_) (fun i u hu => ?_))
      · rw [cell_of_row w B _ vs t (0, 0) g2]
        simp at hi
        have : o + i < vs.size := by rw [hl] at g4; simp at g4; omega
        simp [Array.getD_eq_getD_getElem?, this]
      · rw [List.getElem?_drop] at hu
        have := g5 (o + i) (.p u) (by rw [hl, List.getElem?_map, hu]; rfl)
        cases this with
        | p h => exact h.move (fun _ _ => rfl) (fun _ h => .inl h)

/-- Frames with all slots frozen that can be. -/
def frzL (b sz : Nat) (xs : List (List PV)) : List (Nat × AV) → List (Nat × AV)
  | [] => []
  | (i, u) :: r => (i, match u with
    | .msl b' sz' off len => match b' == b && sz' == sz with
      | true => .p (.sl sz ((xs.drop off).take len))
      | false => u
    | _ => u) :: frzL b sz xs r

def boxL (b : Nat) (cs : List PV) : List (Nat × AV) → List (Nat × AV)
  | [] => []
  | (i, u) :: r => (i, match u with
    | .ref b' o => match b' == b with
      | true => .p (.box (cs.drop o))
      | false => u
    | _ => u) :: boxL b cs r

theorem look_box {b : Nat} {cs : List PV} : ∀ {l : List (Nat × AV)} {i : Nat} {u2 : AV}, look (boxL b cs l) i = some u2 → ∃ u, look l i = some u ∧ FrzB b cs u u2
  | [], i, u2, h => by simp [boxL, look] at h
  | (j, u) :: r, i, u2, h => by
    unfold boxL at h
    by_cases e : j = i
    · subst e
      rw [look_self] at h
      refine ⟨u, look_self _ _ _, ?_⟩
      obtain rfl := Option.some.inj h
      split
      · split
        · rename_i hb; exact .inr ⟨_, by rw [eq_of_beq hb], rfl⟩
        · exact .inl rfl
      · exact .inl rfl
    · rw [look_other _ _ e] at h ⊢
      exact look_box h

theorem wk_boxL (b : Nat) {t : TypeId} {l : List AV} (cs : List PV) (hb : s.H[b]? = some (.cells t l)) (hl : l = cs.map .p) : Wk m s ⟨⟨s.fr.n, boxL b cs s.fr.l⟩, s.H.set b .dead⟩ :=
  wk_box b hb hl rfl rfl fun _ _ h => look_box h

theorem wk_frz1 (i b : Nat) {t : TypeId} {sz off len : Nat} {xs : List (List PV)} (hb : s.H[b]? = some (.row t sz xs)) (hi : look s.fr.l i = some (.msl b sz off len)) (hle : off + len ≤ xs.length) :
    Wk m s ⟨⟨s.fr.n, (i, .p (.sl sz ((xs.drop off).take len))) :: s.fr.l⟩, s.H.set b .dead⟩ :=
  wk_freeze b hb rfl rfl fun j u2 hu => by
    by_cases e : i = j
    · subst e; rw [look_self] at hu; obtain rfl := Option.some.inj hu
      exact ⟨_, hi, .inr (.inl ⟨off, len, rfl, hle, rfl⟩)⟩
    · rw [look_other _ _ e] at hu; exact ⟨u2, hu, .inl rfl⟩

/-! Contracts at closed arguments stand among any blocks. -/
theorem af_lift {f : FuncId} {args : List AV} {r : AV} {B : List ABlk} (h : AF P f args [] (Pure r B)) (H : List ABlk) (hargs : belowL 0 args = true) :
    AF P f args H (Pure (r.ren (H.length + ·)) (H ++ B.map (ABlk.ren (H.length + ·)))) := by
  have hr : rho2 H.length [] = (H.length + ·) := by funext b; simp [rho2]
  refine af_sub [] h ⟨rfl, by simp, fun b k hb => by simp at hb⟩ (by simp) (ren_idL (fun b hb => absurd hb (by omega)) args hargs).symm ?_
  rintro r1 H1' ⟨rfl, rfl⟩
  refine ⟨_, ⟨by simp, fun j p k hj => by simp at hj, fun b hb _ => by rw [List.getElem?_append_left hb], fun d k hd => ?_⟩, by rw [hr], rfl⟩
  rw [List.getElem?_append_right (by omega), hr]
  simp at hd
  simp [hd]

/-- .. and where the answer is closed, too. -/
theorem af_at {f : FuncId} {args : List AV} {r : AV} (h : AF P f args [] (Pure r [])) (H : List ABlk) (hargs : belowL 0 args = true) (hr : belowB 0 r = true) : AF P f args H (Pure r H) := by
  have := af_lift h H hargs
  rw [ren_id (fun b hb => absurd hb (by omega)) r hr] at this
  simpa using this

/-- A row that is answered may be held for one that never changes. -/
theorem af_frz {f : FuncId} {args : List AV} {t : TypeId} {sz n : Nat} {xs : List (List PV)} (h : AF P f args [] (Pure (.msl 0 sz 0 n) [.row t sz xs])) (hn : n = xs.length) : AF P f args [] (Pure (.p (.sl sz xs)) []) := by
  refine af_post h ?_
  rintro _ _ ⟨rfl, rfl⟩
  refine ⟨_, _, ?_, rfl, rfl⟩
  refine Wk.trans (wk_frz1 0 0 (t := t) (sz := sz) (xs := xs) rfl rfl (by omega)) (Wk.trans (wk_trunc 0 [0] rfl rfl rfl rfl) ?_)
  subst hn
  simp only [List.drop_zero, List.take_length]
  exact Wk.refl _ _

end

/-! Blocks picked, and renamed. -/
def inv : List Nat → Nat → Nat
  | [], _ => 0
  | p :: r, b => match Nat.beq p b with
    | true => 0
    | false => inv r b + 1
def allLt (n : Nat) : List Nat → Bool
  | [] => true
  | p :: r => Nat.blt p n && allLt n r
def prefB : Nat → Nat → List Nat → Bool
  | 0, _, _ => true
  | _ + 1, _, [] => false
  | m + 1, k, p :: r => Nat.beq p k && prefB m (k + 1) r

theorem inv_get : ∀ {ps : List Nat} {b : Nat}, memB ps b = true → ps[inv ps b]? = some b
  | [], b, h => by simp [memB] at h
  | p :: r, b, h => by
    unfold inv; unfold memB at h
    cases e : Nat.beq p b with
    | true => rw [Nat.eq_of_beq_eq_true e]; rfl
    | false => rw [e] at h; simpa using inv_get h
theorem allLt_of {n : Nat} : ∀ {ps : List Nat}, allLt n ps = true → ∀ p ∈ ps, p < n
  | [], _, p, hp => by simp at hp
  | q :: r, h, p, hp => by
    simp only [allLt, Bool.and_eq_true, Nat.blt_eq] at h
    rcases List.mem_cons.1 hp with rfl | hp
    · exact h.1
    · exact allLt_of h.2 p hp
theorem pref_of : ∀ {m k : Nat} {ps : List Nat}, prefB m k ps = true → ∀ b : Nat, b < m → ps[b]? = some (k + b)
  | 0, _, _, _, b, hb => absurd hb (by omega)
  | m + 1, k, [], h, b, hb => by simp [prefB] at h
  | m + 1, k, p :: r, h, b, hb => by
    simp only [prefB, Bool.and_eq_true] at h
    cases b with
    | zero => simp [Nat.eq_of_beq_eq_true h.1]
    | succ b => rw [List.getElem?_cons_succ, pref_of h.2 b (by omega)]; congr 1; omega

mutual
def inB (ps : List Nat) : AV → Bool
  | .p _ => true
  | .agg l => inL ps l
  | .tup l => inL ps l
  | .ref b _ => memB ps b
  | .msl b _ _ _ => memB ps b
  | .elr b _ _ _ => memB ps b
  | .clo _ l => inL ps l
  | .mth _ l => inL ps l
  | .yld b => memB ps b
  | .mp b => memB ps b
  | .top => true
def inL (ps : List Nat) : List AV → Bool
  | [] => true
  | u :: r => inB ps u && inL ps r
end
mutual
theorem ren_inv_id {n : Nat} {ps : List Nat} : ∀ u : AV, inB ps u = true → (u.ren (inv ps)).ren (rho n ps) = u
  | .p _, _ => rfl
  | .agg l, h => by rw [AV.ren, AV.ren, ren_inv_idL l h]
  | .tup l, h => by rw [AV.ren, AV.ren, ren_inv_idL l h]
  | .ref b o, h => by rw [AV.ren, AV.ren, rho, List.getD_eq_getElem?_getD, inv_get h]; rfl
  | .msl b s o k, h => by rw [AV.ren, AV.ren, rho, List.getD_eq_getElem?_getD, inv_get h]; rfl
  | .elr b s i o, h => by rw [AV.ren, AV.ren, rho, List.getD_eq_getElem?_getD, inv_get h]; rfl
  | .clo f l, h => by rw [AV.ren, AV.ren, ren_inv_idL l h]
  | .mth f l, h => by rw [AV.ren, AV.ren, ren_inv_idL l h]
  | .yld b, h => by rw [AV.ren, AV.ren, rho, List.getD_eq_getElem?_getD, inv_get h]; rfl
  | .mp b, h => by rw [AV.ren, AV.ren, rho, List.getD_eq_getElem?_getD, inv_get h]; rfl
  | .top, _ => rfl
theorem ren_inv_idL {n : Nat} {ps : List Nat} : ∀ l : List AV, inL ps l = true → renL (rho n ps) (renL (inv ps) l) = l
  | [], _ => rfl
  | u :: r, h => by
    simp only [inL, Bool.and_eq_true] at h
    rw [renL, renL, ren_inv_id u h.1, ren_inv_idL r h.2]
end
def inK (ps : List Nat) : ABlk → Bool
  | .cells _ l => inL ps l
  | .lp _ _ _ l => inL ps l
  | _ => true
def pickH (H : List ABlk) (qs : List Nat) : List Nat → List ABlk
  | [] => []
  | p :: r => (H.getD p .dead).ren (inv qs) :: pickH H qs r
def pickOk (H : List ABlk) (qs : List Nat) : List Nat → Bool
  | [] => true
  | p :: r => inK qs (H.getD p .dead) && pickOk H qs r
def pickF (l : List (Nat × AV)) (qs : List Nat) : List Nat → List (Nat × AV)
  | [] => []
  | t :: ks => match look l t with
    | some u => (t, u.ren (inv qs)) :: pickF l qs ks
    | none => pickF l qs ks
def pickFOk (l : List (Nat × AV)) (qs : List Nat) : List Nat → Bool
  | [] => true
  | t :: ks => match look l t with
    | some u => inB qs u && pickFOk l qs ks
    | none => pickFOk l qs ks

theorem pickH_len {H : List ABlk} {qs : List Nat} : ∀ ps : List Nat, (pickH H qs ps).length = ps.length
  | [] => rfl
  | p :: r => by simp [pickH, pickH_len r]
theorem pickH_get {H : List ABlk} {qs : List Nat} {n : Nat} : ∀ {ps : List Nat}, pickOk H qs ps = true → ∀ (b : Nat) (k : ABlk), (pickH H qs ps)[b]? = some k → ∃ p : Nat, ps[b]? = some p ∧ H.getD p .dead = k.ren (rho n qs)
  | [], _, b, k, hb => by simp [pickH] at hb
  | p :: r, h, b, k, hb => by
    simp only [pickOk, Bool.and_eq_true] at h
    cases b with
    | zero =>
      simp only [pickH, List.getElem?_cons_zero, Option.some.injEq] at hb
      refine ⟨p, rfl, ?_⟩
      subst hb
      generalize H.getD p .dead = k at h
      cases k with
      | cells t l => simp only [ABlk.ren]; rw [ren_inv_idL l h.1]
      | lp q st pe l => simp only [ABlk.ren]; rw [ren_inv_idL l h.1]
      | _ => rfl
    | succ b =>
      obtain ⟨p', h1, h2⟩ := pickH_get (n := n) h.2 b k (by simpa [pickH] using hb)
      exact ⟨p', by simpa using h1, h2⟩
theorem pickF_get {l : List (Nat × AV)} {qs : List Nat} {n : Nat} : ∀ {ks : List Nat}, pickFOk l qs ks = true → ∀ (i : Nat) (u2 : AV), look (pickF l qs ks) i = some u2 → ∃ u, look l i = some u ∧ u = u2.ren (rho n qs)
  | [], _, i, u2, h => by simp [pickF, look] at h
  | t :: ks, hk, i, u2, h => by
    simp only [pickF] at h
    simp only [pickFOk] at hk
    cases hl : look l t with
    | none => rw [hl] at hk h; exact pickF_get hk i u2 h
    | some x =>
      rw [hl] at hk h
      simp only [Bool.and_eq_true] at hk
      by_cases e : t = i
      · subst e
        rw [look_self] at h; obtain rfl := Option.some.inj h
        exact ⟨x, hl, (ren_inv_id x hk.1).symm⟩
      · rw [look_other _ _ e] at h; exact pickF_get hk.2 i u2 h

section
variable {P : Program} {T : TTab} {m : Nat} {s s2 : St} {Q : Exit → St → Prop}

/-- Some blocks are kept, in an order, and some slots. -/
theorem wk_pick (ps ks : List Nat) (h : (prefB m 0 ps && nodupB ps && allLt s.H.length ps && pickOk s.H ps ps && pickFOk s.fr.l ps ks) = true) :
    Wk m s ⟨⟨s.fr.n, pickF s.fr.l ps ks⟩, pickH s.H ps ps⟩ := by
  simp only [Bool.and_eq_true] at h
  obtain ⟨⟨⟨⟨h1, h2⟩, h3⟩, h4⟩, h5⟩ := h
  refine wk_sel ps ⟨pickH_len ps, nodup_of h2, fun b k hb => .inr ?_⟩ (fun b hb => by rw [pref_of h1 b hb]; congr 1; omega) rfl (fun i u2 hu => ?_)
  · obtain ⟨p, hp, hk⟩ := pickH_get (n := s.H.length) h4 b k hb
    refine ⟨p, hp, ?_⟩
    have hlt := allLt_of h3 p (List.mem_of_getElem? hp)
    rw [← hk, List.getD_eq_getElem?_getD, List.getElem?_eq_getElem hlt]; rfl
  · obtain ⟨u, hu1, hu2⟩ := pickF_get (n := s.H.length) h5 i u2 hu
    exact ⟨u, hu1, .inr (.inl hu2)⟩

/-- A result with some of the blocks. -/
theorem retPick {u : AV} {H : List ABlk} {R : AV → List ABlk → Prop} {m : Nat} (ps : List Nat) (h : R (u.ren (inv ps)) (pickH H ps ps)) (hok : (prefB m 0 ps && nodupB ps && allLt H.length ps && pickOk H ps ps && inB ps u) = true) :
    ∃ u2 H2, Wk m ⟨⟨1, [(0, u)]⟩, H⟩ ⟨⟨1, [(0, u2)]⟩, H2⟩ ∧ R u2 H2 := by
  refine ⟨_, _, wk_pick (s := ⟨⟨1, [(0, u)]⟩, H⟩) ps [0] ?_, h⟩
  simpa [pickFOk, look] using hok

/-- nil is answered: a row of nothing. -/
theorem retNil {H : List ABlk} {R : AV → List ABlk → Prop} (t : TypeId) (sz : Nat) (h : R (.msl 0 sz 0 0) [.row t sz []]) :
    ∃ u2 H2, Wk 0 ⟨⟨1, [(0, .p (.raw (.slice none 0 0)))]⟩, H⟩ ⟨⟨1, [(0, u2)]⟩, H2⟩ ∧ R u2 H2 := by
  refine ⟨_, _, Wk.trans (wk_trunc 0 [0] rfl (by simp) rfl (by simp [belowH])) (Wk.trans (wk_phantom t sz) (Wk.trans (wk_nil 0 0 sz 0 rfl) (wk_pick [0] [0] rfl))), h⟩

end
end Go.Proofs.Ytolefphdldmlkaa.AL
