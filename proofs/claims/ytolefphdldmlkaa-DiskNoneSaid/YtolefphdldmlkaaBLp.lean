/- The abstract layer (second make), part p: contracts among more blocks, blocks that become immutable, blocks that are lent. -/
import Derived.Test.YtolefphdldmlkaaBLo
namespace Go.Proofs.Ytolefphdldmlkaa.AL
open Go Go.RowKit

section
variable {P : Program} {T : TTab} {m : Nat} {s s2 : St} {Q : Exit → St → Prop}

theorem af_post {f : FuncId} {args : List AV} {H : List ABlk} {R R' : AV → List ABlk → Prop} (h : AF P f args H R)
    (hR : ∀ r H', R r H' → ∃ r2 H2, Wk H.length ⟨⟨1, [(0, r)]⟩, H'⟩ ⟨⟨1, [(0, r2)]⟩, H2⟩ ∧ R' r2 H2) : AF P f args H R' := by
  refine ⟨h.1, fun w I ι vals hn ha hs => (h.2 w I ι vals hn ha hs).mono ?_⟩
  rintro e w' ⟨v, r, H', I', ι', he, h1, h2, h3, h4⟩
  obtain ⟨r2, H2, k1, k2⟩ := hR r H' h1
  obtain ⟨I2, ι2, k5, k6⟩ := k1 0 w' I' ι' { tmps := #[v], defers := [] } ⟨⟨rfl, fun i x hx => by
    by_cases e : 0 = i
    · subst e; rw [look_self] at hx; obtain rfl := Option.some.inj hx; exact h2
    · rw [look_other _ _ e] at hx; simp [look] at hx⟩, h3, Nat.zero_le _, fun d hd => by simp at hd, List.Pairwise.nil⟩ h4.len
  exact ⟨v, r2, H2, I2, ι2, he, k2, k5.fr.2 0 r2 rfl, k5.H, h4.trans k6⟩

/-- What a slot says once a row has become immutable. -/
def Frz (b sz : Nat) (xs : List (List PV)) (u u2 : AV) : Prop := u2 = u ∨ (∃ off len, u = .msl b sz off len ∧ off + len ≤ xs.length ∧ u2 = .p (.sl sz ((xs.drop off).take len))) ∨ ∃ off len v, u = .tup [.msl b sz off len, v] ∧ off + len ≤ xs.length ∧ u2 = .tup [.p (.sl sz ((xs.drop off).take len)), v]

theorem wk_freeze (b : Nat) {t : TypeId} {sz : Nat} {xs : List (List PV)} (hb : s.H[b]? = some (.row t sz xs)) (hH : s2.H = s.H.set b .dead) (hn : s2.fr.n = s.fr.n)
    (hfr : ∀ (i : Nat) (u2 : AV), look s2.fr.l i = some u2 → ∃ u, look s.fr.l i = some u ∧ Frz b sz xs u u2) : Wk m s s2 := fun N w I ι a hs hm => by
  have hlive : live s.H b := ⟨_, hb, rfl⟩
  obtain ⟨k1, k2⟩ := hs.H.freeze b hlive
  have hblk := hs.H.blk b _ hb
  rw [← hH] at k1 k2
  refine ⟨_, ι, hs.turn ⟨by rw [hs.fr.1, hn], fun i u2 hu2 => ?_⟩ k1 (k2.less hm), k2.less hm⟩
  obtain ⟨u, hu, hz⟩ := hfr i u2 hu2
  have hu := hs.fr.2 i u hu
  have hsl : ∀ (v : Value) (off len : Nat), off + len ≤ xs.length → ARep w I ι (.msl b sz off len) v → PRep w (fun C => I C ∨ ι b = some C) (.sl sz ((xs.drop off).take len)) v := by
    intro v off len hle hu
    cases hu with
    | msl _ _ _ _ B c hB hc hsz =>
      rcases hblk with ⟨_, g1⟩ | ⟨B', cs, g1, g2, g3, g4, gl, g6⟩
      · rw [g1] at hB; exact absurd hB (by simp)
      · rw [g1] at hB; obtain rfl := Option.some.inj hB
        exact row_sl (fun _ h => .inl h) (.inr g1) g2 g4 gl g6 hle hc
    | msl0 _ _ _ A =>
      have := PRep.sl (w := w) (I := fun C => I C ∨ ι b = some C) sz [] A 0 (fun _ _ => undef) (by simp) (by simp) (.inl rfl) (fun j e i u h => by simp at h)
      simp only [List.take_zero]
      exact this
  rcases hz with rfl | ⟨off, len, rfl, hle, rfl⟩ | ⟨off, len, v, rfl, hle, rfl⟩
  · exact hu.move (fun _ _ => rfl) (fun _ h => .inl h) (fun _ _ h => h) (Shape.refl w)
  · exact .p (hsl _ off len hle hu)
  · generalize a.tmps.getD i undef = x at hu
    cases hu with
    | tup _ vs hn hr =>
      refine .tup _ vs hn fun j u hj => ?_
      match j, hj with
      | 0, hj =>
        simp at hj; subst hj
        exact .p (hsl _ off len hle (hr 0 _ rfl))
      | 1, hj => exact (hr 1 u hj).move (fun _ _ => rfl) (fun _ h => .inl h) (fun _ _ h => h) (Shape.refl w)
      | j + 2, hj => simp at hj

def rho2 (n : Nat) (ps : List Nat) (b : Nat) : Nat := if b < ps.length then ps.getD b n else n + (b - ps.length)

structure MergeOk (ps : List Nat) (H H1' H' : List ABlk) : Prop where
  len : H'.length = H.length + (H1'.length - ps.length)
  old : ∀ (j p : Nat) (k : ABlk), ps[j]? = some p → H1'[j]? = some k → H'[p]? = some (k.ren (rho2 H.length ps))
  other : ∀ b : Nat, b < H.length → b ∉ ps → H'[b]? = H[b]?
  new : ∀ (d : Nat) (k : ABlk), H1'[ps.length + d]? = some k → H'[H.length + d]? = some (k.ren (rho2 H.length ps))

theorem merge_ok {w w' : World} {I I' : Nat → Prop} {ι ι1 : Nat → Option Nat} {H H1 H1' H' : List ABlk} {ps : List Nat} {r1 : AV} {v : Value} (hs : SimH w I ι H) (hsel : Sel ps H H1) (hlt : ∀ p ∈ ps, p < H.length)
    (h2 : ARep w' I' ι1 r1 v) (h3 : SimH w' I' ι1 H1') (h4 : Ex H1.length w I (fun b => ι (rho H.length ps b)) H1 w' I' ι1 H1') (hm : MergeOk ps H H1' H') :
    ∃ ι', ARep w' I' ι' (r1.ren (rho2 H.length ps)) v ∧ SimH w' I' ι' H' ∧ Ex H.length w I ι H w' I' ι' H' := by
  have hs1 := hsel.sim hs
  have x := h4.ext
  have hlen1 : H1.length = ps.length := hsel.len
  have hl1 : ps.length ≤ H1'.length := by rw [← hlen1]; exact h4.len
  let ι' : Nat → Option Nat := fun b => if b < H.length then ι b else ι1 (ps.length + (b - H.length))
  have hrho : ∀ b p, ps[b]? = some p → rho H.length ps b = p := fun b p hb => by simp [rho, List.getD_eq_getElem?_getD, hb]
  have hkey : ∀ b, ι1 b = ι' (rho2 H.length ps b) := by
    intro b
    unfold rho2
    split
    · rename_i hb
      have hp : ps[b]? = some ps[b] := List.getElem?_eq_getElem hb
      have hpl := hlt _ (List.getElem_mem hb)
      rw [List.getD_eq_getElem?_getD, hp]
      simp only [Option.getD_some, ι']
      rw [if_pos hpl, h4.keep b (by rw [hlen1]; exact hb)]
      show ι (rho H.length ps b) = _
      rw [hrho b _ hp]
    · rename_i hb
      simp only [ι']
      rw [if_neg (by omega)]
      congr 1; omega
  have hkey' : ι1 = fun b => ι' (rho2 H.length ps b) := funext hkey
  have hold : ∀ b B, ι b = some B → ι' b = some B := fun b B hb => by
    have : b < H.length := by
      rcases Nat.lt_or_ge b H.length with h | h
      · exact h
      · rw [hs.dom b h] at hb; exact absurd hb (by simp)
    simp only [ι']; rw [if_pos this]; exact hb
  have hlive1 : ∀ b, live H1 b → live H (rho H.length ps b) := fun b hb => hsel.live hb
  -- the blocks of the new list, one by one
  have hcase : ∀ (b : Nat) (k : ABlk), H'[b]? = some k → (∃ j k1, H1'[j]? = some k1 ∧ b = rho2 H.length ps j ∧ k = k1.ren (rho2 H.length ps)) ∨ (b < H.length ∧ b ∉ ps ∧ H[b]? = some k) := by
    intro b k hk
    rcases Nat.lt_or_ge b H.length with hb | hb
    · by_cases hbp : b ∈ ps
      · obtain ⟨j, hj⟩ := List.getElem?_of_mem hbp
        have hjl : j < ps.length := (List.getElem?_eq_some_iff.1 hj).1
        have hj1 : H1'[j]? = some H1'[j] := List.getElem?_eq_getElem (by omega)
        have := hm.old j b _ hj hj1
        rw [hk] at this
        refine .inl ⟨j, _, hj1, ?_, Option.some.inj this⟩
        unfold rho2; rw [if_pos hjl, List.getD_eq_getElem?_getD, hj]; rfl
      · rw [hm.other b hb hbp] at hk
        exact .inr ⟨hb, hbp, hk⟩
    · have hbl : b < H'.length := (List.getElem?_eq_some_iff.1 hk).1
      have hml := hm.len
      obtain ⟨d, rfl⟩ : ∃ d, b = H.length + d := ⟨b - H.length, by omega⟩
      have hd : ps.length + d < H1'.length := by omega
      have hj1 : H1'[ps.length + d]? = some H1'[ps.length + d] := List.getElem?_eq_getElem hd
      have := hm.new d _ hj1
      rw [hk] at this
      refine .inl ⟨ps.length + d, _, hj1, ?_, Option.some.inj this⟩
      unfold rho2; rw [if_neg (by omega)]; omega
  have hlive' : ∀ b, live H' b → (∃ j, live H1' j ∧ b = rho2 H.length ps j) ∨ (b < H.length ∧ b ∉ ps ∧ live H b) := by
    rintro b ⟨k, hk, hl⟩
    rcases hcase b k hk with ⟨j, k1, h1, h2, h3⟩ | ⟨h1, h2, h3⟩
    · exact .inl ⟨j, ⟨k1, h1, by subst h3; cases k1 <;> first | exact hl | rfl⟩, h2⟩
    · exact .inr ⟨h1, h2, k, h3, hl⟩
  have hunp : ∀ b B, b < H.length → b ∉ ps → live H b → ι b = some B → (¬ ∃ b1, live H1 b1 ∧ ι (rho H.length ps b1) = some B) := by
    rintro b B hb hbp hl hB ⟨b1, hl1, hB1⟩
    have := hs.inj _ _ B (hlive1 b1 hl1) hl hB1 hB
    have hb1 : b1 < ps.length := by rw [← hlen1]; exact live_lt hl1
    have hp : ps[b1]? = some ps[b1] := List.getElem?_eq_getElem hb1
    rw [hrho b1 _ hp] at this
    exact hbp (this ▸ List.getElem_mem hb1)
  have hImv : ∀ C, I C → w'.heap[C]? = w.heap[C]? := x.keepsI hs1
  refine ⟨ι', ?_, ⟨fun b k hk => ?_, fun b b' B hb hb' e1 e2 => ?_, h3.Ilt, fun b hb => ?_, fun b B hb => ?_⟩, ⟨⟨x.os, x.tape, x.output, x.size, x.shape, x.Isub, fun C hC hn => ?_, fun C hC => ?_, fun b B hb hB => ?_⟩, fun b hb => ?_, ?_⟩⟩
  · rw [hkey'] at h2; exact h2.ren_of
  · rcases hcase b k hk with ⟨j, k1, h1, rfl, rfl⟩ | ⟨hb, hbp, hk0⟩
    · have h0 := h3.blk j k1 h1
      cases k1 with
      | dead => trivial
      | cells t l =>
        obtain ⟨B, cs, g1, g2, g3, g4, g5⟩ := h0
        refine ⟨B, cs, by rw [← hkey]; exact g1, g2, g3, by rw [renL_map]; simpa using g4, fun i u hu => ?_⟩
        rw [renL_map, List.getElem?_map, Option.map_eq_some_iff] at hu
        obtain ⟨y, hy, rfl⟩ := hu
        have := g5 i y hy
        rw [hkey'] at this
        exact this.ren_of
      | lp q st pe l =>
        obtain ⟨B, cs, g1, g2, g3, g4, g5⟩ := h0
        refine ⟨B, cs, by rw [← hkey]; exact g1, g2, g3, by rw [renL_map]; simpa using g4, fun i u hu => ?_⟩
        rw [renL_map, List.getElem?_map, Option.map_eq_some_iff] at hu
        obtain ⟨y, hy, rfl⟩ := hu
        have := g5 i y hy
        rw [hkey'] at this
        exact this.ren_of
      | row t sz xs =>
        rcases h0 with ⟨g1, g2⟩ | ⟨B, cs, g1, g2⟩
        · exact .inl ⟨g1, by rw [← hkey]; exact g2⟩
        · exact .inr ⟨B, cs, by rw [← hkey]; exact g1, g2⟩
      | obj o =>
        obtain ⟨g0, B, g1, g2⟩ := h0
        exact ⟨g0, B, by rw [← hkey]; exact g1, g2⟩
    · have h0 := hs.blk b k hk0
      have hI' : ∀ B, live H b → ι b = some B → B < w.heap.size → ¬ I' B := fun B hl hB hBl hI => by
        rcases x.Inew B hI with h | h | h
        · exact hs.notI hl hB h
        · omega
        · exact hunp b B hb hbp hl hB h
      cases k with
      | dead => trivial
      | cells t l =>
        obtain ⟨B, cs, g1, g2, g3, g4, g5⟩ := h0
        have hl : live H b := ⟨_, hk0, rfl⟩
        refine ⟨B, cs, hold b B g1, by rw [x.frame B (hs.rng b B g1) (hunp b B hb hbp hl g1)]; exact g2, hI' B hl g1 (hs.rng b B g1), g4, fun i u hu => (g5 i u hu).move hImv x.Isub hold x.shape⟩
      | lp q st pe l =>
        obtain ⟨B, cs, g1, g2, g3, g4, g5⟩ := h0
        have hl : live H b := ⟨_, hk0, rfl⟩
        refine ⟨B, cs, hold b B g1, by rw [x.frame B (hs.rng b B g1) (hunp b B hb hbp hl g1)]; exact g2, hI' B hl g1 (hs.rng b B g1), g4, fun i u hu => (g5 i u hu).move hImv x.Isub hold x.shape⟩
      | row t sz xs =>
        rcases h0 with ⟨g1, g2⟩ | ⟨B, cs, g1, g2, g3, g4, g5, g6⟩
        · exact .inl ⟨g1, by simp only [ι']; rw [if_pos hb]; exact g2⟩
        · have hl : live H b := ⟨_, hk0, rfl⟩
          exact .inr ⟨B, cs, hold b B g1, by rw [x.frame B (hs.rng b B g1) (hunp b B hb hbp hl g1)]; exact g2, hI' B hl g1 (hs.rng b B g1), g4, g5, fun j e hj => ⟨(g6 j e hj).1, fun i u hu => ((g6 j e hj).2 i u hu).move hImv x.Isub⟩⟩
      | obj o =>
        obtain ⟨g0, B, g1, g2, g3⟩ := h0
        have hl : live H b := ⟨_, hk0, rfl⟩
        exact ⟨g0, B, hold b B g1, by rw [x.frame B (hs.rng b B g1) (hunp b B hb hbp hl g1)]; exact g2, hI' B hl g1 (hs.rng b B g1)⟩
  · rcases hlive' b hb with ⟨j, hj, rfl⟩ | ⟨q1, q2, q3⟩ <;> rcases hlive' b' hb' with ⟨j', hj', rfl⟩ | ⟨q1', q2', q3'⟩
    · rw [← hkey] at e1 e2
      rw [h3.inj j j' B hj hj' e1 e2]
    · rw [← hkey] at e1
      simp only [ι'] at e2; rw [if_pos q1'] at e2
      rcases x.own j B hj e1 with h | h
      · have := hs.rng b' B e2; omega
      · exact absurd h (hunp b' B q1' q2' q3' e2)
    · rw [← hkey] at e2
      simp only [ι'] at e1; rw [if_pos q1] at e1
      rcases x.own j' B hj' e2 with h | h
      · have := hs.rng b B e1; omega
      · exact absurd h (hunp b B q1 q2 q3 e1)
    · simp only [ι'] at e1 e2; rw [if_pos q1] at e1; rw [if_pos q1'] at e2
      exact hs.inj b b' B q3 q3' e1 e2
  · have hml := hm.len
    simp only [ι']; rw [if_neg (by omega)]
    exact h3.dom _ (by omega)
  · simp only [ι'] at hb
    split at hb
    · have := hs.rng b B hb; have := x.size; omega
    · exact h3.rng _ B hb
  · refine x.frame C hC ?_
    rintro ⟨b1, hl1, hB1⟩
    exact hn ⟨_, hlive1 b1 hl1, hB1⟩
  · rcases x.Inew C hC with h | h | ⟨b1, hl1, hB1⟩
    · exact .inl h
    · exact .inr (.inl h)
    · exact .inr (.inr ⟨_, hlive1 b1 hl1, hB1⟩)
  · rcases hlive' b hb with ⟨j, hj, rfl⟩ | ⟨q1, q2, q3⟩
    · rw [← hkey] at hB
      rcases x.own j B hj hB with h | ⟨b1, hl1, hB1⟩
      · exact .inl h
      · exact .inr ⟨_, hlive1 b1 hl1, hB1⟩
    · simp only [ι'] at hB; rw [if_pos q1] at hB
      exact .inr ⟨b, q3, hB⟩
  · simp only [ι']; rw [if_pos hb]
  · have hml := hm.len; omega

theorem af_sub {f : FuncId} {args args1 : List AV} {H H1 : List ABlk} {R R' : AV → List ABlk → Prop} (ps : List Nat) (h : AF P f args1 H1 R) (hsel : Sel ps H H1) (hlt : ∀ p ∈ ps, p < H.length) (hargs : args = renL (rho H.length ps) args1)
    (hR : ∀ r1 H1', R r1 H1' → ∃ H', MergeOk ps H H1' H' ∧ R' (r1.ren (rho2 H.length ps)) H') : AF P f args H R' := by
  refine ⟨h.1, fun w I ι vals hn ha hs => ?_⟩
  have hs1 := hsel.sim hs
  rw [renL_map] at hargs
  subst hargs
  refine (h.2 w I (fun b => ι (rho H.length ps b)) vals (by simpa using hn) (fun i u hu => ren_inv u (ha i _ (by rw [List.getElem?_map, hu]; rfl))) hs1).mono ?_
  rintro e w' ⟨v, r1, H1', I', ι1, he, h1, h2, h3, h4⟩
  obtain ⟨H', hm, hR'⟩ := hR r1 H1' h1
  obtain ⟨ι', k1, k2, k3⟩ := merge_ok hs hsel hlt h2 h3 h4 hm
  exact ⟨v, _, H', I', ι', he, hR', k1, k2, k3⟩

theorem ay_sub {b1 b : Nat} {args args1 : List AV} {H H1 : List ABlk} {R R' : AV → List ABlk → Prop} (ps : List Nat) (h : AY P b1 args1 H1 R) (hsel : Sel ps H H1) (hlt : ∀ p ∈ ps, p < H.length) (hb : b = rho H.length ps b1) (hargs : args = renL (rho H.length ps) args1)
    (hR : ∀ r1 H1', R r1 H1' → ∃ H', MergeOk ps H H1' H' ∧ R' (r1.ren (rho2 H.length ps)) H') : AY P b args H R' := by
  intro w I ι vals B hn ha hs hB
  have hs1 := hsel.sim hs
  rw [renL_map] at hargs
  subst hargs
  subst hb
  obtain ⟨fn, tmps, assign, body, k1, k2⟩ := h w I (fun b => ι (rho H.length ps b)) vals B (by simpa using hn) (fun i u hu => ren_inv u (ha i _ (by rw [List.getElem?_map, hu]; rfl))) hs1 hB
  refine ⟨fn, tmps, assign, body, k1, k2.mono ?_⟩
  rintro e w' ⟨v, r1, H1', I', ι1, he, h1, h2, h3, h4⟩
  obtain ⟨H', hm, hR'⟩ := hR r1 H1' h1
  obtain ⟨ι', k1, k2, k3⟩ := merge_ok hs hsel hlt h2 h3 h4 hm
  exact ⟨v, _, H', I', ι', he, hR', k1, k2, k3⟩

end
end Go.Proofs.Ytolefphdldmlkaa.AL
