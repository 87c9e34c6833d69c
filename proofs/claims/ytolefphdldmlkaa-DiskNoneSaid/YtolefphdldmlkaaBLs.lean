/- The abstract layer (second make), part s: a row is lent to a function that only reads it. -/
import Derived.Test.YtolefphdldmlkaaBLq
namespace Go.Proofs.Ytolefphdldmlkaa.AL
open Go Go.RowKit

mutual
def flatB : AV → Bool
  | .p (.raw _) => true
  | .p _ => false
  | .agg l => flatL l
  | .tup l => flatL l
  | .clo _ l => flatL l
  | .mth _ l => flatL l
  | _ => true
def flatL : List AV → Bool
  | [] => true
  | u :: r => flatB u && flatL r
end
def rawP : PV → Prop
  | .raw _ => True
  | _ => False
def flatK : ABlk → Prop
  | .dead => True
  | .cells _ l => flatL l = true
  | .row _ _ xs => ∀ e ∈ xs, ∀ u ∈ e, rawP u
  | .obj _ => True
  | .lp _ _ _ l => flatL l = true
def flatH (H : List ABlk) : Prop := ∀ k ∈ H, flatK k

theorem raw_rep {w : World} {I I' : Nat → Prop} {u : PV} {v : Value} (h : PRep w I u v) (hu : rawP u) : PRep w I' u v := by
  cases h with
  | raw v h1 => exact .raw v h1
  | sl => exact hu.elim
  | box => exact hu.elim

theorem flatL_get : ∀ {l : List AV} {i : Nat} {u : AV}, flatL l = true → l[i]? = some u → flatB u = true
  | [], i, u, _, h => by simp at h
  | x :: r, 0, u, hl, h => by simp only [flatL, Bool.and_eq_true] at hl; simp at h; subst h; exact hl.1
  | x :: r, i + 1, u, hl, h => by simp only [flatL, Bool.and_eq_true] at hl; exact flatL_get hl.2 (by simpa using h)

theorem flat_rep {w : World} {I I' : Nat → Prop} {ι : Nat → Option Nat} {u : AV} {v : Value} (h : ARep w I ι u v) (hu : flatB u = true) : ARep w I' ι u v := by
  induction h with
  | @p x v h =>
    cases x with
    | raw y => exact .p (raw_rep h trivial)
    | sl _ _ => simp [flatB] at hu
    | box _ => simp [flatB] at hu
  | top v => exact .top v
  | agg l vs hn _ ih => exact .agg l vs hn fun i u hi => ih i u hi (flatL_get (by simpa [flatB] using hu) hi)
  | tup l vs hn _ ih => exact .tup l vs hn fun i u hi => ih i u hi (flatL_get (by simpa [flatB] using hu) hi)
  | ref b off B h => exact .ref b off B h
  | msl b sz off len B c h hc hs => exact .msl b sz off len B c h hc hs
  | msl0 b sz off A => exact .msl0 b sz off A
  | elr b sz i off B h => exact .elr b sz i off B h
  | clo fn caps vs hn _ ih => exact .clo fn caps vs hn fun i u hi => ih i u hi (flatL_get (by simpa [flatB] using hu) hi)
  | mth fn caps vs hn _ ih => exact .mth fn caps vs hn fun i u hi => ih i u hi (flatL_get (by simpa [flatB] using hu) hi)
  | yld b B h => exact .yld b B h
  | mp b B h => exact .mp b B h

theorem belowL_get {n : Nat} : ∀ {l : List AV} {i : Nat} {u : AV}, belowL n l = true → l[i]? = some u → belowB n u = true
  | [], i, u, _, h => by simp at h
  | x :: r, 0, u, hl, h => by simp only [belowL, Bool.and_eq_true] at hl; simp at h; subst h; exact hl.1
  | x :: r, i + 1, u, hl, h => by simp only [belowL, Bool.and_eq_true] at hl; exact belowL_get hl.2 (by simpa using h)

theorem below_any {w : World} {I : Nat → Prop} {ι ι' : Nat → Option Nat} {u : AV} {v : Value} (h : ARep w I ι u v) (hu : belowB 0 u = true) : ARep w I ι' u v := by
  induction h with
  | p h => exact .p h
  | top v => exact .top v
  | agg l vs hn _ ih => exact .agg l vs hn fun i u hi => ih i u hi (belowL_get (by simpa [belowB] using hu) hi)
  | tup l vs hn _ ih => exact .tup l vs hn fun i u hi => ih i u hi (belowL_get (by simpa [belowB] using hu) hi)
  | ref b off B h => simp [belowB, Nat.blt_eq] at hu
  | msl b sz off len B c h hc hs => simp [belowB, Nat.blt_eq] at hu
  | msl0 b sz off A => exact .msl0 b sz off A
  | elr b sz i off B h => simp [belowB, Nat.blt_eq] at hu
  | clo fn caps vs hn _ ih => exact .clo fn caps vs hn fun i u hi => ih i u hi (belowL_get (by simpa [belowB] using hu) hi)
  | mth fn caps vs hn _ ih => exact .mth fn caps vs hn fun i u hi => ih i u hi (belowL_get (by simpa [belowB] using hu) hi)
  | yld b B h => simp [belowB, Nat.blt_eq] at hu
  | mp b B h => simp [belowB, Nat.blt_eq] at hu

/-- An argument that is lent. -/
def Lend (sz : Nat) (xs : List (List PV)) (u u1 : AV) : Prop := (u1 = u ∧ belowB 0 u = true) ∨ ∃ off len, u = .msl 0 sz off len ∧ off + len ≤ xs.length ∧ u1 = .p (.sl sz ((xs.drop off).take len))

theorem af_lend {P : Program} {f : FuncId} {args args1 : List AV} {t : TypeId} {sz : Nat} {xs : List (List PV)} {R : AV → List ABlk → Prop} (h : AF P f args1 [] R) (hlen : args.length = args1.length)
    (hargs : ∀ (i : Nat) (u1 : AV), args1[i]? = some u1 → ∃ u, args[i]? = some u ∧ Lend sz xs u u1) (hflat : ∀ r H', R r H' → flatB r = true ∧ flatH H') :
    AF P f args [.row t sz xs] (fun r H' => ∃ r1 H1, R r1 H1 ∧ r = r1.ren (1 + ·) ∧ H' = .row t sz xs :: H1.map (ABlk.ren (1 + ·))) := by
  refine ⟨h.1, fun w I ι vals hn ha hs => ?_⟩
  have hlive : live [ABlk.row t sz xs] 0 := ⟨_, rfl, rfl⟩
  have hblk := hs.blk 0 _ rfl
  have hlt0 : ∀ b, live [ABlk.row t sz xs] b → b = 0 := fun b hb => by have := live_lt hb; simp at this; exact this
  have hs1 : SimH w (fun C => I C ∨ ι 0 = some C) (fun _ => none) [] := ⟨fun b k hb => by simp at hb, fun b b' B hb => by obtain ⟨k, hk, _⟩ := hb; simp at hk, fun C hC => by
    rcases hC with hC | hC
    · exact hs.Ilt C hC
    · exact hs.rng 0 C hC, fun _ _ => rfl, fun b B hb => by simp at hb⟩
  refine (h.2 w _ _ vals (by omega) (fun i u1 hu1 => ?_) hs1).mono ?_
  · obtain ⟨u, hu, hl⟩ := hargs i u1 hu1
    have hr := ha i u hu
    rcases hl with ⟨rfl, hb⟩ | ⟨off, len, rfl, hle, rfl⟩
    · have : ARep w (fun C => I C ∨ ι 0 = some C) ι u1 (vals.getD i undef) := hr.move (fun _ _ => rfl) (fun _ h => .inl h) (fun _ _ h => h) (Shape.refl w)
      exact below_any this hb
    · generalize vals.getD i undef = v at hr
      cases hr with
      | msl _ _ _ _ B c hB hc hsz =>
        rcases hblk with ⟨_, g1⟩ | ⟨B', cs, g1, g2, g3, g4, gl, g6⟩
        · rw [g1] at hB; exact absurd hB (by simp)
        · rw [g1] at hB; obtain rfl := Option.some.inj hB
          exact .p (row_sl (fun _ h => .inl h) (.inr g1) g2 g4 gl g6 hle hc)
      | msl0 _ _ _ A =>
        have := PRep.sl (w := w) (I := fun C => I C ∨ ι 0 = some C) sz [] A 0 (fun _ _ => undef) (by simp) (by simp) (.inl rfl) (fun j e i u h => by simp at h)
        simp only [List.take_zero]
        exact .p this
  · rintro e w' ⟨v, r1, H1, I', ι1, he, h1, h2, h3, h4⟩
    obtain ⟨hf1, hf2⟩ := hflat r1 H1 h1
    have x := h4.ext
    have hnol : ∀ b, ¬ live ([] : List ABlk) b := fun b hb => by obtain ⟨k, hk, _⟩ := hb; simp at hk
    have hframe : ∀ B, B < w.heap.size → w'.heap[B]? = w.heap[B]? := fun B hB => x.frame B hB fun ⟨b, hb, _⟩ => hnol b hb
    have hown : ∀ b B, live H1 b → ι1 b = some B → w.heap.size ≤ B := fun b B hb hB => by
      rcases x.own b B hb hB with h | ⟨b0, h0, _⟩
      · exact h
      · exact absurd h0 (hnol b0)
    have hInew : ∀ B, I' B → (I B ∨ ι 0 = some B) ∨ w.heap.size ≤ B := fun B hB => by
      rcases x.Inew B hB with h | h | ⟨b, hb, _⟩
      · exact .inl h
      · exact .inr h
      · exact absurd hb (hnol b)
    let ι' : Nat → Option Nat := fun b => if b = 0 then ι 0 else ι1 (b - 1)
    let I3 : Nat → Prop := fun C => I' C ∧ ι 0 ≠ some C
    have hIsub : ∀ C, I C → I3 C := fun C hC => ⟨x.Isub C (.inl hC), fun hC' => hs.notI hlive hC' hC⟩
    have hι1 : ι1 = fun b => ι' (1 + b) := by
      funext b
      simp only [ι']
      rw [if_neg (by omega)]; congr 1; omega
    have hsz := x.size
    have hrow : BlkOk w' I3 ι' 0 (.row t sz xs) := by
      rcases hblk with ⟨g1, g2⟩ | ⟨B, cs, g1, g2, g3, g4, g5, g6⟩
      · exact .inl ⟨g1, g2⟩
      · refine .inr ⟨B, cs, g1, by rw [hframe B (hs.rng 0 B g1)]; exact g2, fun hc => hc.2 g1, g4, g5, fun j e hj => ⟨(g6 j e hj).1, fun i u hu => ((g6 j e hj).2 i u hu).move (fun C hC => hframe C (hs.Ilt C hC)) hIsub⟩⟩
    have hb1 : ∀ b k, H1[b]? = some k → BlkOk w' I3 ι' (1 + b) (k.ren (1 + ·)) := fun b k hk => by
      have h0 := h3.blk b k hk
      have hfk := hf2 k (List.mem_of_getElem? hk)
      have e1 : ι' (1 + b) = ι1 b := by rw [hι1]
      cases k with
      | dead => trivial
      | cells t l =>
        obtain ⟨B, cs, g1, g2, g3, g4, g5⟩ := h0
        refine ⟨B, cs, by rw [e1]; exact g1, g2, fun hc => g3 hc.1, by rw [renL_map]; simpa using g4, fun i u hu => ?_⟩
        rw [renL_map, List.getElem?_map, Option.map_eq_some_iff] at hu
        obtain ⟨y, hy, rfl⟩ := hu
        have := flat_rep (I' := I3) (g5 i y hy) (flatL_get hfk hy)
        rw [hι1] at this
        exact this.ren_of
      | lp q st pe l =>
        obtain ⟨B, cs, g1, g2, g3, g4, g5⟩ := h0
        refine ⟨B, cs, by rw [e1]; exact g1, g2, fun hc => g3 hc.1, by rw [renL_map]; simpa using g4, fun i u hu => ?_⟩
        rw [renL_map, List.getElem?_map, Option.map_eq_some_iff] at hu
        obtain ⟨y, hy, rfl⟩ := hu
        have := flat_rep (I' := I3) (g5 i y hy) (flatL_get hfk hy)
        rw [hι1] at this
        exact this.ren_of
      | row t sz xs =>
        rcases h0 with ⟨g1, g2⟩ | ⟨B, cs, g1, g2, g3, g4, g5, g6⟩
        · exact .inl ⟨g1, by rw [e1]; exact g2⟩
        · exact .inr ⟨B, cs, by rw [e1]; exact g1, g2, fun hc => g3 hc.1, g4, g5, fun j e hj => ⟨(g6 j e hj).1, fun i u hu => raw_rep ((g6 j e hj).2 i u hu) (hfk e (List.mem_of_getElem? hj) u (List.mem_of_getElem? hu))⟩⟩
      | obj o =>
        obtain ⟨g0, B, g1, g2, g3⟩ := h0
        exact ⟨g0, B, by rw [e1]; exact g1, g2, fun hc => g3 hc.1⟩
    have hlive1 : ∀ b, live H1 b ∨ ¬ live H1 b := fun b => Classical.em _
    have hget : ∀ b, (ABlk.row t sz xs :: H1.map (ABlk.ren (1 + ·)))[1 + b]? = (H1[b]?).map (ABlk.ren (1 + ·)) := fun b => by
      rw [Nat.add_comm, List.getElem?_cons_succ, List.getElem?_map]
    have hlv : ∀ b, live (ABlk.row t sz xs :: H1.map (ABlk.ren (1 + ·))) (1 + b) → live H1 b := fun b hb => by
      obtain ⟨k, hk, hl⟩ := hb
      rw [hget, Option.map_eq_some_iff] at hk
      obtain ⟨k1, hk1, rfl⟩ := hk
      exact ⟨k1, hk1, by cases k1 <;> first | exact hl | rfl⟩
    refine ⟨v, _, _, I3, ι', he, ⟨r1, H1, h1, rfl, rfl⟩, ?_, ⟨fun b k hk => ?_, fun b b' B hb hb' e1 e2 => ?_, fun B hB => h3.Ilt B hB.1, fun b hb => ?_, fun b B hb => ?_⟩, ⟨⟨x.os, x.tape, x.output, x.size, x.shape, hIsub, fun C hC _ => hframe C hC, fun C hC => ?_, fun b B hb hB => ?_⟩, fun b hb => ?_, by simp⟩⟩
    · have := flat_rep (I' := I3) h2 hf1
      rw [hι1] at this
      exact this.ren_of
    · rcases Nat.eq_zero_or_pos b with rfl | hpos
      · simp at hk; subst hk; exact hrow
      · obtain ⟨d, rfl⟩ : ∃ d, b = 1 + d := ⟨b - 1, by omega⟩
        rw [hget, Option.map_eq_some_iff] at hk
        obtain ⟨k1, hk1, rfl⟩ := hk
        exact hb1 d k1 hk1
    · have hz : ∀ B, ι' 0 = some B → B < w.heap.size := fun B hB => hs.rng 0 B hB
      have hp : ∀ d B, live (ABlk.row t sz xs :: H1.map (ABlk.ren (1 + ·))) (1 + d) → ι' (1 + d) = some B → w.heap.size ≤ B := fun d B hd hB => by
        rw [← congrFun hι1 d] at hB
        exact hown d B (hlv d hd) hB
      rcases Nat.eq_zero_or_pos b with rfl | hpos <;> rcases Nat.eq_zero_or_pos b' with rfl | hpos'
      · rfl
      · obtain ⟨d, rfl⟩ : ∃ d, b' = 1 + d := ⟨b' - 1, by omega⟩
        have h1 := hz B e1; have h2 := hp d B hb' e2; omega
      · obtain ⟨d, rfl⟩ : ∃ d, b = 1 + d := ⟨b - 1, by omega⟩
        have h1 := hz B e2; have h2 := hp d B hb e1; omega
      · obtain ⟨d, rfl⟩ : ∃ d, b = 1 + d := ⟨b - 1, by omega⟩
        obtain ⟨d', rfl⟩ : ∃ d, b' = 1 + d := ⟨b' - 1, by omega⟩
        rw [← congrFun hι1 d] at e1
        rw [← congrFun hι1 d'] at e2
        rw [h3.inj d d' B (hlv d hb) (hlv d' hb') e1 e2]
    · have hb : 1 + H1.length ≤ b := by simpa [Nat.add_comm] using hb
      simp only [ι']; rw [if_neg (by omega)]
      exact h3.dom _ (by omega)
    · simp only [ι'] at hb
      split at hb
      · have := hs.rng 0 B hb; omega
      · exact h3.rng _ B hb
    · rcases hInew C hC.1 with (h | h) | h
      · exact .inl h
      · exact absurd h hC.2
      · exact .inr (.inl h)
    · rcases Nat.eq_zero_or_pos b with rfl | hpos
      · exact .inr ⟨0, hlive, hB⟩
      · obtain ⟨d, rfl⟩ : ∃ d, b = 1 + d := ⟨b - 1, by omega⟩
        rw [← congrFun hι1 d] at hB
        exact .inl (hown d B (hlv d hb) hB)
    · have : b = 0 := by simp at hb; exact hb
      subst this; rfl

mutual
theorem ren_comp (ρ ρ' : Nat → Nat) : ∀ u : AV, (u.ren ρ).ren ρ' = u.ren (fun b => ρ' (ρ b))
  | .p _ => rfl
  | .agg l => by rw [AV.ren, AV.ren, AV.ren, ren_compL ρ ρ' l]
  | .tup l => by rw [AV.ren, AV.ren, AV.ren, ren_compL ρ ρ' l]
  | .ref b o => rfl
  | .msl b s o k => rfl
  | .elr b s i o => rfl
  | .clo f l => by rw [AV.ren, AV.ren, AV.ren, ren_compL ρ ρ' l]
  | .mth f l => by rw [AV.ren, AV.ren, AV.ren, ren_compL ρ ρ' l]
  | .yld b => rfl
  | .mp b => rfl
  | .top => rfl
theorem ren_compL (ρ ρ' : Nat → Nat) : ∀ l : List AV, renL ρ' (renL ρ l) = renL (fun b => ρ' (ρ b)) l
  | [] => rfl
  | u :: r => by rw [renL, renL, renL, ren_comp ρ ρ' u, ren_compL ρ ρ' r]
end
theorem renB_comp (ρ ρ' : Nat → Nat) (k : ABlk) : (k.ren ρ).ren ρ' = k.ren (fun b => ρ' (ρ b)) := by
  cases k with
  | cells t l => rw [ABlk.ren, ABlk.ren, ABlk.ren, ren_compL]
  | lp q st pe l => rw [ABlk.ren, ABlk.ren, ABlk.ren, ren_compL]
  | _ => rfl

/-- Arguments that are lent: the row of block b. -/
def LendL (b sz : Nat) (xs : List (List PV)) : List AV → List AV → Prop
  | [], [] => True
  | u :: r, u1 :: r1 => ((u1 = u ∧ belowB 0 u = true) ∨ (u = .msl b sz 0 xs.length ∧ u1 = .p (.sl sz xs)) ∨ ∃ off len, u = .msl b sz off len ∧ off + len ≤ xs.length ∧ u1 = .p (.sl sz ((xs.drop off).take len))) ∧ LendL b sz xs r r1
  | _, _ => False

theorem LendL.zero {b sz : Nat} {xs : List (List PV)} : ∀ {l l1 : List AV}, LendL b sz xs l l1 → LendL 0 sz xs (renL (fun _ => 0) l) l1 ∧ l = renL (fun _ => b) (renL (fun _ => 0) l)
  | [], [], _ => ⟨trivial, rfl⟩
  | [], _ :: _, h => h.elim
  | _ :: _, [], h => h.elim
  | u :: r, u1 :: r1, h => by
    obtain ⟨h1, h2⟩ := h
    obtain ⟨k1, k2⟩ := LendL.zero h2
    refine ⟨⟨?_, k1⟩, ?_⟩
    · rcases h1 with ⟨rfl, hb⟩ | ⟨rfl, rfl⟩ | ⟨off, len, rfl, hle, rfl⟩
      · have := ren_id (ρ := fun _ => 0) (fun b hb => absurd hb (by omega)) u1 hb
        exact .inl ⟨this.symm, by rw [this]; exact hb⟩
      · exact .inr (.inl ⟨rfl, rfl⟩)
      · exact .inr (.inr ⟨off, len, rfl, hle, rfl⟩)
    · rw [renL, renL]
      congr 1
      · rcases h1 with ⟨rfl, hb⟩ | ⟨rfl, rfl⟩ | ⟨off, len, rfl, hle, rfl⟩
        · rw [ren_id (ρ := fun _ => 0) (fun b hb => absurd hb (by omega)) u1 hb, ren_id (ρ := fun _ => b) (fun b hb => absurd hb (by omega)) u1 hb]
        · rfl
        · rfl
theorem LendL.get {sz : Nat} {xs : List (List PV)} : ∀ {l l1 : List AV}, LendL 0 sz xs l l1 → l.length = l1.length ∧ ∀ (i : Nat) (u1 : AV), l1[i]? = some u1 → ∃ u, l[i]? = some u ∧ Lend sz xs u u1
  | [], [], _ => ⟨rfl, fun i u1 h => by simp at h⟩
  | [], _ :: _, h => h.elim
  | _ :: _, [], h => h.elim
  | u :: r, u1 :: r1, h => by
    obtain ⟨h1, h2⟩ := h
    obtain ⟨k1, k2⟩ := LendL.get h2
    refine ⟨by simp [k1], fun i v hv => ?_⟩
    cases i with
    | zero =>
      simp at hv; subst hv
      refine ⟨u, rfl, ?_⟩
      rcases h1 with h | ⟨rfl, rfl⟩ | h
      · exact .inl h
      · exact .inr ⟨0, xs.length, rfl, by omega, by simp⟩
      · exact .inr h
    | succ i => exact k2 i v (by simpa using hv)

theorem af_lent {P : Program} {f : FuncId} {args args1 : List AV} {r : AV} {B H : List ABlk} (h : AF P f args1 [] (Pure r B)) (b : Nat) {t : TypeId} {sz : Nat} {xs : List (List PV)} (hb : H[b]? = some (.row t sz xs)) (hargs : LendL b sz xs args args1)
    (hf1 : flatB r = true) (hf2 : flatH B) : AF P f args H (Pure (r.ren (H.length + ·)) (H ++ B.map (ABlk.ren (H.length + ·)))) := by
  obtain ⟨k1, k2⟩ := hargs.zero
  obtain ⟨k3, k4⟩ := k1.get
  have hlt : b < H.length := (List.getElem?_eq_some_iff.1 hb).1
  have h1 := af_lend (t := t) (sz := sz) (xs := xs) h k3 k4 (by rintro _ _ ⟨rfl, rfl⟩; exact ⟨hf1, hf2⟩)
  have hrho : rho2 H.length [b] 0 = b := rfl
  have hrho' : (fun c => rho2 H.length [b] (1 + c)) = (H.length + ·) := by
    funext c
    unfold rho2
    rw [if_neg (by simp)]; simp
  refine af_sub [b] h1 (Sel.single hb) (by simpa using hlt) ?_ ?_
  · refine k2.trans ?_
    rw [ren_compL, ren_compL]; rfl
  · rintro _ _ ⟨r1, H1, ⟨rfl, rfl⟩, rfl, rfl⟩
    refine ⟨H ++ H1.map (ABlk.ren (H.length + ·)), ⟨by simp, fun j p k hj hk => ?_, fun c hc _ => by rw [List.getElem?_append_left hc], fun d k hd => ?_⟩, ?_, rfl⟩
    · cases j with
      | zero =>
        simp at hj hk; subst hj; subst hk
        rw [List.getElem?_append_left hlt, hb]; rfl
      | succ j => simp at hj
    · rw [List.getElem?_append_right (by omega)]
      simp only [List.length_cons, List.length_nil, Nat.zero_add] at hd
      rw [Nat.add_comm, List.getElem?_cons_succ, List.getElem?_map, Option.map_eq_some_iff] at hd
      obtain ⟨k1, hk1, rfl⟩ := hd
      rw [renB_comp, hrho', show H.length + d - H.length = d by omega, List.getElem?_map, hk1]; rfl
    · rw [ren_comp, hrho']

/-- nil is answered beside another value: a row of nothing. -/
theorem retNilT {H : List ABlk} {R : AV → List ABlk → Prop} (t : TypeId) (sz : Nat) {v : AV} (hv : belowB 0 v = true) (h : R (.tup [.msl 0 sz 0 0, v]) [.row t sz []]) :
    ∃ u2 H2, Wk 0 ⟨⟨1, [(0, .tup [.p (.raw (.slice none 0 0)), v])]⟩, H⟩ ⟨⟨1, [(0, u2)]⟩, H2⟩ ∧ R u2 H2 := by
  refine ⟨_, _, Wk.trans (wk_trunc 0 [0] rfl (by simp) (by simp [keepL, look, belowF, belowB, belowL, hv]) (by simp [belowH])) (Wk.trans (wk_phantom t sz) ?_), h⟩
  intro N w I ι a hs hm
  refine ⟨I, ι, hs.turn ⟨hs.fr.1, fun j u hu => ?_⟩ hs.H (Ex.refl hm), Ex.refl hm⟩
  by_cases e : 0 = j
  · subst e
    rw [look_self] at hu; obtain rfl := Option.some.inj hu
    have := hs.fr.2 0 _ rfl
    generalize a.tmps.getD 0 undef = x at this
    cases this with
    | tup _ vs hn hr =>
      refine .tup _ vs hn fun i u hi => ?_
      match i, hi with
      | 0, hi =>
        simp at hi; subst hi
        rw [rep_raw (hr 0 _ rfl)]; exact .msl0 0 sz 0 none
      | 1, hi => exact hr 1 u hi
      | i + 2, hi => simp at hi
  · rw [look_other _ _ e] at hu; simp [look] at hu

/-- Two pieces of code meet at a state that is named. -/
theorem aw_cut {P : Program} {ro : Option Nat} {m : Nat} {x y : Code} {s : St} {Q : Exit → St → Prop} (s1 : St) (C : Prop) (h1 : AW P ro m x s (thenA (fun s' => Wk m s' s1 ∧ C) Q)) (h2 : C → AW P ro m y s1 Q) : AW P ro m (.seq x y) s Q :=
  aw_seq (h1.mono fun e s h => by
    cases e with
    | normal => exact aw_wk h.1 (h2 h.2)
    | _ => exact h)

theorem aw_cut2 {P : Program} {ro : Option Nat} {m : Nat} {x y : Code} {s : St} {Q : Exit → St → Prop} (J : St → Prop) (h1 : AW P ro m x s (thenA (fun s' => ∃ s1, Wk m s' s1 ∧ J s1) Q)) (h2 : ∀ s1, J s1 → AW P ro m y s1 Q) : AW P ro m (.seq x y) s Q :=
  aw_seq (h1.mono fun e s h => by
    cases e with
    | normal => obtain ⟨s1, h3, h4⟩ := h; exact aw_wk h3 (h2 s1 h4)
    | _ => exact h)

theorem af_frzT {P : Program} {f : FuncId} {args : List AV} {t : TypeId} {sz n : Nat} {xs : List (List PV)} {v : AV} (h : AF P f args [] (Pure (.tup [.msl 0 sz 0 n, v]) [.row t sz xs])) (hn : n = xs.length) (hv : belowB 0 v = true) : AF P f args [] (Pure (.tup [.p (.sl sz xs), v]) []) := by
  refine af_post h ?_
  rintro _ _ ⟨rfl, rfl⟩
  refine ⟨_, _, ?_, rfl, rfl⟩
  subst hn
  refine Wk.trans (wk_freeze (s2 := ⟨⟨1, [(0, .tup [.p (.sl sz xs), v])]⟩, [.dead]⟩) 0 (t := t) (sz := sz) (xs := xs) rfl rfl rfl (fun i u2 hu => ?_)) (wk_trunc 0 [0] rfl rfl (by simp [keepL, look, belowF, belowB, belowL, hv]) rfl)
  by_cases e : 0 = i
  · subst e
    rw [look_self] at hu; obtain rfl := Option.some.inj hu
    exact ⟨_, look_self _ _ _, .inr (.inr ⟨0, xs.length, v, rfl, by omega, by simp⟩)⟩
  · rw [look_other _ _ e] at hu; simp [look] at hu

/-- Arguments that say more than a contract asks: nil is a list of nothing. -/
def ArgL : List AV → List AV → Prop
  | [], [] => True
  | u :: r, u1 :: r1 => (u1 = u ∨ (u = .p (.raw (.slice none 0 0)) ∧ ∃ sz, u1 = .p (.sl sz []))) ∧ ArgL r r1
  | _, _ => False
theorem ArgL.get : ∀ {l l1 : List AV}, ArgL l l1 → l.length = l1.length ∧ ∀ (i : Nat) (u1 : AV), l1[i]? = some u1 → ∃ u, l[i]? = some u ∧ (u1 = u ∨ (u = .p (.raw (.slice none 0 0)) ∧ ∃ sz, u1 = .p (.sl sz [])))
  | [], [], _ => ⟨rfl, fun i u1 h => by simp at h⟩
  | [], _ :: _, h => h.elim
  | _ :: _, [], h => h.elim
  | u :: r, u1 :: r1, h => by
    obtain ⟨h1, h2⟩ := h
    obtain ⟨k1, k2⟩ := ArgL.get h2
    refine ⟨by simp [k1], fun i v hv => ?_⟩
    cases i with
    | zero => simp at hv; subst hv; exact ⟨u, rfl, h1⟩
    | succ i => exact k2 i v (by simpa using hv)
theorem af_args {P : Program} {f : FuncId} {args args1 : List AV} {H : List ABlk} {R : AV → List ABlk → Prop} (h : AF P f args1 H R) (ha : ArgL args args1) : AF P f args H R := by
  obtain ⟨k1, k2⟩ := ha.get
  refine ⟨h.1, fun w I ι vals hn hv hs => h.2 w I ι vals (by omega) (fun i u1 hu1 => ?_) hs⟩
  obtain ⟨u, hu, h1⟩ := k2 i u1 hu1
  rcases h1 with rfl | ⟨rfl, sz, rfl⟩
  · exact hv i _ hu
  · rw [rep_raw (hv i _ hu)]
    exact .p (PRep.sl sz [] none 0 (fun _ _ => undef) (by simp) (by simp) (.inl rfl) (fun j e i u h => by simp at h))
end Go.Proofs.Ytolefphdldmlkaa.AL
