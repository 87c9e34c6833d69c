/- The abstract layer (second make), part t: contracts of which only the first blocks keep their places; ranges over a function. -/
import Derived.Test.YtolefphdldmlkaaBLs
namespace Go.Proofs.Ytolefphdldmlkaa.AL
open Go Go.RowKit

/-- As AF, but only the first m blocks keep their places. -/
def AFm (P : Program) (m : Nat) (f : FuncId) (args : List AV) (H : List ABlk) (R : AV → List ABlk → Prop) : Prop :=
  (∃ fn, P.funcs[f]? = some fn ∧ fn.body.isNone = false ∧ (fn.name == "runtime.NumGoroutine") = false) ∧
  ∀ (w : World) (I : Nat → Prop) (ι : Nat → Option Nat) (vals : Array Value), vals.size = args.length → (∀ i u, args[i]? = some u → ARep w I ι u (vals.getD i undef)) → SimH w I ι H →
    Calls P f vals w (fun e w' => ∃ v r H' I' ι', e = .returned v ∧ R r H' ∧ ARep w' I' ι' r v ∧ SimH w' I' ι' H' ∧ Ex m w I ι H w' I' ι' H')

def AYm (P : Program) (m b : Nat) (args : List AV) (H : List ABlk) (R : AV → List ABlk → Prop) : Prop :=
  ∀ (w : World) (I : Nat → Prop) (ι : Nat → Option Nat) (vals : Array Value) (B : Nat), vals.size = args.length → (∀ i u, args[i]? = some u → ARep w I ι u (vals.getD i undef)) → SimH w I ι H → ι b = some B →
    ∃ fn tmps assign body, (Instr.yield B vals).run P w = .ok (.round B fn tmps assign body) w ∧
      RoundIn Fence.wide 0 P B fn tmps assign body w (fun e w' => ∃ v r H' I' ι', e = .returned v ∧ R r H' ∧ ARep w' I' ι' r v ∧ SimH w' I' ι' H' ∧ Ex m w I ι H w' I' ι' H')

section
variable {P : Program} {T : TTab} {m : Nat} {s s2 : St} {Q : Exit → St → Prop}

theorem AFm.mono {f : FuncId} {args : List AV} {H : List ABlk} {R R' : AV → List ABlk → Prop} (h : AFm P m f args H R) (hR : ∀ r H', R r H' → R' r H') : AFm P m f args H R' :=
  ⟨h.1, fun w I ι vals hn ha hs => (h.2 w I ι vals hn ha hs).mono fun _ _ ⟨v, r, H', I', ι', e, hr, k⟩ => ⟨v, r, H', I', ι', e, hR _ _ hr, k⟩⟩

theorem af_bodyM (m : Nat) (hT : TOk P T) {f : FuncId} {fn : Func} {c : Code} {args : List AV} {H : List ABlk} {R : AV → List ABlk → Prop} {n : Nat} (hf : P.funcs[f]? = some fn) (hb : fn.body = some c) (hname : (fn.name == "runtime.NumGoroutine") = false) (hn0 : fn.ntmps = n) (hn1 : Nat.ble args.length n = true) (hmH : Nat.ble m H.length = true)
    (h : AW P none m c ⟨⟨n, argsFr 0 args⟩, H⟩ (retPost T m fn R)) : AFm P m f args H R := by
  have hn1 := Nat.le_of_ble_eq_true hn1
  have hmH := Nat.le_of_ble_eq_true hmH
  refine ⟨⟨fn, hf, by rw [hb]; rfl, hname⟩, fun w I ι vals hn ha hs => (callsIn_wide (n := 0)).1 (callsIn_of_wp_marks hf hb trivial ?_ rfl)⟩
  have hsim : Sim w.heap.size w I ι ⟨⟨n, argsFr 0 args⟩, H⟩ { tmps := vals ++ Array.replicate (fn.ntmps - vals.size) undef, defers := [] } := by
    refine ⟨⟨by simp [hn, hn0]; omega, fun i u hu => ?_⟩, hs, Nat.le_refl _, fun d hd => by simp at hd, List.Pairwise.nil⟩
    rw [look_args, if_pos (Nat.zero_le _), Nat.sub_zero] at hu
    have hlt : i < args.length := (List.getElem?_eq_some_iff.1 hu).1
    have := ha i u hu
    rw [Array.getD_eq_getD_getElem?] at this ⊢
    rw [Array.getElem?_append_left (by omega)]
    exact this
  refine wpIn_mono (h _ w I ι _ hsim hmH) ?_
  rintro e a' w' ⟨s', I', ι', hq, h1, h2⟩
  cases e with
  | normal => exact leaves_marks hT _ _ _ _ _ h1.fr h1.H h1.d h1.nd h2 hq
  | ret => exact leaves_marks hT _ _ _ _ _ h1.fr h1.H h1.d h1.nd h2 hq
  | exit id => exact hq.elim
  | goto l => exact hq.elim
  | panic ch => exact hq.elim
  | outgrown => exact hq.elim

/-- The blocks behind a call of which only the first m keep their places: the others stand at the list's end. -/
structure PadOk (ps : List Nat) (m : Nat) (H H1' H' : List ABlk) : Prop where
  len : H'.length = H.length + (H1'.length - m)
  old : ∀ (j p : Nat) (k : ABlk), j < m → ps[j]? = some p → H1'[j]? = some k → H'[p]? = some (k.ren (rho2 H.length (ps.take m)))
  gone : ∀ (j p : Nat), m ≤ j → ps[j]? = some p → H'[p]? = some .dead
  other : ∀ b : Nat, b < H.length → b ∉ ps → H'[b]? = H[b]?
  new : ∀ (d : Nat) (k : ABlk), H1'[m + d]? = some k → H'[H.length + d]? = some (k.ren (rho2 H.length (ps.take m)))

theorem merge_okM {m : Nat} {w w' : World} {I I' : Nat → Prop} {ι ι1 : Nat → Option Nat} {H H1 H1' H' : List ABlk} {ps : List Nat} {r1 : AV} {v : Value} (hs : SimH w I ι H) (hsel : Sel ps H H1) (hlt : ∀ p ∈ ps, p < H.length) (hmp : m ≤ ps.length)
    (h2 : ARep w' I' ι1 r1 v) (h3 : SimH w' I' ι1 H1') (h4 : Ex m w I (fun b => ι (rho H.length ps b)) H1 w' I' ι1 H1') (hm : PadOk ps m H H1' H') :
    ∃ ι', ARep w' I' ι' (r1.ren (rho2 H.length (ps.take m))) v ∧ SimH w' I' ι' H' ∧ Ex H.length w I ι H w' I' ι' H' := by
  have hs1 := hsel.sim hs
  have x := h4.ext
  have hlen1 : H1.length = ps.length := hsel.len
  have hl1 : m ≤ H1'.length := h4.len
  have htl : (ps.take m).length = m := by simp; omega
  have htg : ∀ b, b < m → (ps.take m)[b]? = ps[b]? := fun b hb => by rw [List.getElem?_take_of_lt hb]
  let ι' : Nat → Option Nat := fun b => if b < H.length then ι b else ι1 (m + (b - H.length))
  have hrho : ∀ b p, ps[b]? = some p → rho H.length ps b = p := fun b p hb => by simp [rho, List.getD_eq_getElem?_getD, hb]
  have hkey : ∀ b, ι1 b = ι' (rho2 H.length (ps.take m) b) := by
    intro b
    unfold rho2
    rw [htl]
    split
    · rename_i hb
      have hb' : b < ps.length := by omega
      have hp : ps[b]? = some ps[b] := List.getElem?_eq_getElem hb'
      have hpl := hlt _ (List.getElem_mem hb')
      rw [List.getD_eq_getElem?_getD, htg b hb, hp]
      simp only [Option.getD_some, ι']
      rw [if_pos hpl, h4.keep b hb]
      show ι (rho H.length ps b) = _
      rw [hrho b _ hp]
    · rename_i hb
      simp only [ι']
      rw [if_neg (by omega)]
      congr 1; omega
  have hkey' : ι1 = fun b => ι' (rho2 H.length (ps.take m) b) := funext hkey
  have hold : ∀ b B, ι b = some B → ι' b = some B := fun b B hb => by
    have : b < H.length := by
      rcases Nat.lt_or_ge b H.length with h | h
      · exact h
      · rw [hs.dom b h] at hb; exact absurd hb (by simp)
    simp only [ι']; rw [if_pos this]; exact hb
  have hlive1 : ∀ b, live H1 b → live H (rho H.length ps b) := fun b hb => hsel.live hb
  -- the blocks of the new list, one by one
  have hcase : ∀ (b : Nat) (k : ABlk), H'[b]? = some k → (∃ j k1, H1'[j]? = some k1 ∧ b = rho2 H.length (ps.take m) j ∧ k = k1.ren (rho2 H.length (ps.take m))) ∨ k = .dead ∨ (b < H.length ∧ b ∉ ps ∧ H[b]? = some k) := by
    intro b k hk
    rcases Nat.lt_or_ge b H.length with hb | hb
    · by_cases hbp : b ∈ ps
      · obtain ⟨j, hj⟩ := List.getElem?_of_mem hbp
        have hjl : j < ps.length := (List.getElem?_eq_some_iff.1 hj).1
        rcases Nat.lt_or_ge j m with hjm | hjm
        · have hj1 : H1'[j]? = some H1'[j] := List.getElem?_eq_getElem (by omega)
          have := hm.old j b _ hjm hj hj1
          rw [hk] at this
          refine .inl ⟨j, _, hj1, ?_, Option.some.inj this⟩
          unfold rho2; rw [htl, if_pos hjm, List.getD_eq_getElem?_getD, htg j hjm, hj]; rfl
        · have := hm.gone j b hjm hj
          rw [hk] at this
          exact .inr (.inl (Option.some.inj this))
      · rw [hm.other b hb hbp] at hk
        exact .inr (.inr ⟨hb, hbp, hk⟩)
    · have hbl : b < H'.length := (List.getElem?_eq_some_iff.1 hk).1
      have hml := hm.len
      obtain ⟨d, rfl⟩ : ∃ d, b = H.length + d := ⟨b - H.length, by omega⟩
      have hd : m + d < H1'.length := by omega
      have hj1 : H1'[m + d]? = some H1'[m + d] := List.getElem?_eq_getElem hd
      have := hm.new d _ hj1
      rw [hk] at this
      refine .inl ⟨m + d, _, hj1, ?_, Option.some.inj this⟩
      unfold rho2; rw [htl, if_neg (by omega)]; omega
  have hlive' : ∀ b, live H' b → (∃ j, live H1' j ∧ b = rho2 H.length (ps.take m) j) ∨ (b < H.length ∧ b ∉ ps ∧ live H b) := by
    rintro b ⟨k, hk, hl⟩
    rcases hcase b k hk with ⟨j, k1, h1, h2, h3⟩ | rfl | ⟨h1, h2, h3⟩
    · exact .inl ⟨j, ⟨k1, h1, by subst h3; cases k1 <;> first | exact hl | rfl⟩, h2⟩
    · simp [ABlk.live] at hl
    · exact .inr ⟨h1, h2, k, h3, hl⟩
  have hunp : ∀ b B, b < H.length → b ∉ ps → live H b → ι b = some B → (¬ ∃ b1, live H1 b1 ∧ ι (rho H.length ps b1) = some B) := by
    rintro b B hb hbp hl hB ⟨b1, hl1, hB1⟩
    have := hs.inj _ _ B (hlive1 b1 hl1) hl hB1 hB
    have hb1 : b1 < ps.length := by rw [← hlen1]; exact live_lt hl1
    have hp : ps[b1]? = some ps[b1] := List.getElem?_eq_getElem hb1
    rw [hrho b1 _ hp] at this
    exact hbp (this ▸ List.getElem_mem hb1)
  have hImv : ∀ C, I C → w'.heap[C]? = w.heap[C]? := x.keepsI hs1
  refine ⟨ι', ?_, ⟨fun b k hk => ?_, fun b b' B hb hb' e1 e2 => ?_, h3.Ilt, fun b hb => ?_, fun b B hb => ?_⟩, ⟨⟨x.os, x.tape, x.output, x.size, x.shape, x.Isub, fun C hC hn => ?_, fun C hC => ?_, fun b B hb hB => ?_⟩, fun b hb => ?_, ?_⟩⟩
  · rw [hkey'] at h2; exact h2.ren_of
  · rcases hcase b k hk with ⟨j, k1, h1, rfl, rfl⟩ | rfl | ⟨hb, hbp, hk0⟩
    · have h0 := h3.blk j k1 h1
      cases k1 with
      | dead => trivial
      | cells t l =>
        obtain ⟨B, cs, g1, g2, g3, g4, g5⟩ := h0
        refine ⟨B, cs, by rw [← hkey]; exact g1, g2, g3, by rw [renL_map]; simpa using g4, fun i u hu => ?_⟩
        rw [renL_map, List.getElem?_map, Option.map_eq_some_iff] at hu
        obtain ⟨y, hy, rfl⟩ := hu
        have := g5 i y hy
        rw [hkey'] at this
        exact this.ren_of
      | lp q st pe l =>
        obtain ⟨B, cs, g1, g2, g3, g4, g5⟩ := h0
        refine ⟨B, cs, by rw [← hkey]; exact g1, g2, g3, by rw [renL_map]; simpa using g4, fun i u hu => ?_⟩
        rw [renL_map, List.getElem?_map, Option.map_eq_some_iff] at hu
        obtain ⟨y, hy, rfl⟩ := hu
        have := g5 i y hy
        rw [hkey'] at this
        exact this.ren_of
      | row t sz xs =>
        rcases h0 with ⟨g1, g2⟩ | ⟨B, cs, g1, g2⟩
        · exact .inl ⟨g1, by rw [← hkey]; exact g2⟩
        · exact .inr ⟨B, cs, by rw [← hkey]; exact g1, g2⟩
      | obj o =>
        obtain ⟨g0, B, g1, g2⟩ := h0
        exact ⟨g0, B, by rw [← hkey]; exact g1, g2⟩
    · trivial
    · have h0 := hs.blk b k hk0
      have hI' : ∀ B, live H b → ι b = some B → B < w.heap.size → ¬ I' B := fun B hl hB hBl hI => by
        rcases x.Inew B hI with h | h | h
        · exact hs.notI hl hB h
        · omega
        · exact hunp b B hb hbp hl hB h
      cases k with
      | dead => trivial
      | cells t l =>
        obtain ⟨B, cs, g1, g2, g3, g4, g5⟩ := h0
        have hl : live H b := ⟨_, hk0, rfl⟩
        refine ⟨B, cs, hold b B g1, by rw [x.frame B (hs.rng b B g1) (hunp b B hb hbp hl g1)]; exact g2, hI' B hl g1 (hs.rng b B g1), g4, fun i u hu => (g5 i u hu).move hImv x.Isub hold x.shape⟩
      | lp q st pe l =>
        obtain ⟨B, cs, g1, g2, g3, g4, g5⟩ := h0
        have hl : live H b := ⟨_, hk0, rfl⟩
        refine ⟨B, cs, hold b B g1, by rw [x.frame B (hs.rng b B g1) (hunp b B hb hbp hl g1)]; exact g2, hI' B hl g1 (hs.rng b B g1), g4, fun i u hu => (g5 i u hu).move hImv x.Isub hold x.shape⟩
      | row t sz xs =>
        rcases h0 with ⟨g1, g2⟩ | ⟨B, cs, g1, g2, g3, g4, g5, g6⟩
        · exact .inl ⟨g1, by simp only [ι']; rw [if_pos hb]; exact g2⟩
        · have hl : live H b := ⟨_, hk0, rfl⟩
          exact .inr ⟨B, cs, hold b B g1, by rw [x.frame B (hs.rng b B g1) (hunp b B hb hbp hl g1)]; exact g2, hI' B hl g1 (hs.rng b B g1), g4, g5, fun j e hj => ⟨(g6 j e hj).1, fun i u hu => ((g6 j e hj).2 i u hu).move hImv x.Isub⟩⟩
      | obj o =>
        obtain ⟨g0, B, g1, g2, g3⟩ := h0
        have hl : live H b := ⟨_, hk0, rfl⟩
        exact ⟨g0, B, hold b B g1, by rw [x.frame B (hs.rng b B g1) (hunp b B hb hbp hl g1)]; exact g2, hI' B hl g1 (hs.rng b B g1)⟩
  · rcases hlive' b hb with ⟨j, hj, rfl⟩ | ⟨q1, q2, q3⟩ <;> rcases hlive' b' hb' with ⟨j', hj', rfl⟩ | ⟨q1', q2', q3'⟩
    · rw [← hkey] at e1 e2
      rw [h3.inj j j' B hj hj' e1 e2]
    · rw [← hkey] at e1
      simp only [ι'] at e2; rw [if_pos q1'] at e2
      rcases x.own j B hj e1 with h | h
      · have := hs.rng b' B e2; omega
      · exact absurd h (hunp b' B q1' q2' q3' e2)
    · rw [← hkey] at e2
      simp only [ι'] at e1; rw [if_pos q1] at e1
      rcases x.own j' B hj' e2 with h | h
      · have := hs.rng b B e1; omega
      · exact absurd h (hunp b B q1 q2 q3 e1)
    · simp only [ι'] at e1 e2; rw [if_pos q1] at e1; rw [if_pos q1'] at e2
      exact hs.inj b b' B q3 q3' e1 e2
  · have hml := hm.len
    simp only [ι']; rw [if_neg (by omega)]
    exact h3.dom _ (by omega)
  · simp only [ι'] at hb
    split at hb
    · have := hs.rng b B hb; have := x.size; omega
    · exact h3.rng _ B hb
  · refine x.frame C hC ?_
    rintro ⟨b1, hl1, hB1⟩
    exact hn ⟨_, hlive1 b1 hl1, hB1⟩
  · rcases x.Inew C hC with h | h | ⟨b1, hl1, hB1⟩
    · exact .inl h
    · exact .inr (.inl h)
    · exact .inr (.inr ⟨_, hlive1 b1 hl1, hB1⟩)
  · rcases hlive' b hb with ⟨j, hj, rfl⟩ | ⟨q1, q2, q3⟩
    · rw [← hkey] at hB
      rcases x.own j B hj hB with h | ⟨b1, hl1, hB1⟩
      · exact .inl h
      · exact .inr ⟨_, hlive1 b1 hl1, hB1⟩
    · simp only [ι'] at hB; rw [if_pos q1] at hB
      exact .inr ⟨b, q3, hB⟩
  · simp only [ι']; rw [if_pos hb]
  · have hml := hm.len; omega


/-- The blocks behind such a call, told. -/
def padH (H H1' : List ABlk) (ρ : Nat → Nat) : Nat → Nat → List Nat → List ABlk
  | _, _, [] => H
  | m, j, p :: r => (padH H H1' ρ m (j + 1) r).set p (match Nat.blt j m with | true => (H1'.getD j .dead).ren ρ | false => .dead)

theorem padH_len {H H1' : List ABlk} {ρ : Nat → Nat} {m : Nat} : ∀ {ps : List Nat} {j : Nat}, (padH H H1' ρ m j ps).length = H.length
  | [], _ => rfl
  | p :: r, j => by simp [padH, padH_len (ps := r)]

theorem padH_get {H H1' : List ABlk} {ρ : Nat → Nat} {m : Nat} : ∀ {ps : List Nat} {j : Nat}, ps.Nodup → (∀ p ∈ ps, p < H.length) →
    (∀ i p, ps[i]? = some p → (padH H H1' ρ m j ps)[p]? = some (match Nat.blt (j + i) m with | true => (H1'.getD (j + i) .dead).ren ρ | false => .dead)) ∧ (∀ b, b ∉ ps → (padH H H1' ρ m j ps)[b]? = H[b]?)
  | [], j, _, _ => ⟨fun i p h => by simp at h, fun b _ => rfl⟩
  | p :: r, j, hn, hl => by
    rw [List.nodup_cons] at hn
    obtain ⟨h1, h2⟩ := padH_get (m := m) (j := j + 1) hn.2 (fun q hq => hl q (List.mem_cons_of_mem _ hq))
    have hpl := hl p List.mem_cons_self
    constructor
    · intro i q hq
      cases i with
      | zero =>
        simp only [List.getElem?_cons_zero, Option.some.injEq] at hq
        subst hq
        simp only [padH, Nat.add_zero]
        rw [List.getElem?_set_self (by rw [padH_len]; exact hpl)]
      | succ i =>
        have hq : r[i]? = some q := by simpa using hq
        have hne : p ≠ q := fun e => hn.1 (e ▸ List.mem_of_getElem? hq)
        simp only [padH]
        rw [List.getElem?_set_ne hne, h1 i q hq, show j + 1 + i = j + (i + 1) by omega]
    · intro b hb
      rw [List.mem_cons, not_or] at hb
      simp only [padH]
      rw [List.getElem?_set_ne (fun e => hb.1 e.symm)]
      exact h2 b hb.2

theorem pad_ok {ps : List Nat} {H H1' : List ABlk} (hn : ps.Nodup) (hl : ∀ p ∈ ps, p < H.length) (_hm1 : m ≤ H1'.length) :
    PadOk ps m H H1' (padH H H1' (rho2 H.length (ps.take m)) m 0 ps ++ (H1'.drop m).map (ABlk.ren (rho2 H.length (ps.take m)))) := by
  obtain ⟨h1, h2⟩ := padH_get (H1' := H1') (ρ := rho2 H.length (ps.take m)) (m := m) (j := 0) hn hl
  refine ⟨by simp [padH_len], fun j p k hj hp hk => ?_, fun j p hj hp => ?_, fun b hb hbp => ?_, fun d k hk => ?_⟩
  · rw [List.getElem?_append_left (by rw [padH_len]; exact hl p (List.mem_of_getElem? hp)), h1 j p hp]
    rw [show Nat.blt (0 + j) m = true by simpa [Nat.blt_eq] using hj, Nat.zero_add, List.getD_eq_getElem?_getD, hk]; rfl
  · rw [List.getElem?_append_left (by rw [padH_len]; exact hl p (List.mem_of_getElem? hp)), h1 j p hp]
    rw [show Nat.blt (0 + j) m = false from Bool.eq_false_iff.2 (fun h => by rw [Nat.blt_eq] at h; omega)]
  · rw [List.getElem?_append_left (by rw [padH_len]; exact hb)]
    exact h2 b hbp
  · rw [List.getElem?_append_right (by rw [padH_len]; omega), padH_len, Nat.add_sub_cancel_left, List.getElem?_map, List.getElem?_drop, hk]; rfl

/-- A call among more blocks: ps: where its blocks stand. -/
theorem af_pad {f : FuncId} {args args1 : List AV} {H H1 H1' : List ABlk} {r1 : AV} (ps : List Nat) (h : AFm P m f args1 H1 (Pure r1 H1')) (hsel : Sel ps H H1) (hlt : ∀ p ∈ ps, p < H.length) (hmp : m ≤ ps.length) (hm1 : m ≤ H1'.length) (hargs : args = renL (rho H.length ps) args1) :
    AF P f args H (Pure (r1.ren (rho2 H.length (ps.take m))) (padH H H1' (rho2 H.length (ps.take m)) m 0 ps ++ (H1'.drop m).map (ABlk.ren (rho2 H.length (ps.take m))))) := by
  refine ⟨h.1, fun w I ι vals hn ha hs => ?_⟩
  have hs1 := hsel.sim hs
  rw [renL_map] at hargs
  subst hargs
  refine (h.2 w I (fun b => ι (rho H.length ps b)) vals (by simpa using hn) (fun i u hu => ren_inv u (ha i _ (by rw [List.getElem?_map, hu]; rfl))) hs1).mono ?_
  rintro e w' ⟨v, r1, H1', I', ι1, he, ⟨rfl, rfl⟩, h2, h3, h4⟩
  obtain ⟨ι', k1, k2, k3⟩ := merge_okM hs hsel hlt hmp h2 h3 h4 (pad_ok hsel.nodup hlt hm1)
  exact ⟨v, _, _, I', ι', he, ⟨rfl, rfl⟩, k1, k2, k3⟩

theorem ay_pad {b1 b : Nat} {args args1 : List AV} {H H1 : List ABlk} {R : AV → List ABlk → Prop} {R' : AV → List ABlk → Prop} (ps : List Nat) (h : AYm P m b1 args1 H1 R) (hsel : Sel ps H H1) (hlt : ∀ p ∈ ps, p < H.length) (hmp : m ≤ ps.length) (hb : b = rho H.length ps b1) (hargs : args = renL (rho H.length ps) args1)
    (hR : ∀ r1 H1', R r1 H1' → m ≤ H1'.length ∧ R' (r1.ren (rho2 H.length (ps.take m))) (padH H H1' (rho2 H.length (ps.take m)) m 0 ps ++ (H1'.drop m).map (ABlk.ren (rho2 H.length (ps.take m))))) : AY P b args H R' := by
  intro w I ι vals B hn ha hs hB
  have hs1 := hsel.sim hs
  rw [renL_map] at hargs
  subst hargs
  subst hb
  obtain ⟨fn, tmps, assign, body, k1, k2⟩ := h w I (fun b => ι (rho H.length ps b)) vals B (by simpa using hn) (fun i u hu => ren_inv u (ha i _ (by rw [List.getElem?_map, hu]; rfl))) hs1 hB
  refine ⟨fn, tmps, assign, body, k1, k2.mono ?_⟩
  rintro e w' ⟨v, r1, H1', I', ι1, he, h1, h2, h3, h4⟩
  obtain ⟨hm1, hR'⟩ := hR r1 H1' h1
  obtain ⟨ι', k1, k2, k3⟩ := merge_okM hs hsel hlt hmp h2 h3 h4 (pad_ok hsel.nodup hlt hm1)
  exact ⟨v, _, _, I', ι', he, hR', k1, k2, k3⟩

/-- Blocks picked out of a list, and words on them: as checks. -/
theorem Sel.pick {H : List ABlk} {ps : List Nat} (h : (nodupB ps && allLt H.length ps && pickOk H ps ps) = true) : Sel ps H (pickH H ps ps) := by
  simp only [Bool.and_eq_true] at h
  obtain ⟨⟨h2, h3⟩, h4⟩ := h
  refine ⟨pickH_len ps, nodup_of h2, fun b k hb => .inr ?_⟩
  obtain ⟨p, hp, hk⟩ := pickH_get (n := H.length) h4 b k hb
  refine ⟨p, hp, ?_⟩
  have hlt := allLt_of h3 p (List.mem_of_getElem? hp)
  rw [← hk, List.getD_eq_getElem?_getD, List.getElem?_eq_getElem hlt]; rfl

/-- A contract at some of the blocks: ps: which, in its order; all checks by computing. -/
theorem af_in {f : FuncId} {args args1 : List AV} {H H1 H1' : List ABlk} {r1 : AV} (ps : List Nat) (h : AFm P m f args1 H1 (Pure r1 H1')) (hH : pickH H ps ps = H1) (hok : (nodupB ps && allLt H.length ps && pickOk H ps ps && Nat.ble m ps.length && Nat.ble m H1'.length && inL ps args) = true) (hargs : renL (inv ps) args = args1) :
    AF P f args H (Pure (r1.ren (rho2 H.length (ps.take m))) (padH H H1' (rho2 H.length (ps.take m)) m 0 ps ++ (H1'.drop m).map (ABlk.ren (rho2 H.length (ps.take m))))) := by
  rw [Bool.and_eq_true, Bool.and_eq_true, Bool.and_eq_true] at hok
  obtain ⟨⟨⟨h1, h2⟩, h3⟩, h4⟩ := hok
  have hsel := Sel.pick h1
  simp only [Bool.and_eq_true] at h1
  subst hH hargs
  exact af_pad ps h hsel (allLt_of h1.1.2) (Nat.le_of_ble_eq_true h2) (Nat.le_of_ble_eq_true h3) (ren_inv_idL args h4).symm

/-! Ranges over a function. -/

/-- A frame's slots, one by one. -/
def dense (n : Nat) (l : List (Nat × AV)) : List AV := (List.range n).map fun t => (look l t).getD .top
theorem dense_len (n : Nat) (l : List (Nat × AV)) : (dense n l).length = n := by simp [dense]
theorem dense_rep {w : World} {I : Nat → Prop} {ι : Nat → Option Nat} {n : Nat} {l : List (Nat × AV)} {tmps : Array Value} (h : FrOk w I ι ⟨n, l⟩ tmps) : ∀ i u, (dense n l)[i]? = some u → ARep w I ι u (tmps.getD i undef) := by
  intro i u hu
  simp only [dense, List.getElem?_map, Option.map_eq_some_iff] at hu
  obtain ⟨t, ht, rfl⟩ := hu
  have hti : t = i := by
    have := (List.getElem?_eq_some_iff.1 ht)
    obtain ⟨hlt, he⟩ := this
    simpa using he.symm
  subst hti
  cases hl : look l t with
  | none => exact .top _
  | some x => exact h.2 t x hl
theorem dense_fr {w : World} {I : Nat → Prop} {ι : Nat → Option Nat} {n : Nat} {l : List (Nat × AV)} {tmps : Array Value} (hn : tmps.size = n) (h : ∀ i u, (dense n l)[i]? = some u → ARep w I ι u (tmps.getD i undef)) (hl : ∀ t u, look l t = some u → t < n) : FrOk w I ι ⟨n, l⟩ tmps := by
  refine ⟨hn, fun t u hu => h t u ?_⟩
  simp [dense, hl t u hu, hu]

/-- The loop variables' slots. -/
def setPs (l : List (Nat × AV)) : List Nat → List AV → List (Nat × AV)
  | p :: ps, x :: xs => setPs ((p, x) :: l) ps xs
  | _, _ => l

theorem setPs_ok {w : World} {I : Nat → Prop} {ι : Nat → Option Nat} {n : Nat} : ∀ {ps : List Nat} {xs : List AV} {vs : List Value} {l : List (Nat × AV)} {tmps : Array Value}, FrOk w I ι ⟨n, l⟩ tmps → xs.length = vs.length → (∀ i u, xs[i]? = some u → ARep w I ι u (vs.getD i undef)) → (∀ p ∈ ps, p < n) → ps.length = xs.length →
    FrOk w I ι ⟨n, setPs l ps xs⟩ ((ps.zip vs).foldl (fun tmps (t, a) => tmps.setIfInBounds t a) tmps)
  | [], [], vs, l, tmps, h, _, _, _, _ => by simpa [setPs] using h
  | [], _ :: _, _, _, _, _, _, _, _, hl => by simp at hl
  | _ :: _, [], _, _, _, _, _, _, _, hl => by simp at hl
  | p :: ps, x :: xs, [], l, tmps, h, hn, _, _, _ => by simp at hn
  | p :: ps, x :: xs, v :: vs, l, tmps, h, hn, hr, hp, hl => by
    simp only [List.zip_cons_cons, List.foldl_cons, setPs]
    refine setPs_ok ?_ (by simpa using hn) (fun i u hu => by have := hr (i + 1) u (by simpa using hu); simpa using this) (fun q hq => hp q (List.mem_cons_of_mem _ hq)) (by simpa using hl)
    refine ⟨by simp [h.1], fun t u hu => ?_⟩
    by_cases e : p = t
    · subst e
      rw [look_self] at hu
      obtain rfl := Option.some.inj hu
      rw [Array.getD_eq_getD_getElem?, Array.getElem?_setIfInBounds_self_of_lt (by rw [h.1]; exact hp p List.mem_cons_self)]
      exact hr 0 x rfl
    · rw [look_other _ _ e] at hu
      rw [Array.getD_eq_getD_getElem?, Array.getElem?_setIfInBounds_ne e, ← Array.getD_eq_getD_getElem?]
      exact h.2 t u hu

theorem noCells_loop (r : Loop) : (Obj.loop r).noCells := fun _ _ _ h => by cases h

/-- A loop's record goes over to another state. -/
theorem lp_write {w : World} {I : Nat → Prop} {ι : Nat → Option Nat} {H : List ABlk} {b B : Nat} {q : RecK} {st st' : LoopState} {pe pe' : Option Code} {l : List AV} (hs : SimH w I ι H) (hb : H[b]? = some (.lp q st pe l)) (hι : ι b = some B) :
    ∃ r, w.heap[B]? = some (.loop r) ∧ RecOk q st pe l.length r ∧
      SimH (w.putObj B (.loop { r with state := st', pending := pe' })) I ι (H.set b (.lp q st' pe' l)) ∧ Ex H.length w I ι H (w.putObj B (.loop { r with state := st', pending := pe' })) I ι (H.set b (.lp q st' pe' l)) := by
  obtain ⟨B', r, h1, h2, h3, h4, h5⟩ := hs.blk b _ hb
  rw [hι] at h1; obtain rfl := Option.some.inj h1
  refine ⟨r, h2, h4, ?_⟩
  have hlt := (Array.getElem?_eq_some_iff.1 h2).1
  have hsh : Shape w (w.putObj B (.loop { r with state := st', pending := pe' })) := fun C cs t fr h => by
    by_cases e : C = B
    · subst e; rw [h2] at h; exact absurd (Option.some.inj h) (noCells_loop r cs t fr)
    · exact ⟨cs, by rw [World.putObj_heap_other e]; exact h, rfl⟩
  refine (wrote_putObj w B _).simO hs ⟨_, hb, rfl⟩ hι h2 (noCells_loop r) _ ⟨B, _, hι, World.putObj_heap_same hlt, h3, ?_, fun i u hu => ?_⟩
  · obtain ⟨_, _, g3, g4, g5, g6⟩ := h4
    exact ⟨rfl, rfl, g3, g4, g5, g6⟩
  · exact (h5 i u hu).move (fun C hC => World.putObj_heap_other (fun e => h3 (by rw [← e]; exact hC))) (fun _ h => h) (fun _ _ h => h) hsh

/-- What is asked behind a round. -/
def roundA {α β : Type} (M : Nat) (J : ABlk → α → List ABlk) (Z : ABlk → β → List ABlk) (Lb : ABlk) (Rnd : α → Prop) (Stp : Code → β → Prop) : Exit → St → Prop
  | .normal, s => ∃ a fr2, Rnd a ∧ Wk (M + 1) s ⟨fr2, J Lb a⟩
  | .ret, s => ∃ z fr2, Stp .ret z ∧ Wk (M + 1) s ⟨fr2, Z Lb z⟩
  | .exit id, s => ∃ z fr2, Stp (.exit id) z ∧ Wk (M + 1) s ⟨fr2, Z Lb z⟩
  | _, _ => False

theorem ay_round {α β : Type} {M n : Nat} {q : RecK} {lf : List (Nat × AV)} {args : List AV} {J : ABlk → α → List ABlk} {Z : ABlk → β → List ABlk} {a : α} {Rnd : α → Prop} {Stp : Code → β → Prop}
    (hJ : ∀ L a, (J L a)[M]? = some L ∧ ∀ L', (J L a).set M L' = J L' a) (hZ : ∀ L z, (Z L z)[M]? = some L ∧ ∀ L', (Z L z).set M L' = Z L' z)
    (hlf : ∀ t u, look lf t = some u → t < n) (hps : ∀ p ∈ q.ps.toList, p < n) (hpa : q.ps.size = args.length)
    (hround : ∀ B, AW P (some B) (M + 1) q.assign ⟨⟨n, setPs lf q.ps.toList args⟩, J (.lp q .ready none (dense n lf)) a⟩
      (thenA (fun s1 => s1.H[M]? = some (.lp q .ready none (dense n lf)) ∧ AW P (some B) (M + 1) q.body ⟨s1.fr, s1.H.set M (.lp q .busy none (dense n lf))⟩ (roundA M J Z (.lp q .busy none (dense n lf)) Rnd Stp)) (fun _ _ => False))) :
    AYm P (M + 1) M args (J (.lp q .ready none (dense n lf)) a) (fun r H' => (r = .p (.raw (.bool true)) ∧ ∃ a', Rnd a' ∧ H' = J (.lp q .ready none (dense n lf)) a') ∨ (r = .p (.raw (.bool false)) ∧ ∃ c z, Stp c z ∧ H' = Z (.lp q .done (some c) (dense n lf)) z)) := by
  intro w I ι vals B hn ha hs hB
  obtain ⟨B', r, h1, h2, h3, h4, h5⟩ := hs.blk M _ (hJ _ a).1
  rw [hB] at h1; obtain rfl := Option.some.inj h1
  have hrec := h4
  obtain ⟨g1, g2, g3, g4, g5, g6⟩ := h4
  have hsz : vals.size = r.params.size := by rw [hn, g3, hpa]
  refine ⟨r.fn, _, r.assign, r.body, run_yield h2 hsz, ?_⟩
  rw [dense_len] at g6
  have hMl : M + 1 ≤ (J (.lp q .ready none (dense n lf)) a).length := (List.getElem?_eq_some_iff.1 (hJ _ a).1).1
  have hfr : FrOk w I ι ⟨n, setPs lf q.ps.toList args⟩ ((r.params.zip vals).foldl (fun tmps (t, a) => tmps.setIfInBounds t a) r.tmps) := by
    have := setPs_ok (vs := vals.toList) (dense_fr g6.symm h5 hlf) (by rw [Array.length_toList]; exact hn.symm) (fun i u hu => by rw [← arr_getD]; exact ha i u hu) hps (by rw [Array.length_toList]; exact hpa)
    rw [g3, ← Array.foldl_toList, Array.toList_zip]
    exact this
  have hsim : Sim w.heap.size w I ι ⟨⟨n, setPs lf q.ps.toList args⟩, J (.lp q .ready none (dense n lf)) a⟩ { tmps := (r.params.zip vals).foldl (fun tmps (t, a) => tmps.setIfInBounds t a) r.tmps, defers := [] } :=
    ⟨hfr, hs, Nat.le_refl _, fun d hd => by simp at hd, List.Pairwise.nil⟩
  rw [g4, g5]
  refine roundIn_of_wpIn (F := Fence.wide) trivial ?_
  refine wpIn_mono (hround B _ w I ι _ hsim hMl) ?_
  rintro e a1 w1 ⟨s1, I1, ι1, hq, k1, k2⟩
  cases e <;> try exact hq.elim
  obtain ⟨hL, hbody⟩ := hq
  have hB1 : ι1 M = some B := by rw [k2.keep M (by omega)]; exact hB
  obtain ⟨r1, u1, u2, u3, u4⟩ := lp_write (st' := .busy) (pe' := none) k1.H hL hB1
  refine ⟨_, run_beginRound u1 u2.1, ?_⟩
  have e1 : ({ r1 with state := .busy } : Loop) = { r1 with state := .busy, pending := none } := by rw [← u2.2.1]
  rw [e1]
  generalize w1.putObj B (.loop { r1 with state := .busy, pending := none }) = W1 at u3 u4 ⊢
  have hsim1 : Sim w.heap.size W1 I1 ι1 ⟨s1.fr, s1.H.set M (.lp q .busy none (dense n lf))⟩ a1 :=
    ⟨k1.fr.move k1.H u4, u3, Nat.le_trans k1.hN u4.ext.size, fun d hd => (k1.d d hd).move u4.ext, k1.nd⟩
  refine wpIn_mono (hbody _ _ I1 ι1 a1 hsim1 (by rw [List.length_set]; exact k2.len)) ?_
  have hx1 := k2.trans (u4.less k2.len)
  -- the round's end: the record is turned once more
  have fin : ∀ (w2 : World) (s2 : St) (I2 : Nat → Prop) (ι2 : Nat → Option Nat) (a2 : Act) (X : List ABlk) (fr2 : Fr) (jump : Option Code) (X' : List ABlk), Sim w.heap.size w2 I2 ι2 s2 a2 → Ex (M + 1) W1 I1 ι1 (s1.H.set M (.lp q .busy none (dense n lf))) w2 I2 ι2 s2.H → Wk (M + 1) s2 ⟨fr2, X⟩ → X[M]? = some (.lp q .busy none (dense n lf)) →
      X.set M (.lp q (if jump.isNone then .ready else .done) jump (dense n lf)) = X' →
      ∃ v w', (Instr.endRound B jump).run P w2 = .ok v w' ∧ ∃ v' r H' I' ι', Ending.returned v = .returned v' ∧ (r = .p (.raw (.bool jump.isNone)) ∧ H' = X') ∧ ARep w' I' ι' r v' ∧ SimH w' I' ι' H' ∧ Ex (M + 1) w I ι (J (.lp q .ready none (dense n lf)) a) w' I' ι' H' := by
    intro w2 s2 I2 ι2 a2 X fr2 jump X' m1 m2 hwk hX hX'
    obtain ⟨I3, ι3, n1, n2⟩ := hwk _ w2 I2 ι2 a2 m1 m2.len
    have hx2 := (hx1.trans m2).trans n2
    have hB3 : ι3 M = some B := by rw [hx2.keep M (by omega)]; exact hB
    obtain ⟨r3, v1, v2, v3, v4⟩ := lp_write (st' := if jump.isNone then .ready else .done) (pe' := jump) n1.H hX hB3
    refine ⟨_, _, run_endRound jump v1, _, _, _, I3, ι3, rfl, ⟨rfl, rfl⟩, .p (.raw _ rfl), ?_, ?_⟩
    · rw [← hX']; exact v3
    · rw [← hX']; exact hx2.trans (v4.less hx2.len)
  rintro e a2 w2 ⟨s2, I2, ι2, hq, m1, m2⟩
  cases e with
  | normal =>
    obtain ⟨a', fr2, hR, hwk⟩ := hq
    obtain ⟨v, w', f1, v', r', H', I', ι', f2, ⟨rfl, rfl⟩, f4⟩ := fin w2 s2 I2 ι2 a2 _ fr2 none _ m1 m2 hwk (hJ _ a').1 ((hJ _ a').2 _)
    exact ⟨v, w', f1, v', _, _, I', ι', f2, .inl ⟨rfl, a', hR, rfl⟩, f4⟩
  | ret =>
    obtain ⟨z, fr2, hR, hwk⟩ := hq
    obtain ⟨v, w', f1, v', r', H', I', ι', f2, ⟨rfl, rfl⟩, f4⟩ := fin w2 s2 I2 ι2 a2 _ fr2 (some .ret) _ m1 m2 hwk (hZ _ z).1 ((hZ _ z).2 _)
    exact ⟨v, w', f1, v', _, _, I', ι', f2, .inr ⟨rfl, .ret, z, hR, rfl⟩, f4⟩
  | exit id =>
    obtain ⟨z, fr2, hR, hwk⟩ := hq
    obtain ⟨v, w', f1, v', r', H', I', ι', f2, ⟨rfl, rfl⟩, f4⟩ := fin w2 s2 I2 ι2 a2 _ fr2 (some (.exit id)) _ m1 m2 hwk (hZ _ z).1 ((hZ _ z).2 _)
    exact ⟨v, w', f1, v', _, _, I', ι', f2, .inr ⟨rfl, .exit id, z, hR, rfl⟩, f4⟩
  | goto l => exact hq.elim
  | panic ch => exact hq.elim
  | outgrown => exact hq.elim

theorem grew_out {w w' : World} {I : Nat → Prop} {ι : Nat → Option Nat} {H : List ABlk} {o : Obj} (g : Grew w w' o) (hs : SimH w I ι H) : SimH w' I ι H ∧ Ex H.length w I ι H w' I ι H := by
  have hI : ∀ B, I B → w'.heap[B]? = w.heap[B]? := fun B hB => g.old B (hs.Ilt B hB)
  have hsz := g.size
  refine ⟨⟨fun b k hb => ?_, hs.inj, fun B hB => by have := hs.Ilt B hB; omega, hs.dom, fun b B hb => by have := hs.rng b B hb; omega⟩, ⟨⟨g.os, g.tape, g.output, by omega, g.shape, fun _ h => h, fun B hB _ => g.old B hB, fun B hB => .inl hB, fun b B hb h => .inr ⟨b, hb, h⟩⟩, fun _ _ => rfl, Nat.le_refl _⟩⟩
  have h := hs.blk b k hb
  cases k with
  | dead => trivial
  | cells t l =>
    obtain ⟨B, cs, g1, g2, g3, g4, g5⟩ := h
    exact ⟨B, cs, g1, by rw [g.old B (hs.rng b B g1)]; exact g2, g3, g4, fun i u hu => (g5 i u hu).move hI (fun _ h => h) (fun _ _ h => h) g.shape⟩
  | lp q st pe l =>
    obtain ⟨B, cs, g1, g2, g3, g4, g5⟩ := h
    exact ⟨B, cs, g1, by rw [g.old B (hs.rng b B g1)]; exact g2, g3, g4, fun i u hu => (g5 i u hu).move hI (fun _ h => h) (fun _ _ h => h) g.shape⟩
  | row t sz xs =>
    rcases h with g0 | ⟨B, cs, g1, g2, g3, g4, g5, g6⟩
    · exact .inl g0
    · exact .inr ⟨B, cs, g1, by rw [g.old B (hs.rng b B g1)]; exact g2, g3, g4, g5, fun j e hj => ⟨(g6 j e hj).1, fun i u hu => ((g6 j e hj).2 i u hu).move hI (fun _ h => h)⟩⟩
  | obj o =>
    obtain ⟨g0, B, g1, g2, g3⟩ := h
    exact ⟨g0, B, g1, by rw [g.old B (hs.rng b B g1)]; exact g2, g3⟩

theorem look_keep_some {l : List (Nat × AV)} : ∀ {ks : List Nat} {i : Nat} {u : AV}, look (keepL l ks) i = some u → look l i = some u
  | [], i, u, h => by simp [keepL, look] at h
  | t :: ks, i, u, h => by
    simp only [keepL] at h
    cases hl : look l t with
    | none => rw [hl] at h; exact look_keep_some h
    | some x =>
      rw [hl] at h
      by_cases e : t = i
      · subst e; rw [look_self] at h; rw [← h]; exact hl
      · rw [look_other _ _ e] at h; exact look_keep_some h

/-- The checks at a loop's beginning: ps: the blocks, the record (the last one) among them at M; ks: the slots that are kept. -/
def loopOk (m M n : Nat) (s : St) (ps ks : List Nat) (L : ABlk) : Bool :=
  prefB m 0 ps && nodupB ps && allLt (s.H.length + 1) ps && pickOk (s.H ++ [L]) ps ps && pickFOk s.fr.l ps ks && Nat.ble m M && Nat.beq (ps.getD M 0) s.H.length && Nat.blt M ps.length && Nat.beq s.fr.n n &&
    belowF M (pickF s.fr.l ps ks) && allLt n ks

theorem belowF_look {n : Nat} : ∀ {l : List (Nat × AV)} {i : Nat} {u : AV}, belowF n l = true → look l i = some u → belowB n u = true
  | [], i, u, _, h => by simp [look] at h
  | (k, x) :: r, i, u, hb, h => by
    simp only [belowF, Bool.and_eq_true] at hb
    by_cases e : k = i
    · subst e; rw [look_self] at h; obtain rfl := Option.some.inj h; exact hb.1
    · rw [look_other _ _ e] at h; exact belowF_look hb.2 h

theorem pickF_lt {l : List (Nat × AV)} {qs : List Nat} {n : Nat} : ∀ {ks : List Nat}, allLt n ks = true → ∀ {i : Nat} {u : AV}, look (pickF l qs ks) i = some u → i < n
  | [], _, i, u, h => by simp [pickF, look] at h
  | t :: ks, hk, i, u, h => by
    simp only [allLt, Bool.and_eq_true, Nat.blt_eq] at hk
    simp only [pickF] at h
    cases hl : look l t with
    | none => rw [hl] at h; exact pickF_lt hk.2 h
    | some x =>
      rw [hl] at h
      by_cases e : t = i
      · subst e; exact hk.1
      · rw [look_other _ _ e] at h; exact pickF_lt hk.2 h

theorem aw_rangeFunc {α β : Type} {g : Operand} {pa : Array Tmp} {assign body : Code} (M n : Nat) (ps ks : List Nat) (J : ABlk → α → List ABlk) (Z : ABlk → β → List ABlk) (a0 : α) (End : α → Prop) (Stp : Code → β → Prop) {k : FuncId} {caps : List AV}
    (hok : loopOk m M n s ps ks (.lp ⟨pa, assign, body⟩ .ready none (dense n (keepL s.fr.l ks))) = true)
    (hJ0 : pickH (s.H ++ [.lp ⟨pa, assign, body⟩ .ready none (dense n (keepL s.fr.l ks))]) ps ps = J (.lp ⟨pa, assign, body⟩ .ready none (dense n (pickF s.fr.l ps ks))) a0)
    (hJ : ∀ L a, (J L a)[M]? = some L ∧ ∀ L', (J L a).set M L' = J L' a) (hZ : ∀ L z, (Z L z)[M]? = some L ∧ ∀ L', (Z L z).set M L' = Z L' z)
    (hg : evX ⟨n, pickF s.fr.l ps ks⟩ g = some (.clo (.func k) caps))
    (hseq : AFm P (M + 1) k (.yld M :: caps) (J (.lp ⟨pa, assign, body⟩ .ready none (dense n (pickF s.fr.l ps ks))) a0)
      (fun _ H' => (∃ a, End a ∧ H' = J (.lp ⟨pa, assign, body⟩ .ready none (dense n (pickF s.fr.l ps ks))) a) ∨ (∃ c z, Stp c z ∧ H' = Z (.lp ⟨pa, assign, body⟩ .done (some c) (dense n (pickF s.fr.l ps ks))) z)))
    (hdone : ∀ a, End a → Q .normal ⟨⟨n, pickF s.fr.l ps ks⟩, J .dead a⟩)
    (hstop : ∀ c z, Stp c z → AW P none m c ⟨⟨n, pickF s.fr.l ps ks⟩, Z .dead z⟩ Q) : AW P none m (.rangeFunc g pa assign body) s Q := by
  intro N w I ι a hs hm
  simp only [loopOk, Bool.and_eq_true, Nat.beq_eq, Nat.ble_eq, Nat.blt_eq] at hok
  obtain ⟨⟨⟨⟨⟨⟨⟨⟨⟨⟨o1, o2⟩, o3⟩, o4⟩, o5⟩, o6⟩, o7⟩, o8⟩, o9⟩, o10⟩, o11⟩ := hok
  obtain ⟨fr, H⟩ := s
  simp only at *
  subst o9
  -- the block for the rounds' calls, and the record
  have g1 := grew_alloc w (.deferred (some []))
  obtain ⟨s1, x1⟩ := grew_out g1 hs.H
  generalize hw1 : w.alloc (.deferred (some [])) = w1 at g1 s1 x1
  have hsz1 : w1.heap.size = w.heap.size + 1 := g1.size
  have hfr1 : FrOk w1 I ι fr a.tmps := hs.fr.move hs.H x1
  let R0 : Loop := { state := .ready, pending := none, fn := 0, tmps := a.tmps, params := pa, assign := assign, body := body, defers := w.heap.size }
  refine wpIn_rangeFunc ?_
  intro fn _
  have g2 := grew_alloc w1 (.loop { R0 with fn := fn })
  have hkeep : FrOk w1 I ι ⟨fr.n, keepL fr.l ks⟩ a.tmps := ⟨hfr1.1, fun t u hu => hfr1.2 t u (look_keep_some hu)⟩
  have hmv1 : ∀ {u v}, ARep w1 I ι u v → ARep (w1.alloc (.loop { R0 with fn := fn })) I (upd ι H.length w1.heap.size) u v := fun h => h.move (fun B hB => g2.old B (s1.Ilt B hB)) (fun _ h => h) (fun b B hb => by
    have hlt : b < H.length := by
      rcases Nat.lt_or_ge b H.length with h | h
      · exact h
      · rw [s1.dom b h] at hb; exact absurd hb (by simp)
    unfold upd; rw [if_neg (by omega)]; exact hb) g2.shape
  obtain ⟨s2, x2⟩ := g2.sim s1 (.lp ⟨pa, assign, body⟩ .ready none (dense fr.n (keepL fr.l ks))) ⟨w1.heap.size, { R0 with fn := fn }, by simp [upd], g2.new, fun h => by have := s1.Ilt _ h; omega, ⟨rfl, rfl, rfl, rfl, rfl, by rw [dense_len]; exact hs.fr.1.symm⟩, fun i u hu => hmv1 (dense_rep hkeep i u hu)⟩
  generalize hw2 : w1.alloc (.loop { R0 with fn := fn }) = w2 at g2 s2 x2 hmv1
  have hlen2 : (H ++ [ABlk.lp ⟨pa, assign, body⟩ .ready none (dense fr.n (keepL fr.l ks))]).length = H.length + 1 := by simp
  have hsel := Sel.pick (H := H ++ [ABlk.lp ⟨pa, assign, body⟩ .ready none (dense fr.n (keepL fr.l ks))]) (ps := ps) (by simp only [Bool.and_eq_true]; rw [hlen2]; exact ⟨⟨o2, o3⟩, o4⟩)
  rw [hJ0] at hsel
  have s3 := hsel.sim s2
  rw [hlen2] at s3
  generalize hι3 : (fun b => upd ι H.length w1.heap.size (rho (H.length + 1) ps b)) = ι3 at s3
  have hpsM : ps[M]? = some H.length := by
    rw [List.getD_eq_getElem?_getD, List.getElem?_eq_getElem o8] at o7
    rw [List.getElem?_eq_getElem o8]; simpa using o7
  have hM3 : ι3 M = some w1.heap.size := by
    rw [← hι3]
    simp [rho, List.getD_eq_getElem?_getD, hpsM, upd]
  have hx3 : ∀ b, b < m → ι3 b = ι b := fun b hb => by
    rw [← hι3]
    have := pref_of o1 b hb
    rw [Nat.zero_add] at this
    simp only [rho, List.getD_eq_getElem?_getD, this, Option.getD_some]
    unfold upd; rw [if_neg (by omega)]
  have hfr3 : FrOk w2 I ι3 ⟨fr.n, pickF fr.l ps ks⟩ a.tmps := ⟨hs.fr.1, fun t u2 hu => by
    obtain ⟨u, hu1, hu2⟩ := pickF_get (n := H.length + 1) o5 t u2 hu
    have := hmv1 (hfr1.2 t u hu1)
    rw [hu2] at this
    rw [← hι3]
    exact ren_inv u2 this⟩
  have hlen3 : m ≤ (J (.lp ⟨pa, assign, body⟩ .ready none (dense fr.n (pickF fr.l ps ks))) a0).length := by
    have := (List.getElem?_eq_some_iff.1 (hJ (.lp ⟨pa, assign, body⟩ .ready none (dense fr.n (pickF fr.l ps ks))) a0).1).1
    omega
  have hext3 : Ext w2 I (upd ι H.length w1.heap.size) (H ++ [ABlk.lp ⟨pa, assign, body⟩ .ready none (dense fr.n (keepL fr.l ks))]) w2 I ι3 (J (.lp ⟨pa, assign, body⟩ .ready none (dense fr.n (pickF fr.l ps ks))) a0) :=
    ⟨rfl, rfl, rfl, Nat.le_refl _, Shape.refl _, fun _ h => h, fun _ _ _ => rfl, fun _ h => .inl h, fun b B hb hB => .inr ⟨_, hsel.live hb, by rw [← hι3] at hB; rw [hlen2]; exact hB⟩⟩
  have hx03 : Ex m w I ι H w2 I ι3 (J (.lp ⟨pa, assign, body⟩ .ready none (dense fr.n (pickF fr.l ps ks))) a0) :=
    ⟨(x1.ext.trans x2.ext).trans hext3, hx3, hlen3⟩
  -- the new mark
  have hD1 : w1.heap[w.heap.size]? = some (.deferred (some [])) := g1.new
  have hD2 : w2.heap[w.heap.size]? = some (.deferred (some [])) := by rw [g2.old _ (by omega)]; exact hD1
  have hmark : Mark N w2 I ι3 (J (.lp ⟨pa, assign, body⟩ .ready none (dense fr.n (pickF fr.l ps ks))) a0) { target := .collected w.heap.size, args := #[] } := by
    refine Mark.move hext3 ⟨w.heap.size, rfl, hs.hN, hD2, fun h => by have := hs.H.Ilt _ h; omega, fun b hb hB => ?_⟩
    unfold upd at hB
    split at hB
    · have := Option.some.inj hB; omega
    · have := hs.H.rng b _ hB; omega
  have hmarks : (∀ d ∈ ([{ target := .collected w.heap.size, args := #[] }] ++ a.defers : List Deferred), Mark N w2 I ι3 (J (.lp ⟨pa, assign, body⟩ .ready none (dense fr.n (pickF fr.l ps ks))) a0) d) := fun d hd => by
    rcases List.mem_append.1 hd with hd | hd
    · rw [List.mem_singleton] at hd; subst hd; exact hmark
    · exact (hs.d d hd).move ((x1.ext.trans x2.ext).trans hext3)
  have hnd : ([{ target := .collected w.heap.size, args := #[] }] ++ a.defers : List Deferred).Pairwise (fun x y => x.target ≠ y.target) := by
    rw [List.singleton_append, List.pairwise_cons]
    refine ⟨fun d hd e => ?_, hs.nd⟩
    obtain ⟨D, rfl, _, hh, _⟩ := hs.d d hd
    have hlt := (Array.getElem?_eq_some_iff.1 hh).1
    simp only [Target.collected.injEq] at e
    omega
  -- the iterator's value
  have hgv : ∃ vs : Array Value, a.eval g = .func (.func k) #[] vs ∧ vs.size = caps.length ∧ ∀ i u, caps[i]? = some u → ARep w2 I ι3 u (vs.getD i undef) := by
    have he := evalA_ok hfr3 g
    unfold evalA at he
    rw [hg, Option.getD_some] at he
    generalize a.eval g = v at he
    cases he with
    | clo _ _ vs hn hr => exact ⟨vs, rfl, hn, hr⟩
  obtain ⟨vs, hgv, hgn, hgr⟩ := hgv
  obtain ⟨⟨kfn, kf, kb, kname⟩, hcall⟩ := hseq
  have hkb : kfn.body ≠ none := by intro h0; simp [h0] at kb
  have hkn : kfn.name ≠ "runtime.NumGoroutine" := by simpa using kname
  refine ⟨w1.heap.size, [{ target := .collected w.heap.size, args := #[] }], w2, { target := .fn (.func k) vs, args := #[.func (.yield w1.heap.size) #[] #[]] }, w2, k,
    #[.func (.yield w1.heap.size) #[] #[]] ++ vs, w2, ?_, ?_, fun _ _ => trivial, ?_, fun e => by rw [fen_depth] at e; exact absurd e (by simp), ?_⟩
  · have := run_enterLoop_outer (P := P) (w := w) fn a.tmps pa assign body
    rw [hw1] at this
    rw [← hw2, hsz1]; exact this
  · simp only [resolve, hgv]
    simp [go_sem]
  · simp [invoke, callFunc, kf, hkb, hkn]
  · refine (callsIn_wide (n := 0 - 1)).2 ?_
    have hL : Says w2 I ι3 (.yld M :: caps) (#[.func (.yield w1.heap.size) #[] #[]] ++ vs) := by
      have h1 : Says w2 I ι3 [AV.yld M] #[.func (.yield w1.heap.size) #[] #[]] := ⟨rfl, fun i u hu => by
        cases i with
        | zero => simp at hu; subst hu; exact .yld M _ hM3
        | succ i => simp at hu⟩
      exact h1.append ⟨hgn, hgr⟩
    refine (hcall w2 I ι3 _ hL.1 hL.2 s3).mono ?_
    rintro e w3 ⟨v, r, H3, I4, ι4, rfl, hend, _, s4, x4⟩
    have hM4 : ι4 M = some w1.heap.size := by rw [x4.keep M (by omega)]; exact hM3
    have hfr4 : FrOk w3 I4 ι4 ⟨fr.n, pickF fr.l ps ks⟩ a.tmps := ⟨hs.fr.1, fun t u hu => by
      have h0 := hfr3.2 t u hu
      have hb := belowF_look o10 hu
      have h1 : ARep w2 I (fun b => if b < M then ι3 b else none) u (a.tmps.getD t undef) := below_move (fun b hb => by simp [hb]) u hb h0
      have h2 : ARep w3 I4 (fun b => if b < M then ι4 b else none) u (a.tmps.getD t undef) := h1.move (x4.ext.keepsI s3) x4.ext.Isub (fun b B hbB => by
        split at hbB
        · rename_i hlt
          rw [if_pos hlt, x4.keep b (by omega)]; exact hbB
        · exact absurd hbB (by simp)) x4.ext.shape
      exact below_move (fun b hb => by simp [hb]) u hb h2⟩
    -- the record is done with
    have shut : ∀ (X : List ABlk) (st : LoopState) (pe : Option Code), H3 = X → X[M]? = some (.lp ⟨pa, assign, body⟩ st pe (dense fr.n (pickF fr.l ps ks))) → st ≠ .busy →
        ∃ w4, (Instr.endLoop w1.heap.size).run P w3 = .ok pe w4 ∧ SimH w4 I4 ι4 (X.set M .dead) ∧ Ex X.length w3 I4 ι4 X w4 I4 ι4 (X.set M .dead) := by
      intro X st pe hX hXM hst
      subst hX
      obtain ⟨B', r, q1, q2, q3, q4, q5⟩ := s4.blk M _ hXM
      rw [hM4] at q1; obtain rfl := Option.some.inj q1
      have := run_endLoop (P := P) q2 (by rw [q4.1]; exact hst)
      rw [q4.2.1] at this
      exact ⟨_, this, (wrote_putObj w3 _ _).simO s4 ⟨_, hXM, rfl⟩ hM4 q2 (noCells_loop r) .dead trivial⟩
    have fin : ∀ (X : List ABlk) (w4 : World), H3 = X → SimH w4 I4 ι4 (X.set M .dead) → Ex X.length w3 I4 ι4 X w4 I4 ι4 (X.set M .dead) →
        Sim N w4 I4 ι4 ⟨⟨fr.n, pickF fr.l ps ks⟩, X.set M .dead⟩ { a with defers := [{ target := .collected w.heap.size, args := #[] }] ++ a.defers } ∧ Ex m w I ι H w4 I4 ι4 (X.set M .dead) := by
      intro X w4 hX s5 x5
      subst hX
      have x45 : Ext w2 I ι3 _ w4 I4 ι4 _ := x4.ext.trans x5.ext
      refine ⟨⟨⟨hs.fr.1, fun t u hu => (hfr4.2 t u hu).move (x5.ext.keepsI s4) x5.ext.Isub (fun b B hb => by
        rw [x5.keep b]; exact hb
        rcases Nat.lt_or_ge b H3.length with h | h
        · exact h
        · rw [s4.dom b h] at hb; exact absurd hb (by simp)) x5.ext.shape⟩, s5, ?_, fun d hd => (hmarks d hd).move x45, hnd⟩, (hx03.trans (x4.less (by omega))).trans (x5.less ?_)⟩
      · exact Nat.le_trans hs.hN (Nat.le_trans hx03.ext.size x45.size)
      · have := x4.len; omega
    rcases hend with ⟨a1, hE, rfl⟩ | ⟨c, z, hS, rfl⟩
    · obtain ⟨w4, e1, e2, e3⟩ := shut _ _ _ rfl (hJ _ a1).1 (by simp)
      obtain ⟨f1, f2⟩ := fin _ w4 rfl e2 e3
      rw [(hJ _ a1).2] at f1 f2
      exact ⟨none, w4, e1, _, I4, ι4, hdone a1 hE, f1, f2⟩
    · obtain ⟨w4, e1, e2, e3⟩ := shut _ _ _ rfl (hZ _ z).1 (by simp)
      obtain ⟨f1, f2⟩ := fin _ w4 rfl e2 e3
      rw [(hZ _ z).2] at f1 f2
      refine ⟨some c, w4, e1, ?_⟩
      exact wpIn_mono (hstop c z hS N w4 I4 ι4 _ f1 f2.len) fun _ _ _ hh => hh.step f2

end
end Go.Proofs.Ytolefphdldmlkaa.AL
