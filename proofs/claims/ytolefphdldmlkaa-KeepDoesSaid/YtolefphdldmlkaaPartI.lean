/- A part of the proof. -/
import Derived.Test.YtolefphdldmlkaaPartE
import Derived.Test.YtolefphdldmlkaaPartH
import Derived.Laws.Strings
/- The abstract layer (second make), part x: a region that draws its order, of which some operations make new rows in any order. -/
namespace Go.Proofs.Ytolefphdldmlkaa.AL
open Go Go.RowKit

theorem simh_nil {w : World} {I : Nat → Prop} {ι : Nat → Option Nat} {H : List ABlk} (h : SimH w I ι H) : SimH w I (fun _ => none) [] :=
  ⟨fun b k hb => by simp at hb, fun b b' B hb => by obtain ⟨k, hk, _⟩ := hb; simp at hk, h.Ilt, fun _ _ => rfl, fun b B hb => by simp at hb⟩

theorem simh_holes {w : World} {I : Nat → Prop} {ι : Nat → Option Nat} {H : List ABlk} (h : SimH w I ι H) (n : Nat) : SimH w I ι (H ++ List.replicate n .dead) := by
  have old : ∀ b, live (H ++ List.replicate n .dead) b → live H b := fun b ⟨k, hk, hl⟩ => by
    rcases Nat.lt_or_ge b H.length with hb | hb
    · rw [List.getElem?_append_left hb] at hk; exact ⟨k, hk, hl⟩
    · rw [List.getElem?_append_right hb, List.getElem?_replicate] at hk
      split at hk
      · obtain rfl := Option.some.inj hk; simp [ABlk.live] at hl
      · simp at hk
  refine ⟨fun b k hb => ?_, fun b b' B hb hb' => h.inj b b' B (old b hb) (old b' hb'), h.Ilt, fun b hb => h.dom b (by simp at hb; omega), h.rng⟩
  rcases Nat.lt_or_ge b H.length with hl | hl
  · rw [List.getElem?_append_left hl] at hb; exact h.blk b k hb
  · rw [List.getElem?_append_right hl, List.getElem?_replicate] at hb
    split at hb
    · obtain rfl := Option.some.inj hb; trivial
    · simp at hb

/-- A hole of the list is filled by a row that was made elsewhere. -/
theorem fill {w w' : World} {I I' : Nat → Prop} {ι ι1 : Nat → Option Nat} {H : List ABlk} {b sz : Nat} {t : TypeId} {xs : List (List PV)} (hs : SimH w I ι H) (hb : H[b]? = some .dead) (hι : ι b = none)
    (h1 : SimH w' I' ι1 [.row t sz xs]) (hx : Ext w I (fun _ => none) [] w' I' ι1 [.row t sz xs]) :
    SimH w' I' (fun x => if x = b then ι1 0 else ι x) (H.set b (.row t sz xs)) ∧ Ext w I ι H w' I' (fun x => if x = b then ι1 0 else ι x) (H.set b (.row t sz xs)) := by
  have hbl : b < H.length := (List.getElem?_eq_some_iff.1 hb).1
  have nol : ∀ c, ¬ live ([] : List ABlk) c := fun c ⟨k, hk, _⟩ => by simp at hk
  have fr : ∀ B, B < w.heap.size → w'.heap[B]? = w.heap[B]? := fun B hB => hx.frame B hB fun ⟨c, hc, _⟩ => nol c hc
  have hI : ∀ B, I B → w'.heap[B]? = w.heap[B]? := fun B hB => fr B (hs.Ilt B hB)
  have inew : ∀ B, I' B → I B ∨ w.heap.size ≤ B := fun B hB => by
    rcases hx.Inew B hB with h | h | ⟨c, hc, _⟩
    · exact .inl h
    · exact .inr h
    · exact absurd hc (nol c)
  have own0 : ∀ B, ι1 0 = some B → w.heap.size ≤ B := fun B hB => by
    rcases hx.own 0 B ⟨_, rfl, rfl⟩ hB with h | ⟨c, hc, _⟩
    · exact h
    · exact absurd hc (nol c)
  have mv : ∀ c B, ι c = some B → (if c = b then ι1 0 else ι c) = some B := fun c B hc => by
    by_cases e : c = b
    · subst e; rw [hι] at hc; simp at hc
    · rw [if_neg e]; exact hc
  have lv : ∀ c, live (H.set b (.row t sz xs)) c → c ≠ b → live H c := fun c ⟨k, hk, hl⟩ hc => by
    rw [List.getElem?_set_ne (by omega)] at hk; exact ⟨k, hk, hl⟩
  have ldb : ¬ live H b := fun ⟨k, hk, hl⟩ => by rw [hb] at hk; obtain rfl := Option.some.inj hk; simp [ABlk.live] at hl
  have notI : ∀ {B}, B < w.heap.size → ¬ I B → ¬ I' B := fun {B} hB hn hI' => by
    rcases inew B hI' with h | h
    · exact hn h
    · omega
  refine ⟨⟨?_, ?_, h1.Ilt, ?_, ?_⟩, ⟨hx.os, hx.tape, hx.output, hx.size, hx.shape, hx.Isub, fun B hB _ => fr B hB, fun B hB => ?_, ?_⟩⟩
  · intro c kc hc
    by_cases e : c = b
    · subst e
      rw [List.getElem?_set_self hbl] at hc
      obtain rfl := Option.some.inj hc
      have h0 := h1.blk 0 _ rfl
      rcases h0 with ⟨g1, g2⟩ | ⟨B, cs, g1, g2⟩
      · exact .inl ⟨g1, by show (if c = c then ι1 0 else ι c) = none; rw [if_pos rfl]; exact g2⟩
      · exact .inr ⟨B, cs, by show (if c = c then ι1 0 else ι c) = some B; rw [if_pos rfl]; exact g1, g2⟩
    · rw [List.getElem?_set_ne (by omega)] at hc
      have h0 := hs.blk c kc hc
      cases kc with
      | dead => trivial
      | cells t l =>
        obtain ⟨B, cs, g1, g2, g3, g4, g5⟩ := h0
        exact ⟨B, cs, mv c B g1, by rw [fr B (hs.rng c B g1)]; exact g2, notI (hs.rng c B g1) g3, g4, fun i u hu => (g5 i u hu).move hI hx.Isub mv hx.shape⟩
      | lp q st pe l =>
        obtain ⟨B, cs, g1, g2, g3, g4, g5⟩ := h0
        exact ⟨B, cs, mv c B g1, by rw [fr B (hs.rng c B g1)]; exact g2, notI (hs.rng c B g1) g3, g4, fun i u hu => (g5 i u hu).move hI hx.Isub mv hx.shape⟩
      | row t sz xs =>
        rcases h0 with ⟨g1, g2⟩ | ⟨B, cs, g1, g2, g3, g4, g5, g6⟩
        · exact .inl ⟨g1, by show (if c = b then ι1 0 else ι c) = none; rw [if_neg e]; exact g2⟩
        · exact .inr ⟨B, cs, mv c B g1, by rw [fr B (hs.rng c B g1)]; exact g2, notI (hs.rng c B g1) g3, g4, g5, fun j x hj => ⟨(g6 j x hj).1, fun i u hu => ((g6 j x hj).2 i u hu).move hI hx.Isub⟩⟩
      | obj o =>
        obtain ⟨g0, B, g1, g2, g3⟩ := h0
        exact ⟨g0, B, mv c B g1, by rw [fr B (hs.rng c B g1)]; exact g2, notI (hs.rng c B g1) g3⟩
  · intro c c' B hc hc' e1 e2
    have e1 : (if c = b then ι1 0 else ι c) = some B := e1
    have e2 : (if c' = b then ι1 0 else ι c') = some B := e2
    by_cases h : c = b <;> by_cases h' : c' = b
    · omega
    · rw [if_pos h] at e1; rw [if_neg h'] at e2
      have := own0 B e1; have := hs.rng c' B e2; omega
    · rw [if_neg h] at e1; rw [if_pos h'] at e2
      have := own0 B e2; have := hs.rng c B e1; omega
    · rw [if_neg h] at e1; rw [if_neg h'] at e2
      exact hs.inj c c' B (lv c hc h) (lv c' hc' h') e1 e2
  · intro c hc
    simp only [List.length_set] at hc
    show (if c = b then ι1 0 else ι c) = none
    rw [if_neg (by omega)]; exact hs.dom c hc
  · intro c B hc
    have hc : (if c = b then ι1 0 else ι c) = some B := hc
    by_cases e : c = b
    · rw [if_pos e] at hc; exact h1.rng 0 B hc
    · rw [if_neg e] at hc; have := hs.rng c B hc; have := hx.size; omega
  · rcases inew B hB with h | h
    · exact .inl h
    · exact .inr (.inl h)
  · intro c B hc e1
    have e1 : (if c = b then ι1 0 else ι c) = some B := e1
    by_cases e : c = b
    · rw [if_pos e] at e1; exact .inl (own0 B e1)
    · rw [if_neg e] at e1; exact .inr ⟨c, lv c hc e, e1⟩

/-- What an operation does where the list may have holes. -/
def DoesG (P : Program) (o : Oper) (ev : Operand → AV) (m : Nat) (H : List ABlk) (G : (Nat → Option Nat) → Prop) (H' : List ABlk) (G' : (Nat → Option Nat) → Prop) (u : AV) : Prop :=
  ∀ {ro : Option Nat} {w : World} {I : Nat → Prop} {ι : Nat → Option Nat} {a : Act} {next : Act → World → Prop} {Q : Exit → Act → World → Prop}, SimH w I ι H → G ι → (∀ x ∈ opsL o.op, ARep w I ι (ev x) (a.eval x)) →
    (∀ v w' I' ι', ARep w' I' ι' u v → SimH w' I' ι' H' → G' ι' → Ext w I ι H w' I' ι' H' → (∀ b B, ι b = some B → ι' b = some B) → (∀ b, b < m → ι' b = ι b) → next (a.put o.dst v) w') → o.wpIn (fen ro) 0 P a w next Q

section
variable {P : Program} {T : TTab} {ops : Array Oper} {m N : Nat} {B : Array Bool → List ABlk} {G : Array Bool → (Nat → Option Nat) → Prop}

def FactG (P : Program) (ops : Array Oper) (m : Nat) (B : Array Bool → List ABlk) (G : Array Bool → (Nat → Option Nat) → Prop) (F0 F : Fr) (i : Nat) (o : Oper) : Prop :=
  ∃ (fr : Fr) (c : Bool) (u : AV), dstOk F.n o.dst = true ∧ guardIs ops fr o.guard c ∧ (c = false → u = undA) ∧
    (∀ listed : Array Bool, listed.size = ops.size → DownS ops (fun j => listed[j]? = some true) → listed[i]? = some false → (∀ e ∈ o.after, Region.binds .any e = true → listed[e.on]? = some true) →
      (c = true → DoesG P o (evalA fr) m (B listed) (G listed) (B (listed.setIfInBounds i true)) (G (listed.setIfInBounds i true)) u) ∧
      (c = false → B (listed.setIfInBounds i true) = B listed ∧ ∀ ι, G listed ι → G (listed.setIfInBounds i true) ι)) ∧
    (∀ t ∈ readsOf ops o, t < F.n ∧ ((look fr.l t = look F.l t ∧ ∀ (j : Nat) (o' : Oper), ops[j]? = some o' → o'.dst = some t → ∃ e ∈ o.after, Region.binds .any e = true ∧ e.on = j) ∨
      (look fr.l t = look F0.l t ∧ ∀ (j : Nat) (o' : Oper), ops[j]? = some o' → o'.dst = some t → i = j ∨ ∃ e ∈ o'.after, Region.binds .any e = true ∧ e.on = i))) ∧
    (∀ d x, o.dst = some d → look F.l d = some x → x = u)

def JG (N m : Nat) (ops : Array Oper) (B : Array Bool → List ABlk) (G : Array Bool → (Nat → Option Nat) → Prop) (Fz F : Fr) (w0 : World) (I0 : Nat → Prop) (ι0 : Nat → Option Nat) (H0 : List ABlk) (listed : Array Bool) (a : Act) (w : World) : Prop :=
  ∃ I ι, a.tmps.size = F.n ∧ (N ≤ w.heap.size ∧ (∀ d ∈ a.defers, Mark N w I ι (B listed) d) ∧ a.defers.Pairwise (fun x y => x.target ≠ y.target)) ∧
    SimH w I ι (B listed) ∧ G listed ι ∧ (Ext w0 I0 ι0 H0 w I ι (B listed) ∧ (∀ b, b < m → ι b = ι0 b)) ∧
    (∀ t u, t < F.n → look F.l t = some u → (∀ (j : Nat) (o : Oper), ops[j]? = some o → o.dst = some t → listed[j]? = some true) → ARep w I ι u (a.tmps.getD t undef)) ∧
    (∀ t u, t < F.n → look Fz.l t = some u → (∀ (j : Nat) (o : Oper), ops[j]? = some o → o.dst = some t → listed[j]? = some false) → ARep w I ι u (a.tmps.getD t undef)) ∧
    DownS ops (fun j => listed[j]? = some true)

theorem draw_gen {ro : Option Nat} (hssa : ssaOk ops = true) {Fz F : Fr} {Q : Exit → Act → World → Prop} {w0 : World} {I0 : Nat → Prop} {ι0 : Nat → Option Nat} {H0 : List ABlk}
    (hfact : ∀ (i : Nat) (o : Oper), ops[i]? = some o → FactG P ops m B G Fz F i o)
    (hQ : ∀ listed : Array Bool, listed.size = ops.size → (∀ i, i < ops.size → listed[i]? = some true) → ∀ a w I ι, (a.tmps.size = F.n ∧ ∀ t u, t < F.n → look F.l t = some u → ARep w I ι u (a.tmps.getD t undef)) → SimH w I ι (B listed) → (N ≤ w.heap.size ∧ (∀ d ∈ a.defers, Mark N w I ι (B listed) d) ∧ a.defers.Pairwise (fun x y => x.target ≠ y.target)) →
      Ext w0 I0 ι0 H0 w I ι (B listed) → (∀ b, b < m → ι b = ι0 b) → G listed ι → Q .normal a w) :
    ∀ (fuel : Nat) (listed : Array Bool) (a : Act) (w : World), listed.size = ops.size → listed.toList.count true + fuel = ops.size → JG N m ops B G Fz F w0 I0 ι0 H0 listed a w → wpAnyIn (fen ro) 0 P .any ops Q fuel listed a w := by
  intro fuel
  have hdone : ∀ (listed : Array Bool) (a : Act) (w : World), listed.size = ops.size → JG N m ops B G Fz F w0 I0 ι0 H0 listed a w → Region.ready .any ops listed = [] → Q .normal a w := by
    intro listed a w hsz hJ hr
    obtain ⟨I, ι, h1, h2, h3, hG, h4, h5, h6, h7⟩ := hJ
    have hall : ∀ i, i < ops.size → listed[i]? = some true := by
      intro i
      induction i using Nat.strongRecOn with
      | _ i ih =>
        intro hi
        cases hb : listed[i]? with
        | none => have := Array.getElem?_eq_none_iff.1 hb; omega
        | some b =>
          cases b with
          | true => rfl
          | false =>
            exfalso
            have hmem : i ∈ Region.ready .any ops listed := by
              unfold Region.ready
              rw [List.mem_filter]
              refine ⟨by simpa using hi, ?_⟩
              have ho : ops[i]? = some ops[i] := Array.getElem?_eq_getElem hi
              rw [ho]
              simp only [Option.map_some, Option.getD_some, Bool.and_eq_true]
              refine ⟨by rw [Array.getD_eq_getD_getElem?, hb]; rfl, ?_⟩
              rw [Array.all_eq_true']
              intro e he
              cases hbe : Region.binds .any e with
              | false => rfl
              | true =>
                have hlt := (ssa_ok hssa ho).1 e he hbe
                have := ih e.on hlt (by omega)
                rw [Array.getD_eq_getD_getElem?, this]; rfl
            rw [hr] at hmem
            simp at hmem
    refine hQ listed hsz hall a w I ι ⟨h1, fun t u ht hu => h5 t u ht hu (fun j o hj _ => hall j ?_)⟩ h3 h2 h4.1 h4.2 hG
    exact (Array.getElem?_eq_some_iff.1 hj).1
  induction fuel with
  | zero =>
    intro listed a w hsz hcnt hJ
    have hr : Region.ready .any ops listed = [] := by
      have hall : ∀ b ∈ listed.toList, true = b := List.count_eq_length.1 (by rw [Array.length_toList]; omega)
      unfold Region.ready
      rw [List.filter_eq_nil_iff]
      intro i hi
      have hi : i < ops.size := by simpa using hi
      have hi' : i < listed.size := by omega
      have : listed[i] = true := (hall _ (by rw [Array.mem_toList_iff]; exact Array.getElem_mem hi')).symm
      simp [Array.getD_eq_getD_getElem?, hi', this]
    exact ⟨hr, hdone listed a w hsz hJ hr⟩
  | succ fuel ih =>
    intro listed a w hsz hcnt hJ
    refine ⟨hdone listed a w hsz hJ, fun i hi => ?_⟩
    unfold Region.ready at hi
    rw [List.mem_filter] at hi
    obtain ⟨hi1, hi2⟩ := hi
    have hi1 : i < ops.size := by simpa using hi1
    have ho : ops[i]? = some ops[i] := Array.getElem?_eq_getElem hi1
    generalize ops[i] = o at ho
    rw [ho] at hi2
    simp only [Option.map_some, Option.getD_some, Bool.and_eq_true] at hi2
    obtain ⟨hun, hed⟩ := hi2
    have hli : listed[i]? = some false := by
      rw [Array.getD_eq_getD_getElem?] at hun
      cases hb : listed[i]? with
      | none => have := Array.getElem?_eq_none_iff.1 hb; omega
      | some b => rw [hb] at hun; cases b with
        | false => rfl
        | true => simp at hun
    have hedge : ∀ e ∈ o.after, Region.binds .any e = true → listed[e.on]? = some true := by
      intro e he hb
      have := (Array.all_eq_true'.1 hed) e he
      rw [hb] at this
      rw [Array.getD_eq_getD_getElem?] at this
      cases hx : listed[e.on]? with
      | none => rw [hx] at this; simp at this
      | some b => rw [hx] at this; cases b with
        | true => rfl
        | false => simp at this
    obtain ⟨I, ι, h1, h2, h3, hG, h4, h5, h6, h7⟩ := hJ
    obtain ⟨fr, c, u, f0, f1, f3, fx, f4, f5⟩ := hfact i o ho
    -- the slots that it reads are ready
    have hread : ∀ t x, t ∈ readsOf ops o → look fr.l t = some x → ARep w I ι x (a.tmps.getD t undef) := by
      intro t x ht hx
      obtain ⟨hlt, f4⟩ := f4 t ht
      rcases f4 with ⟨e1, e2⟩ | ⟨e1, e2⟩
      · refine h5 t x hlt (by rw [← e1]; exact hx) (fun j o' hj hd => ?_)
        obtain ⟨e, he, hb, hon⟩ := e2 j o' hj hd
        rw [← hon]; exact hedge e he hb
      · refine h6 t x hlt (by rw [← e1]; exact hx) (fun j o' hj hd => ?_)
        rcases e2 j o' hj hd with rfl | ⟨e, he, hb, hon⟩
        · exact hli
        · have hjl : j < listed.size := by rw [hsz]; exact (Array.getElem?_eq_some_iff.1 hj).1
          cases hb2 : listed[j]? with
          | none => have := Array.getElem?_eq_none_iff.1 hb2; omega
          | some b => cases b with
            | false => rfl
            | true =>
              have := h7 j o' hj hb2 e he hb
              rw [hon, hli] at this
              simp at this
    have hcnt' : (listed.setIfInBounds i true).toList.count true + fuel = ops.size := by
      have hlt : i < listed.toList.length := by rw [Array.length_toList]; omega
      have hget : listed.toList[i]? = some false := by rw [Array.getElem?_toList]; exact hli
      have : (listed.setIfInBounds i true).toList.count true = listed.toList.count true + 1 := by
        rw [Array.toList_setIfInBounds]
        have hdec : listed.toList = listed.toList.take i ++ false :: listed.toList.drop (i + 1) := by
          have := List.getElem?_eq_some_iff.1 hget
          obtain ⟨hlt', he⟩ := this
          rw [← he, List.getElem_cons_drop, List.take_append_drop]
        rw [List.set_eq_take_append_cons_drop, if_pos hlt]
        conv => rhs; rw [hdec]
        simp only [List.count_append, List.count_cons]
        simp
        omega
      omega
    have hsz' : (listed.setIfInBounds i true).size = ops.size := by simp [hsz]
    have hil : i < listed.size := by omega
    -- what the new state knows
    have step : ∀ (w' : World) (I' : Nat → Prop) (ι' : Nat → Option Nat) (v : Value), SimH w' I' ι' (B (listed.setIfInBounds i true)) → G (listed.setIfInBounds i true) ι' → Ext w I ι (B listed) w' I' ι' (B (listed.setIfInBounds i true)) → (∀ b B, ι b = some B → ι' b = some B) → (∀ b, b < m → ι' b = ι b) → ARep w' I' ι' u v →
        JG N m ops B G Fz F w0 I0 ι0 H0 (listed.setIfInBounds i true) (a.put o.dst v) w' := by
      intro w' I' ι' v hs' hG' hx' hk' hm' hv
      have mv : ∀ {x : AV} {v : Value}, ARep w I ι x v → ARep w' I' ι' x v := fun hold => hold.move (hx'.keepsI h3) hx'.Isub hk' hx'.shape
      have e1 : ∀ t, o.dst ≠ some t → (a.put o.dst v).tmps.getD t undef = a.tmps.getD t undef := fun t hd => by
        cases hd' : o.dst with
        | none => rfl
        | some d =>
          simp only [Act.put]
          rw [Array.getD_eq_getD_getElem?, Array.getElem?_setIfInBounds_ne (by intro e; exact hd (by rw [hd', e])), ← Array.getD_eq_getD_getElem?]
      refine ⟨I', ι', ?_, by rw [put_defers]; exact ⟨Nat.le_trans h2.1 hx'.size, fun d hd => (h2.2.1 d hd).move hx', h2.2.2⟩, hs', hG', ⟨h4.1.trans hx', fun b hb => (hm' b hb).trans (h4.2 b hb)⟩, fun t x htn hx hall => ?_, fun t x htn hx hall => ?_, fun j oj hj hlj e he hb => ?_⟩
      · cases hd : o.dst <;> simp [Act.put, h1]
      · by_cases hd : o.dst = some t
        · have := f5 t x hd hx
          subst this
          have hlt : t < a.tmps.size := by rw [hd] at f0; rw [h1]; simpa [dstOk, Nat.blt_eq] using f0
          rw [hd]
          simp only [Act.put]
          rw [Array.getD_eq_getD_getElem?, Array.getElem?_setIfInBounds_self_of_lt hlt]
          exact hv
        · have hold : ARep w I ι x (a.tmps.getD t undef) := by
            refine h5 t x htn hx (fun j o' hj hd' => ?_)
            have hne : j ≠ i := fun e => by
              subst e
              rw [ho] at hj
              obtain rfl := Option.some.inj hj
              exact hd hd'
            have := hall j o' hj hd'
            rw [Array.getElem?_setIfInBounds_ne (by omega)] at this
            exact this
          rw [e1 t hd]
          exact mv hold
      · have hd : o.dst ≠ some t := fun hd => by
          have := hall i o ho hd
          rw [Array.getElem?_setIfInBounds_self_of_lt hil] at this
          simp at this
        rw [e1 t hd]
        refine mv (h6 t x htn hx (fun j o' hj hd' => ?_))
        have := hall j o' hj hd'
        by_cases e : i = j
        · subst e; rw [Array.getElem?_setIfInBounds_self_of_lt hil] at this; simp at this
        · rw [Array.getElem?_setIfInBounds_ne e] at this; exact this
      · have up : ∀ n, listed[n]? = some true → (listed.setIfInBounds i true)[n]? = some true := fun n hn => by
          by_cases e : i = n
          · subst e; exact Array.getElem?_setIfInBounds_self_of_lt hil
          · rw [Array.getElem?_setIfInBounds_ne e]; exact hn
        by_cases e : i = j
        · subst e
          rw [ho] at hj; obtain rfl := Option.some.inj hj
          exact up _ (hedge _ he hb)
        · replace hlj : (listed.setIfInBounds i true)[j]? = some true := hlj
          rw [Array.getElem?_setIfInBounds_ne e] at hlj
          exact up _ (h7 j oj hj hlj _ he hb)
    have hwant : Region.wanted o (yielded ops a.tmps) = c := by
      refine want_of (w := w) (I := I) (ι := ι) (fr := fr) (fun d b hdb hg => ?_) f1
      obtain ⟨j, want, hg, g1⟩ := hg
      have hdm : d ∈ readsOf ops o := by simp [readsOf, hg, g1]
      exact hread d _ hdm hdb
    have hops : ∀ x ∈ opsL o.op, ARep w I ι (evalA fr x) (a.eval x) := fun x hx => by
      cases x with
      | tmp t =>
        have ht : t ∈ readsOf ops o := by
          unfold readsOf tmpsOf
          exact List.mem_append_left _ (List.mem_filterMap.2 ⟨.tmp t, hx, rfl⟩)
        show ARep w I ι ((look fr.l t).getD .top) (a.tmps.getD t undef)
        cases hF : look fr.l t with
        | none => exact .top _
        | some x => exact hread t x ht hF
      | const v => exact const_ok v
      | global g => exact .top _
      | func f => exact .clo (.func f) [] #[] rfl (fun i u h => by simp at h)
    obtain ⟨fy, fn⟩ := fx listed hsz h7 hli hedge
    unfold wpOpIn
    rw [ho]
    simp only
    rw [hwant]
    cases c with
    | false =>
      rw [if_neg (by simp)]
      have hu := f3 rfl
      subst hu
      refine ⟨fun f _ => fen_fn ro f, ?_⟩
      have hrep : ARep w I ι undA undef := .tup [] #[] rfl (fun i u h => by simp at h)
      obtain ⟨g1, g2⟩ := fn rfl
      exact ih _ _ _ hsz' hcnt' (step w I ι undef (by rw [g1]; exact h3) (g2 ι hG) (by rw [g1]; exact Ext.refl _ _ _ _) (fun _ _ h => h) (fun _ _ => rfl) hrep)
    | true =>
      rw [if_pos rfl]
      refine fy rfl h3 hG hops ?_
      intro v w' I' ι' hr hs' hG' hx' hk' hm'
      exact ih _ _ _ hsz' hcnt' (step w' I' ι' v hs' hG' hx' hk' hm' hr)
end

/-! Some operations make rows, in any order: each has its own place behind the blocks that came in. -/
structure Mk where
  k : Nat
  t : TypeId
  sz : Nat
  len : Nat
  xs : List (List PV)
abbrev Mk.row (x : Mk) : ABlk := .row x.t x.sz x.xs
abbrev Mk.val (x : Mk) (b : Nat) : AV := .msl b x.sz 0 x.len

def isL (listed : Array Bool) (k : Nat) : Bool := listed.getD k false
def holesL (fe : List Mk) (listed : Array Bool) : List ABlk := fe.map fun x => match isL listed x.k with | true => x.row | false => .dead
def cntL (ef : List Nat) (listed : Array Bool) : Nat := (ef.takeWhile fun e => isL listed e).length
def BU (H0 : List ABlk) (fe : List Mk) (ef : List Nat) (Hs : List (List ABlk)) (listed : Array Bool) : List ABlk :=
  match fe.all fun x => isL listed x.k with
  | true => Hs.getD (cntL ef listed) []
  | false => H0 ++ holesL fe listed
def GU (m n0 : Nat) (fe : List Mk) (B : Array Bool → List ABlk) (listed : Array Bool) (ι : Nat → Option Nat) : Prop := m ≤ (B listed).length ∧ ∀ (j : Nat) (x : Mk), fe[j]? = some x → isL listed x.k = false → ι (n0 + j) = none

def mkIdx : List Nat → Nat → Nat → Option Nat
  | [], _, _ => none
  | x :: r, k, j => match Nat.beq x k with | true => some j | false => mkIdx r k (j + 1)
def modOp (fe : List Nat) (n k : Nat) (o : Oper) : Oper := match mkIdx fe k 0 with
  | some j => { o with op := .move (.tmp (n + j)) }
  | none => o
def modL (fe : List Nat) (n : Nat) : List Oper → Nat → List Oper
  | [], _ => []
  | o :: r, k => modOp fe n k o :: modL fe n r (k + 1)
def phL : List Mk → Nat → Nat → List (Nat × AV)
  | [], _, _ => []
  | x :: r, t, b => (t, x.val b) :: phL r (t + 1) (b + 1)
def frU (fr : Fr) (fe : List Mk) (n0 : Nat) : Fr := ⟨fr.n, fr.l ++ phL fe fr.n n0⟩
def cutF (F : Fr) : Fr := ⟨F.n, F.l.filter fun x => Nat.blt x.1 F.n⟩

def isPA : AV → Bool | .p _ => true | _ => false
def feOk (P : Program) (T : TTab) (ops : Array Oper) (F : Fr) : List Mk → Nat → Prop → Prop
  | [], _, K => K
  | x :: r, b, K => optK ops[x.k]? fun o => chk (o.guard.isNone && (opsL o.op).all (fun y => isPA (evalA F y))) (optK o.dst fun d => optK (look F.l d) fun u => u = x.val b ∧
      aopX P T (callQA P) (evX F) [] (fun u H' => u = x.val 0 ∧ H' = [x.row]) o.op ∧ feOk P T ops F r (b + 1) K)

def memK (fe : List Nat) (k : Nat) : Bool := fe.any fun x => Nat.beq x k
def drawOkU (ops ops' : Array Oper) (n : Nat) (fe : List Nat) (ef : List Nat) : Bool :=
  ssaOk ops && drawOk ops' ef && nodupB fe && ef.all (fun e => !memK fe e && fe.all fun x => ((anc ops').getD e 0).testBit x) &&
  (ops.toList.zipIdx.all fun (o, i) => (readsOf ops o).all (fun t => Nat.blt t n) && (match memK fe i with
    | true => (readsOf ops o).all fun t => ops.toList.zipIdx.all fun (o', j) => match o'.dst with | some d => !(Nat.beq d t) || o.after.toList.any (fun e => Region.binds .any e && e.on == j) | none => true
    | false => hfree o.op || memB ef i || fe.all fun x => ((anc ops').getD i 0).testBit x))

theorem mkIdx_none : ∀ {fe : List Nat} {k j : Nat}, memK fe k = false → mkIdx fe k j = none
  | [], _, _, _ => rfl
  | x :: r, k, j, h => by
    simp only [memK, List.any_cons, Bool.or_eq_false_iff] at h
    unfold mkIdx; rw [h.1]; exact mkIdx_none h.2
theorem modL_get {fe : List Nat} {n : Nat} : ∀ {l : List Oper} {k i : Nat}, (modL fe n l k)[i]? = (l[i]?).map (modOp fe n (k + i))
  | [], k, i => by simp [modL]
  | o :: r, k, i => by
    cases i with
    | zero => simp [modL]
    | succ i => rw [modL, List.getElem?_cons_succ, List.getElem?_cons_succ, modL_get, show k + 1 + i = k + (i + 1) by omega]
theorem modOp_same (fe : List Nat) (n k : Nat) (o : Oper) : (modOp fe n k o).dst = o.dst ∧ (modOp fe n k o).after = o.after ∧ (modOp fe n k o).guard = o.guard := by
  unfold modOp; split <;> exact ⟨rfl, rfl, rfl⟩
theorem cut_look (F : Fr) (t : Nat) : look (cutF F).l t = match Nat.blt t F.n with | true => look F.l t | false => none := by
  unfold cutF
  generalize F.l = l
  induction l with
  | nil => cases h : Nat.blt t F.n <;> simp [look]
  | cons x r ih =>
    obtain ⟨k, u⟩ := x
    rw [List.filter_cons]
    by_cases e : k = t
    · subst e
      by_cases h : Nat.blt k F.n = true
      · rw [if_pos h, look_self, look_self, h]
      · have h' : Nat.blt k F.n = false := Bool.eq_false_iff.2 h
        rw [if_neg h, ih, h']
    · by_cases h : Nat.blt k F.n = true
      · rw [if_pos h, look_other _ _ e, look_other _ _ e, ih]
      · rw [if_neg h, look_other _ _ e, ih]

theorem isL_iff {listed : Array Bool} {k : Nat} : isL listed k = true ↔ listed[k]? = some true := by
  unfold isL; rw [Array.getD_eq_getD_getElem?]
  cases h : listed[k]? with
  | none => simp
  | some b => simp
theorem isL_set {listed : Array Bool} {i k : Nat} (hi : i < listed.size) : isL (listed.setIfInBounds i true) k = (Nat.beq i k || isL listed k) := by
  unfold isL; rw [Array.getD_eq_getD_getElem?, Array.getD_eq_getD_getElem?]
  by_cases e : i = k
  · subst e; rw [Array.getElem?_setIfInBounds_self_of_lt hi]; simp
  · rw [Array.getElem?_setIfInBounds_ne e]
    have : Nat.beq i k = false := by
      cases h : Nat.beq i k with
      | false => rfl
      | true => exact absurd (Nat.eq_of_beq_eq_true h) e
    rw [this, Bool.false_or]

theorem takeWhile_get {f : Nat → Bool} : ∀ {ef : List Nat} {q e : Nat}, ef[q]? = some e → q < (ef.takeWhile f).length → f e = true
  | [], q, e, h, _ => by simp at h
  | x :: r, q, e, h, hq => by
    rw [List.takeWhile_cons] at hq
    cases hf : f x with
    | false => rw [hf] at hq; simp at hq
    | true =>
      rw [hf] at hq
      cases q with
      | zero => simp at h; subst h; exact hf
      | succ q => exact takeWhile_get (ef := r) (by simpa using h) (by simpa using hq)
theorem takeWhile_at {f : Nat → Bool} : ∀ {ef : List Nat} {e : Nat}, ef[(ef.takeWhile f).length]? = some e → f e = false
  | [], e, h => by simp at h
  | x :: r, e, h => by
    rw [List.takeWhile_cons] at h
    cases hf : f x with
    | false => rw [hf] at h; simp at h; subst h; exact hf
    | true => rw [hf] at h; simp only [if_true, List.length_cons, List.getElem?_cons_succ] at h; exact takeWhile_at h
theorem cnt_spec {an ef : List Nat} {listed : Array Bool} (hch : chainOk an ef = true) (hd : ∀ a b, (an.getD b 0).testBit a = true → isL listed b = true → isL listed a = true) :
    cntL ef listed ≤ ef.length ∧ ∀ q e, ef[q]? = some e → (isL listed e = true ↔ q < cntL ef listed) := by
  have hle : cntL ef listed ≤ ef.length := (List.takeWhile_prefix _).length_le
  refine ⟨hle, fun q e he => ⟨fun hl => ?_, fun hq => takeWhile_get he hq⟩⟩
  refine Nat.lt_of_not_le fun hge => ?_
  -- downwards to the first that has not come
  have down : ∀ d q e, ef[q]? = some e → q = cntL ef listed + d → isL listed e = true → False := by
    intro d
    induction d with
    | zero =>
      intro q e he hq hl
      have := takeWhile_at (f := fun e => isL listed e) (ef := ef) (e := e) (by rw [Nat.add_zero] at hq; subst hq; exact he)
      rw [this] at hl; simp at hl
    | succ d ih =>
      intro q e he hq hl
      have hlt := (List.getElem?_eq_some_iff.1 he).1
      have hp : q - 1 < ef.length := by omega
      have h1 := List.getElem?_eq_getElem hp
      exact ih (q - 1) _ h1 (by omega) (hd _ _ (chain_of hch (q - 1) _ e h1 (by rw [show q - 1 + 1 = q by omega]; exact he)) hl)
  exact down (q - cntL ef listed) q e he (by omega) hl

theorem cnt_of {ef : List Nat} {listed : Array Bool} {k : Nat} (h : ∀ q e, ef[q]? = some e → (isL listed e = true ↔ q < k)) (hk : k ≤ ef.length) : cntL ef listed = k := by
  have hle : cntL ef listed ≤ ef.length := (List.takeWhile_prefix _).length_le
  rcases Nat.lt_trichotomy (cntL ef listed) k with h1 | h1 | h1
  · have h2 := List.getElem?_eq_getElem (show cntL ef listed < ef.length by omega)
    have h3 := takeWhile_at (f := fun e => isL listed e) (ef := ef) h2
    have h4 := (h _ _ h2).2 h1
    rw [h3] at h4; simp at h4
  · exact h1
  · have h2 := List.getElem?_eq_getElem (show k < ef.length by omega)
    have h3 : isL listed _ = true := takeWhile_get (f := fun e => isL listed e) h2 h1
    have := (h _ _ h2).1 h3
    omega

theorem holes_set {fe : List Mk} {listed : Array Bool} {j : Nat} {x : Mk} (hnd : (fe.map (·.k)).Nodup) (hj : fe[j]? = some x) (hx : x.k < listed.size) : holesL fe (listed.setIfInBounds x.k true) = (holesL fe listed).set j x.row := by
  apply List.ext_getElem?
  intro i
  unfold holesL
  rw [List.getElem?_map, List.getElem?_set]
  have hlt := (List.getElem?_eq_some_iff.1 hj).1
  by_cases e : j = i
  · subst e
    rw [if_pos rfl, if_pos (by simpa using hlt), hj]
    simp only [Option.map_some]
    rw [isL_set hx, show Nat.beq x.k x.k = true by simp, Bool.true_or]
  · rw [if_neg e, List.getElem?_map]
    cases hi : fe[i]? with
    | none => rfl
    | some y =>
      simp only [Option.map_some]
      rw [isL_set hx]
      have : Nat.beq x.k y.k = false := by
        cases h : Nat.beq x.k y.k with
        | false => rfl
        | true =>
          have he := Nat.eq_of_beq_eq_true h
          have a1 : (fe.map (·.k))[j]? = some x.k := by rw [List.getElem?_map, hj]; rfl
          have a2 : (fe.map (·.k))[i]? = some x.k := by rw [List.getElem?_map, hi, he]; rfl
          obtain ⟨b1, b2⟩ := List.getElem?_eq_some_iff.1 a1
          obtain ⟨c1, c2⟩ := List.getElem?_eq_some_iff.1 a2
          exact absurd ((List.getElem_inj hnd).1 (b2.trans c2.symm)) e
      rw [this, Bool.false_or]

theorem BU_pre {H0 : List ABlk} {fe : List Mk} {ef : List Nat} {Hs : List (List ABlk)} {listed : Array Bool} (h0 : Hs.getD 0 [] = H0 ++ fe.map Mk.row) (hef : ∀ e ∈ ef, isL listed e = false) : BU H0 fe ef Hs listed = H0 ++ holesL fe listed := by
  unfold BU
  split
  · rename_i hall
    have hc : cntL ef listed = 0 := by
      unfold cntL
      cases ef with
      | nil => rfl
      | cons e r => rw [List.takeWhile_cons, hef e (by simp)]; rfl
    rw [hc, h0]
    refine congrArg _ ?_
    unfold holesL
    refine List.map_congr_left fun x hx => ?_
    rw [List.all_eq_true.1 hall x hx]
  · rfl

section
variable {P : Program} {T : TTab} {ops ops' : Array Oper} {m : Nat} {fe : List Mk} {ef : List Nat}

theorem feOk_at : ∀ {fe : List Mk} {b : Nat} {F : Fr} {K : Prop}, feOk P T ops F fe b K → K ∧ ∀ (j : Nat) (x : Mk), fe[j]? = some x → ∃ (o : Oper) (d : Tmp), ops[x.k]? = some o ∧ o.guard = none ∧ (∀ y ∈ opsL o.op, isPA (evalA F y) = true) ∧ o.dst = some d ∧ look F.l d = some (x.val (b + j)) ∧
      aop P T (callQA P) (evalA F) [] (fun u H' => u = x.val 0 ∧ H' = [x.row]) o.op
  | [], _, _, _, h => ⟨h, fun j x hj => by simp at hj⟩
  | x :: r, b, F, K, h => by
    obtain ⟨o, ho, h⟩ := optE h
    obtain ⟨hc, h⟩ := chkE h
    rw [Bool.and_eq_true] at hc
    obtain ⟨d, hd, h⟩ := optE h
    obtain ⟨u, hu, rfl, h1, h2⟩ := optE h
    obtain ⟨k1, k2⟩ := feOk_at h2
    refine ⟨k1, fun j y hj => ?_⟩
    cases j with
    | zero =>
      simp only [List.getElem?_cons_zero, Option.some.injEq] at hj
      subst hj
      exact ⟨o, d, ho, by simpa using hc.1, fun y hy => List.all_eq_true.1 hc.2 y hy, hd, hu, aopX_ok h1⟩
    | succ j =>
      rw [show b + (j + 1) = b + 1 + j by omega]
      exact k2 j y (by simpa using hj)

/-- A region of which some operations make rows, in any order, ahead of what they are used for. -/
theorem aw_drawU {ro : Option Nat} (n : Nat) (ks : List Nat) (fe : List Mk) (ef fz : List Nat) (hT : TOk P T) (hm' : P.follows .mixedOrders = true) {id : Nat} {s : St} {Q : Exit → St → Prop} (hn : s.fr.n = n) (hks : fe.map Mk.k = ks) (hmod : ops' = (modL ks n ops.toList 0).toArray) (hok : drawOkU ops ops' n ks ef = true) (hmH : m ≤ s.H.length)
    (h : aD P T ops' fz ef (anc ops') ops'.toList 0 ef (frU s.fr fe s.H.length) (s.H ++ fe.map Mk.row) [s.H ++ fe.map Mk.row] [] (fun fr H => feOk P T ops fr fe s.H.length (Q .normal ⟨cutF fr, H⟩))) : AW P ro m (.region id ops true) s Q := fun N w I ι a hs hm => by
  subst hn hks
  simp only [drawOkU, Bool.and_eq_true] at hok
  obtain ⟨⟨⟨⟨hssa, hok'⟩, hndk⟩, hefA⟩, hall⟩ := hok
  simp only [drawOk, Bool.and_eq_true] at hok'
  obtain ⟨⟨⟨hssa', hch⟩, hnd⟩, hlt⟩ := hok'
  have hndk := nodup_of hndk
  have hnd := nodup_of hnd
  have hget : ∀ i : Nat, ops'[i]? = (ops[i]?).map (modOp (fe.map Mk.k) s.fr.n i) := fun i => by
    rw [hmod, List.getElem?_toArray, modL_get, Nat.zero_add, Array.getElem?_toList]
  have hsz : ops'.size = ops.size := by
    have h1 : ∀ i, i < ops'.size ↔ i < ops.size := fun i => by
      have h2 := hget i
      constructor
      · intro hi
        rw [Array.getElem?_eq_getElem hi] at h2
        cases h3 : ops[i]? with
        | none => rw [h3] at h2; simp at h2
        | some o => exact (Array.getElem?_eq_some_iff.1 h3).1
      · intro hi
        rw [Array.getElem?_eq_getElem hi] at h2
        exact (Array.getElem?_eq_some_iff.1 h2).1
    have a1 := (h1 ops.size).1
    have a2 := (h1 ops'.size).2
    omega
  have hdst : ∀ (j : Nat) (o' : Oper), ops'[j]? = some o' → ∃ o, ops[j]? = some o ∧ o' = modOp (fe.map Mk.k) s.fr.n j o := fun j o' hj => by
    rw [hget j] at hj
    cases h1 : ops[j]? with
    | none => rw [h1] at hj; simp at hj
    | some o => rw [h1] at hj; exact ⟨o, rfl, (Option.some.inj hj).symm⟩
  have hdown : ∀ {S : Nat → Prop}, DownS ops S → DownS ops' S := fun {S} hS j o' hj hl e he hb => by
    obtain ⟨o, ho, rfl⟩ := hdst j o' hj
    rw [(modOp_same ..).2.1] at he
    exact hS j o ho hl e he hb
  obtain ⟨F, HF, Hs, k1, k2, hHF, k4, k5, _⟩ := aD_steps (p := 0) hT ops'.toList h (by simp) (Nat.zero_le _) rfl rfl
  subst hHF
  have hlen : F.n = s.fr.n := k4.length
  obtain ⟨k5, k6⟩ := feOk_at k5
  have hH0 : Hs.getD 0 [] = s.H ++ fe.map Mk.row := by rw [getD_pre k1 (by simp)]; rfl
  have hoth : ∀ t, t < s.fr.n → (∀ o ∈ ops.toList, o.dst ≠ some t) → look F.l t = look (frU s.fr fe s.H.length).l t := fun t _ ht => k4.other fun o' ho' hd => by
    obtain ⟨j, hj⟩ := List.getElem?_of_mem ho'
    rw [Array.getElem?_toList] at hj
    obtain ⟨o, ho, rfl⟩ := hdst j o' hj
    rw [(modOp_same ..).1] at hd
    exact ht o (List.mem_of_getElem? (by rw [Array.getElem?_toList]; exact ho)) hd
  have hph : ∀ (fe : List Mk) (t b x : Nat), x < t → look (phL fe t b) x = none := fun fe => by
    induction fe with
    | nil => intro t b x _; rfl
    | cons y r ih => intro t b x hx; rw [phL, look_other _ _ (by omega)]; exact ih _ _ _ (by omega)
  have happ : ∀ (l r : List (Nat × AV)) (x : Nat), look r x = none → look (l ++ r) x = look l x := fun l r x hr => by
    induction l with
    | nil => simpa [look] using hr
    | cons y l ih =>
      obtain ⟨k, u⟩ := y
      rw [List.cons_append]
      by_cases e : k = x
      · subst e; rw [look_self, look_self]
      · rw [look_other _ _ e, look_other _ _ e]; exact ih
  have hfrU : ∀ t, t < s.fr.n → look (frU s.fr fe s.H.length).l t = look s.fr.l t := fun t ht => happ _ _ _ (hph _ _ _ _ ht)
  have memZ : ∀ {i : Nat} {o : Oper}, ops[i]? = some o → (o, i) ∈ ops.toList.zipIdx := fun {i o} hi => by
    rw [List.mem_zipIdx_iff_getElem?, Array.getElem?_toList]; exact hi
  have feMem : ∀ {k : Nat}, memK (fe.map Mk.k) k = true → ∃ (j : Nat) (x : Mk), fe[j]? = some x ∧ x.k = k := fun {k} hk => by
    obtain ⟨y, hy, he⟩ := List.any_eq_true.1 hk
    obtain ⟨x, hx, rfl⟩ := List.mem_map.1 hy
    obtain ⟨j, hj⟩ := List.getElem?_of_mem hx
    exact ⟨j, x, hj, Nat.eq_of_beq_eq_true he⟩
  have feAt : ∀ {x : Mk}, x ∈ fe → memK (fe.map Mk.k) x.k = true := fun {x} hx => List.any_eq_true.2 ⟨x.k, List.mem_map_of_mem hx, by simp⟩
  have efFe : ∀ e ∈ ef, memK (fe.map Mk.k) e = false ∧ ∀ x ∈ fe, ((anc ops').getD e 0).testBit x.k = true := fun e he => by
    have := List.all_eq_true.1 hefA e he
    simp only [Bool.and_eq_true, Bool.not_eq_true'] at this
    exact ⟨this.1, fun x hx => List.all_eq_true.1 this.2 x.k (List.mem_map_of_mem hx)⟩
  have hfact : ∀ (i : Nat) (o : Oper), ops[i]? = some o → FactG P ops m (BU s.H fe ef Hs) (GU m s.H.length fe (BU s.H fe ef Hs)) s.fr F i o := by
    intro i o ho
    have hchk := List.all_eq_true.1 hall _ (memZ ho)
    simp only [Bool.and_eq_true] at hchk
    obtain ⟨hrd, hchk⟩ := hchk
    have hrd : ∀ t ∈ readsOf ops o, t < F.n := fun t ht => by
      have := List.all_eq_true.1 hrd t ht
      rw [hlen]; simpa [Nat.blt_eq] using this
    cases hmk : memK (fe.map Mk.k) i with
    | true =>
      rw [hmk] at hchk
      obtain ⟨j, x, hj, rfl⟩ := feMem hmk
      obtain ⟨o2, d, g1, g2, g3, g4, g5, g6⟩ := k6 j x hj
      rw [ho] at g1
      obtain rfl := Option.some.inj g1
      have hdo : dstOk F.n o.dst = true := by
        have hd' := DS.facts hssa' (F0 := frU s.fr fe s.H.length) ops'.toList 0 0 (fun j o h => by rw [Nat.zero_add, ← Array.getElem?_toList]; exact h) (fun _ _ => rfl) k4 x.k (modOp (fe.map Mk.k) s.fr.n x.k o) (by rw [Array.getElem?_toList, hget, ho]; rfl)
        obtain ⟨_, _, _, _, hdo, _⟩ := hd'
        rw [(modOp_same ..).1] at hdo
        exact hdo
      refine ⟨F, true, x.val (s.H.length + j), hdo, by unfold guardIs; rw [g2], fun h => absurd h (by simp), fun listed hl hdn hli hed => ⟨fun _ => ?_, fun h => absurd h (by simp)⟩, fun t ht => ⟨hrd t ht, .inl ⟨rfl, fun j' o' hj' hd' => ?_⟩⟩, fun d' y hd' hy => ?_⟩
      · -- a row is made
        have hki : x.k < listed.size := (Array.getElem?_eq_some_iff.1 hli).1
        have hefL : ∀ e ∈ ef, isL listed e = false := fun e he => by
          cases hb : isL listed e with
          | false => rfl
          | true =>
            have := anc_ok (hdown hdn) ((efFe e he).2 x (List.mem_of_getElem? hj)) (isL_iff.1 hb)
            rw [hli] at this; simp at this
        have hefL' : ∀ e ∈ ef, isL (listed.setIfInBounds x.k true) e = false := fun e he => by
          rw [isL_set hki, hefL e he]
          have : x.k ≠ e := fun h => by
            have := (efFe e he).1
            rw [← h, feAt (List.mem_of_getElem? hj)] at this
            simp at this
          cases hb : Nat.beq x.k e with
          | false => rfl
          | true => exact absurd (Nat.eq_of_beq_eq_true hb) this
        have b1 := BU_pre hH0 hefL
        have b2 := BU_pre hH0 hefL'
        rw [holes_set hndk hj hki] at b2
        have hjl : j < fe.length := (List.getElem?_eq_some_iff.1 hj).1
        have hset : s.H ++ (holesL fe listed).set j x.row = (s.H ++ holesL fe listed).set (s.H.length + j) x.row := by
          rw [List.set_append_right _ _ (by omega), Nat.add_sub_cancel_left]
        rw [hset] at b2
        intro ro w I ι a next Q hs hG hx hn
        have hmL := hG.1
        rw [b1] at hs hmL
        have hdead : (s.H ++ holesL fe listed)[s.H.length + j]? = some .dead := by
          rw [List.getElem?_append_right (by omega), Nat.add_sub_cancel_left]
          unfold holesL
          rw [List.getElem?_map, hj]
          have : isL listed x.k = false := by
            cases hb : isL listed x.k with
            | false => rfl
            | true => have := isL_iff.1 hb; rw [hli] at this; simp at this
          simp [this]
        have hno : ι (s.H.length + j) = none := hG.2 j x hj (by
          cases hb : isL listed x.k with
          | false => rfl
          | true => have := isL_iff.1 hb; rw [hli] at this; simp at this)
        refine does_of (u := x.val 0) (H' := [x.row]) hT (aop_Q g6) (simh_nil hs) (fun y hy => ?_) ?_
        · have := g3 y hy
          have h1 := hx y hy
          cases he : evalA F y with
          | p z => rw [he] at h1; exact .p (p_inv h1)
          | _ => rw [he] at this; simp [isPA] at this
        · rintro v w' r H' I' ι1 ⟨rfl, rfl⟩ hr hs' hx'
          obtain ⟨f1, f2⟩ := fill hs hdead hno hs' hx'.ext
          refine hn v w' I' _ ?_ (by rw [b2]; exact f1) ?_ (by rw [b1, b2]; exact f2) ?_ ?_
          · have hr : ARep w' I' ι1 (.msl 0 x.sz 0 x.len) v := hr
            generalize hz : x.len = z at hr
            show ARep w' I' _ (.msl (s.H.length + j) x.sz 0 x.len) v
            rw [hz]
            cases hr with
            | msl b sz off len B c h hc hs2 => exact .msl _ _ _ _ B c (by simpa using h) hc hs2
            | msl0 b sz off A => exact .msl0 _ _ _ A
          · refine ⟨by rw [b2, List.length_set]; exact hmL, fun j' x' hj' hu => ?_⟩
            rw [isL_set hki, Bool.or_eq_false_iff] at hu
            have hne : j' ≠ j := fun h => by subst h; rw [hj] at hj'; obtain rfl := Option.some.inj hj'; simp at hu
            show (if s.H.length + j' = s.H.length + j then _ else _) = none
            rw [if_neg (by omega)]
            exact hG.2 j' x' hj' hu.2
          · intro b B hb
            show (if b = s.H.length + j then _ else _) = some B
            rw [if_neg (fun h => by rw [h, hno] at hb; simp at hb)]; exact hb
          · intro b hb
            show (if b = s.H.length + j then _ else _) = _
            rw [if_neg (by omega)]
      · have h1 := List.all_eq_true.1 hchk t ht
        have h2 := List.all_eq_true.1 h1 _ (memZ hj')
        simp only [hd', Bool.or_eq_true] at h2
        rcases h2 with h2 | h2
        · simp at h2
        · obtain ⟨e, he, hb⟩ := List.any_eq_true.1 h2
          rw [Bool.and_eq_true] at hb
          exact ⟨e, by simpa using he, hb.1, by simpa using hb.2⟩
      · rw [g4] at hd'
        obtain rfl := Option.some.inj hd'
        rw [g5] at hy
        exact (Option.some.inj hy).symm
    | false =>
      rw [hmk] at hchk
      have hsame : modOp (fe.map Mk.k) s.fr.n i o = o := by unfold modOp; rw [mkIdx_none hmk]
      have hd' := DS.facts hssa' (F0 := frU s.fr fe s.H.length) ops'.toList 0 0 (fun j o h => by rw [Nat.zero_add, ← Array.getElem?_toList]; exact h) (fun _ _ => rfl) k4 i o (by rw [Array.getElem?_toList, hget, ho, Option.map_some, hsame])
      rw [Nat.zero_add] at hd'
      obtain ⟨fr, c, u, hn1, hdo, hg, hu, hfx, hrds, hput⟩ := hd'
      have hguard : guardIs ops fr o.guard c := by
        unfold guardIs at hg ⊢
        split at hg
        · exact hg
        · obtain ⟨d, g1, g2⟩ := hg
          refine ⟨d, ?_, g2⟩
          rename_i i' want _
          rw [hget] at g1
          cases h1 : ops[i']? with
          | none => rw [h1] at g1; simp at g1
          | some o1 => rw [h1] at g1; simpa [(modOp_same (fe.map Mk.k) s.fr.n i' o1).1] using g1
      have hreads : readsOf ops' o = readsOf ops o := by
        unfold readsOf
        split
        · rename_i i' want _
          rw [hget]
          cases h1 : ops[i']? with
          | none => rfl
          | some o1 => simp [(modOp_same (fe.map Mk.k) s.fr.n i' o1).1]
        · rfl
      have writer : ∀ {j' : Nat} {o' : Oper} {t : Nat}, ops[j']? = some o' → o'.dst = some t → ∃ o2, ops'[j']? = some o2 ∧ o2.dst = some t ∧ o2.after = o'.after := fun {j' o' t} hj' hd' =>
        ⟨_, by rw [hget, hj']; rfl, by rw [(modOp_same ..).1]; exact hd', (modOp_same ..).2.1⟩
      refine ⟨fr, c, u, hdo, hguard, hu, fun listed hl hdn hli hed => ?_, fun t ht => ⟨hrd t ht, ?_⟩, hput⟩
      · have hki : i < listed.size := (Array.getElem?_eq_some_iff.1 hli).1
        have hdn' := hdown hdn
        have hdn2 : DownS ops' (fun j => listed[j]? = some true ∨ j = i) := fun j oj hj hlj e he hb => by
          rcases hlj with hlj | rfl
          · exact .inl (hdn' j oj hj hlj e he hb)
          · rw [hget, ho, Option.map_some, hsame] at hj; obtain rfl := Option.some.inj hj
            exact .inl (hed e he hb)
        have hnl : isL listed i = false := by
          cases hb : isL listed i with
          | false => rfl
          | true => have := isL_iff.1 hb; rw [hli] at this; simp at this
        have hanc : ∀ e, ((anc ops').getD i 0).testBit e = true → e ≠ i → isL listed e = true := fun e hb hne => by
          rcases anc_ok hdn2 hb (.inr rfl) with h | h
          · exact isL_iff.2 h
          · exact absurd h hne
        have hdesc : ∀ e, ((anc ops').getD e 0).testBit i = true → ¬ isL listed e = true := fun e hb hl => by
          have := anc_ok hdn' hb (isL_iff.1 hl)
          rw [hli] at this; simp at this
        obtain ⟨c1, c2⟩ := cnt_spec (an := anc ops') (listed := listed) hch fun a b hb hl => isL_iff.2 (anc_ok hdn' hb (isL_iff.1 hl))
        have hfeK : ∀ x ∈ fe, Nat.beq i x.k = false := fun x hx => by
          cases hb : Nat.beq i x.k with
          | false => rfl
          | true => have := Nat.eq_of_beq_eq_true hb; rw [this, feAt hx] at hmk; simp at hmk
        have hallE : (fe.all fun x => isL (listed.setIfInBounds i true) x.k) = fe.all fun x => isL listed x.k := by
          rw [Bool.eq_iff_iff, List.all_eq_true, List.all_eq_true]
          constructor <;> intro h x hx <;> have := h x hx <;> rw [isL_set hki, hfeK x hx, Bool.false_or] at * <;> exact this
        have hholE : holesL fe (listed.setIfInBounds i true) = holesL fe listed := by
          unfold holesL
          refine List.map_congr_left fun x hx => ?_
          rw [isL_set hki, hfeK x hx, Bool.false_or]
        -- all rows are there where it is in need of them
        have full : (∀ x ∈ fe, ((anc ops').getD i 0).testBit x.k = true) → (fe.all fun x => isL listed x.k) = true := fun hx => by
          rw [List.all_eq_true]
          intro x hxm
          refine hanc _ (hx x hxm) fun h => ?_
          have := hfeK x hxm
          rw [h] at this; simp at this
        have gen : ∀ {H H' : List ABlk}, BU s.H fe ef Hs listed = H → BU s.H fe ef Hs (listed.setIfInBounds i true) = H' → Does P o (evalA fr) H u H' → DoesG P o (evalA fr) m (BU s.H fe ef Hs listed) (GU m s.H.length fe (BU s.H fe ef Hs) listed) (BU s.H fe ef Hs (listed.setIfInBounds i true)) (GU m s.H.length fe (BU s.H fe ef Hs) (listed.setIfInBounds i true)) u := by
          intro H H' e1 e2 hdoes ro w I ι a next Q hs hG hx hn
          rw [e1] at hs
          refine hdoes hs hx ?_
          rintro v w' r H2 I' ι' ⟨rfl, rfl⟩ hr hs' hx'
          have hHl : s.H.length + fe.length ≤ H.length ∨ (∀ (j : Nat) (x : Mk), fe[j]? = some x → isL listed x.k = true) := by
            rw [← e1]
            unfold BU
            split
            · rename_i hall
              exact .inr fun j x hj => List.all_eq_true.1 hall x (List.mem_of_getElem? hj)
            · exact .inl (by simp [holesL])
          have hmL := hG.1
          rw [e1] at hmL
          refine hn v w' I' ι' hr (by rw [e2]; exact hs') ⟨by rw [e2]; exact Nat.le_trans hmL hx'.len, fun j x hj hu => ?_⟩ (by rw [e1, e2]; exact hx'.ext) (fun b B hb => ?_) (fun b hb => hx'.keep b (by omega))
          · have hu' : isL listed x.k = false := by rw [isL_set hki, Bool.or_eq_false_iff] at hu; exact hu.2
            rcases hHl with hHl | hHl
            · have hjl := (List.getElem?_eq_some_iff.1 hj).1
              rw [hx'.keep _ (by omega)]; exact hG.2 j x hj hu'
            · rw [hHl j x hj] at hu'; simp at hu'
          · rw [hx'.keep b]; exact hb
            rcases Nat.lt_or_ge b H.length with h | h
            · exact h
            · rw [hs.dom b h] at hb; exact absurd hb (by simp)
        have stay : (i ∉ ef) → BU s.H fe ef Hs (listed.setIfInBounds i true) = BU s.H fe ef Hs listed := fun hni => by
          have hc : cntL ef (listed.setIfInBounds i true) = cntL ef listed := cnt_of (fun q e he => by
            rw [isL_set hki]
            have : Nat.beq i e = false := by
              cases hb : Nat.beq i e with
              | false => rfl
              | true => exact absurd (Nat.eq_of_beq_eq_true hb ▸ List.mem_of_getElem? he) hni
            rw [this, Bool.false_or]
            exact c2 q e he) c1
          unfold BU
          rw [hallE, hholE, hc]
        have fin : ∀ {H H' : List ABlk}, BU s.H fe ef Hs listed = H → BU s.H fe ef Hs (listed.setIfInBounds i true) = H' → (c = true → Does P o (evalA fr) H u H') → (c = false → H' = H) →
            (c = true → DoesG P o (evalA fr) m (BU s.H fe ef Hs listed) (GU m s.H.length fe (BU s.H fe ef Hs) listed) (BU s.H fe ef Hs (listed.setIfInBounds i true)) (GU m s.H.length fe (BU s.H fe ef Hs) (listed.setIfInBounds i true)) u) ∧
            (c = false → BU s.H fe ef Hs (listed.setIfInBounds i true) = BU s.H fe ef Hs listed ∧ ∀ ι, GU m s.H.length fe (BU s.H fe ef Hs) listed ι → GU m s.H.length fe (BU s.H fe ef Hs) (listed.setIfInBounds i true) ι) := fun {H H'} e1 e2 h1 h2 =>
          ⟨fun hc => gen e1 e2 (h1 hc), fun hc => by
            have h3 := h2 hc
            have hb : BU s.H fe ef Hs (listed.setIfInBounds i true) = BU s.H fe ef Hs listed := by rw [e1, e2, h3]
            refine ⟨hb, fun ι hG => ⟨by rw [hb]; exact hG.1, fun j x hj hu => hG.2 j x hj ?_⟩⟩
            rw [isL_set hki, Bool.or_eq_false_iff] at hu; exact hu.2⟩
        rcases hfx with ⟨p, hp, hd1, hd2⟩ | ⟨hni, hd1⟩
        · -- an effect of the chain
          have hie : i ∈ ef := List.mem_of_getElem? hp
          have hf := full (efFe i hie).2
          have hcp : cntL ef listed = p := by
            have h1 : ¬ p < cntL ef listed := fun h => by rw [(c2 p i hp).2 h] at hnl; simp at hnl
            have h2 : ¬ cntL ef listed < p := fun h => by
              have hlt2 := (List.getElem?_eq_some_iff.1 hp).1
              have hq : p - 1 < ef.length := by omega
              have h4 := List.getElem?_eq_getElem hq
              have h5 := chain_of hch (p - 1) _ i h4 (by rw [show p - 1 + 1 = p by omega]; exact hp)
              have h6 : ef[p - 1] ≠ i := fun h => by
                obtain ⟨a1, a2⟩ := List.getElem?_eq_some_iff.1 hp
                have := (List.getElem_inj hnd).1 (h.trans a2.symm)
                omega
              have := (c2 (p - 1) _ h4).1 (hanc _ h5 h6)
              omega
            omega
          have hcp' : cntL ef (listed.setIfInBounds i true) = p + 1 := cnt_of (fun q e he => by
            rw [isL_set hki, Bool.or_eq_true, c2 q e he, hcp]
            constructor
            · rintro (h | h)
              · have he2 := Nat.eq_of_beq_eq_true h
                subst he2
                obtain ⟨a1, a2⟩ := List.getElem?_eq_some_iff.1 hp
                obtain ⟨b1, b2⟩ := List.getElem?_eq_some_iff.1 he
                have := (List.getElem_inj hnd).1 (a2.trans b2.symm)
                omega
              · omega
            · intro h
              by_cases hq : q = p
              · subst hq; rw [hp] at he; obtain rfl := Option.some.inj he; exact .inl (by simp)
              · exact .inr (by omega)) (List.getElem?_eq_some_iff.1 hp).1
          refine fin (H := Hs.getD p []) (H' := Hs.getD (p + 1) []) ?_ ?_ hd1 hd2
          · unfold BU; rw [hf]; show Hs.getD (cntL ef listed) [] = _; rw [hcp]
          · unfold BU; rw [hallE, hf]; show Hs.getD (cntL ef _) [] = _; rw [hcp']
        · have hst := stay hni
          cases hfe : fe.all fun x => isL listed x.k with
          | true =>
            refine fin (H := Hs.getD (cntL ef listed) []) (H' := Hs.getD (cntL ef listed) []) ?_ ?_ (fun hc => (hd1 hc).1 _ c1 (win_of fun q e he => ⟨fun hb => ?_, fun hb => ?_⟩)) (fun _ => rfl)
            · unfold BU; rw [hfe]
            · rw [hst]; unfold BU; rw [hfe]
            · rw [Nat.zero_add]
              exact (c2 q e he).1 (hanc e hb fun h => hni (h ▸ List.mem_of_getElem? he))
            · rw [Nat.zero_add]
              exact Nat.le_of_not_lt fun h => hdesc e hb ((c2 q e he).2 h)
          | false =>
            have hhf : hfree o.op = true := by
              rw [Bool.or_eq_true, Bool.or_eq_true] at hchk
              rcases hchk with (h | h) | h
              · exact h
              · exact absurd (memB_iff.1 h) hni
              · rw [full (fun x hx => List.all_eq_true.1 h x.k (List.mem_map_of_mem hx))] at hfe; simp at hfe
            exact fin rfl hst (fun hc => (hd1 hc).2 hhf _) (fun _ => rfl)
      · rw [hreads] at hrds
        rcases hrds t ht with ⟨e1, e2⟩ | ⟨e1, e2⟩
        · refine .inl ⟨e1, fun j' o' hj' hd' => ?_⟩
          obtain ⟨o2, w1, w2, _⟩ := writer hj' hd'
          exact e2 j' o2 w1 w2
        · refine .inr ⟨by rw [e1]; exact hfrU t (by rw [← hlen]; exact hrd t ht), fun j' o' hj' hd' => ?_⟩
          obtain ⟨o2, w1, w2, w3⟩ := writer hj' hd'
          have := e2 j' o2 w1 w2
          rw [w3] at this; exact this
  refine wpIn_region_any hm' (draw_gen (N := N) (m := m) (B := BU s.H fe ef Hs) (G := GU m s.H.length fe (BU s.H fe ef Hs)) (Fz := s.fr) (F := F) (w0 := w) (I0 := I) (ι0 := ι) (H0 := s.H) hssa hfact ?_ _ _ _ _ (by simp) (by simp [List.count_replicate]) ?_)
  · intro listed hlsz hl a' w' I' ι' hf' hs' hN' hx' hk' hGl
    have hB : BU s.H fe ef Hs listed = Hs.getD ef.length [] := by
      have h1 : (fe.all fun x => isL listed x.k) = true := by
        rw [List.all_eq_true]
        intro x hx
        obtain ⟨j, hj⟩ := List.getElem?_of_mem hx
        obtain ⟨o, _, ho, _⟩ := k6 j x hj
        exact isL_iff.2 (hl _ (Array.getElem?_eq_some_iff.1 ho).1)
      have h2 : cntL ef listed = ef.length := cnt_of (fun q e he => ⟨fun _ => (List.getElem?_eq_some_iff.1 he).1, fun _ => isL_iff.2 (hl e (by
        have := List.all_eq_true.1 hlt e (List.mem_of_getElem? he)
        have : e < ops'.size := by simpa [Nat.blt_eq] using this
        omega))⟩) (Nat.le_refl _)
      unfold BU; rw [h1]; show Hs.getD (cntL ef listed) [] = _; rw [h2]
    have hmL : m ≤ (Hs.getD ef.length []).length := by rw [← hB]; exact hGl.1
    rw [hB] at hs' hN' hx'
    refine ⟨⟨cutF F, Hs.getD ef.length []⟩, I', ι', k5, ⟨⟨hf'.1, fun t u hu => ?_⟩, hs', hN'.1, hN'.2.1, hN'.2.2⟩, hx', hk', hmL⟩
    rw [cut_look] at hu
    cases hb : Nat.blt t F.n with
    | false => rw [hb] at hu; simp at hu
    | true => rw [hb] at hu; exact hf'.2 t u (by simpa [Nat.blt_eq] using hb) hu
  · have hnone : ∀ k, isL (Array.replicate ops.size false) k = false := fun k => by
      unfold isL; rw [Array.getD_eq_getD_getElem?, Array.getElem?_replicate]; split <;> rfl
    have hol : holesL fe (Array.replicate ops.size false) = List.replicate fe.length .dead := by
      rw [List.eq_replicate_iff]
      refine ⟨by simp [holesL], fun b hb => ?_⟩
      obtain ⟨x, _, rfl⟩ := List.mem_map.1 hb
      rw [hnone]
    have hB : BU s.H fe ef Hs (Array.replicate ops.size false) = s.H ++ List.replicate fe.length .dead := by
      rw [BU_pre hH0 (fun e _ => hnone e), hol]
    have hsh : Shape w w.drew := fun B cs t fr h => ⟨cs, h, rfl⟩
    have mv : ∀ {x : AV} {v : Value}, ARep w I ι x v → ARep w.drew I ι x v := fun h => h.move (w := w) (w' := w.drew) (fun _ _ => rfl) (fun _ h => h) (fun _ _ h => h) hsh
    have old : ∀ b, live (s.H ++ List.replicate fe.length .dead) b → live s.H b := fun b ⟨k, hk, hl⟩ => by
      rcases Nat.lt_or_ge b s.H.length with hb | hb
      · rw [List.getElem?_append_left hb] at hk; exact ⟨k, hk, hl⟩
      · rw [List.getElem?_append_right hb, List.getElem?_replicate] at hk
        split at hk
        · obtain rfl := Option.some.inj hk; simp [ABlk.live] at hl
        · simp at hk
    have hex : Ext w I ι s.H w.drew I ι (s.H ++ List.replicate fe.length .dead) := ⟨rfl, rfl, rfl, Nat.le_refl _, hsh, fun _ h => h, fun _ _ _ => rfl, fun _ h => .inl h, fun b B hb h => .inr ⟨b, old b hb, h⟩⟩
    unfold JG
    rw [hB]
    refine ⟨I, ι, by rw [hs.fr.1, hlen], ⟨hs.hN, fun d hd => (hs.d d hd).move hex, hs.nd⟩, sim_drew (simh_holes hs.H _), ⟨by rw [hB]; simp; omega, fun j x hj _ => hs.H.dom _ (by omega)⟩, ⟨hex, fun _ _ => rfl⟩, fun t u ht hu hall => ?_, fun t u _ hu _ => mv (hs.fr.2 t u hu), fun j o _ hlj => ?_⟩
    · have hnd2 : ∀ o ∈ ops.toList, o.dst ≠ some t := fun o ho hd => by
        obtain ⟨j, hj⟩ := List.getElem?_of_mem ho
        rw [Array.getElem?_toList] at hj
        have := hall j o hj hd
        rw [Array.getElem?_replicate] at this
        split at this <;> simp at this
      rw [hoth t (by rw [← hlen]; exact ht) hnd2, hfrU t (by rw [← hlen]; exact ht)] at hu
      exact mv (hs.fr.2 t u hu)
    · have hlj : (Array.replicate ops.size false)[j]? = some true := hlj
      rw [Array.getElem?_replicate] at hlj
      split at hlj <;> simp at hlj
end
end Go.Proofs.Ytolefphdldmlkaa.AL

/- The document's device: a new one. -/
namespace Go.Proofs.Ytolefphdldmlkaa.AL
open Go Go.Proofs

theorem ref_New_no (n : Int) (h : n < 1 ∨ n > 4096) : AF Try.prog f_ref06_New [i64 n] [] (Pure (.tup [.p (.raw (.pointer none)), i64 1]) []) := by
  refine af_body hT F_ref06_New rfl rfl N_ref06_New rfl ?_
  refine aw_seq (aw_region hT ?_)
  refine aw_seq (aw_seq (aw_region hT ?_))
  refine boolI (fun h1 => ?_) (fun h1 => ?_)
  · refine aw_cond ?_
    refine aw_seq (aw_region hT ?_)
    refine aw_ret ?_
    exact retPick [] ⟨rfl, rfl⟩ rfl
  · refine aw_cond (boolI (fun h2 => ?_) (fun h2 => ?_))
    · refine aw_seq (aw_region hT ?_)
      refine aw_ret ?_
      exact retPick [] ⟨rfl, rfl⟩ rfl
    · have := of_decide_eq_false h1
      have h2 : decide (n > 4096) = false := h2
      have := of_decide_eq_false h2
      omega

abbrev newRC (n i : Nat) : ABlk := .cells t_ref06_Disk [.msl 1 1 0 i, .msl 2 1 0 n, .msl 3 2 0 0, .msl 4 1 0 n, .msl 5 1 0 n, bl false, bl false, i64 0, i64 0]
abbrev newRH (n i : Nat) (S : List (List PV)) : List ABlk := [newRC n i, .row 37 1 S, .row 4 1 (List.replicate n [.raw (.bool false)]), .row t_ref06_Wait 2 [], .row 3 1 (List.replicate n [.raw (.int .i64 0)]), .row 60 1 (List.replicate n [iP []])]

set_option maxRecDepth 8000 in
theorem ref_New (n : Nat) (h1 : 1 ≤ n) (h2 : n ≤ 4096) : AF Try.prog f_ref06_New [i64 n] [] (Pure (.tup [.ref 0 0, i64 0]) (refH (Dev.new n))) := by
  refine af_body hT F_ref06_New rfl rfl N_ref06_New rfl ?_
  refine aw_seq (aw_region hT ?_)
  refine aw_seq (aw_seq (aw_region hT ?_))
  refine boolI (fun h1 => ?_) (fun h1 => ?_)
  · have := of_decide_eq_true h1
    omega
  refine aw_cond (boolI (fun h2 => ?_) (fun h2 => ?_))
  · have h2 : decide ((n : Int) > 4096) = true := h2
    have := of_decide_eq_true h2
    omega
  refine aw_skip ?_
  refine aw_cut ⟨⟨36, [(0, i64 n), (4, .ref 0 0)]⟩, newRH n 0 []⟩ True ?_ (fun _ => ?_)
  · refine aw_drawU 36 [1, 3, 5] [⟨1, 4, 1, n, List.replicate n [.raw (.bool false)]⟩, ⟨3, 3, 1, n, List.replicate n [.raw (.int .i64 0)]⟩, ⟨5, 60, 1, n, List.replicate n [.raw (.slice none 0 0)]⟩] [7] [] hT follows_mixed rfl rfl rfl (by rfl) (Nat.le_refl _) ?_
    refine ⟨rfl, ⟨⟨rfl, by omega, (show ((n : Nat) : Int) * 1 ≤ 140737488355328 by omega), by omega⟩, rfl, rfl⟩, ?_⟩
    refine ⟨rfl, ⟨⟨rfl, by omega, (show ((n : Nat) : Int) * 8 ≤ 140737488355328 by omega), by omega⟩, rfl, rfl⟩, ?_⟩
    refine ⟨rfl, ⟨⟨rfl, by omega, (show ((n : Nat) : Int) * 24 ≤ 140737488355328 by omega), by omega⟩, rfl, rfl⟩, ?_⟩
    refine ⟨?_, trivial⟩
    refine Wk.trans (wk_row 2 (List.replicate n [iP []]) rfl (by simp) ?_) (Wk.trans (wk_phantom 37 1) (Wk.trans (wk_phantom t_ref06_Wait 2) (Wk.trans (wk_cells 3 [.msl 4 1 0 0, .msl 0 1 0 n, .msl 5 2 0 0, .msl 1 1 0 n, .msl 2 1 0 n, bl false, bl false, i64 0, i64 0] rfl ⟨.inr (.inr (.inl ⟨4, 1, 0, rfl, rfl⟩)), .inl rfl, .inr (.inr (.inl ⟨5, 2, 0, rfl, rfl⟩)), .inl rfl, .inl rfl, .inl rfl, .inl rfl, .inl rfl, .inl rfl, trivial⟩) (wk_pick [3, 4, 0, 5, 1, 2] [0, 4] rfl))))
    intro j e2 hj
    have hjn : j < n := by have := (List.getElem?_eq_some_iff.1 hj).1; simpa using this
    rw [List.getElem?_replicate, if_pos hjn] at hj
    obtain rfl := Option.some.inj hj
    refine ⟨[.raw (.slice none 0 0)], ?_, rfl, ?_⟩
    · show (List.replicate n _)[j]? = _
      rw [List.getElem?_replicate, if_pos hjn]
    · intro i u2 hu
      match i, hu with
      | 0, hu => exact ⟨_, rfl, .inr ⟨1, rfl, (Option.some.inj hu).symm⟩⟩
  refine aw_seq (aw_seq (aw_region hT ?_))
  refine aw_block ?_
  refine aw_loopW (fun r s => ∃ (i : Nat) (j : Int) (S : List (List PV)), r + i = n ∧ j = i ∧ S = List.replicate i [bP zeros] ∧ s = ⟨⟨36, [(0, i64 n), (4, .ref 0 0), (5, i64 j)]⟩, newRH n S.length S⟩) n ⟨⟨36, _⟩, [_, _, _, _, _, _]⟩ (wk_pick [0, 1, 2, 3, 4, 5] [0, 4, 5] rfl) ⟨0, _, _, rfl, rfl, rfl, rfl⟩ ?_
  rintro r s ⟨i, j, S, hr, rfl, hS, rfl⟩
  have hSl : S.length = i := by rw [hS, List.length_replicate]
  refine aw_seq (aw_seq (aw_region hT ?_))
  refine aw_cond (boolI (fun h => ?_) (fun h => ?_))
  · refine aw_skip ?_
    have hi : i < n := by
      have := of_decide_eq_true (show decide ((i : Int) < (n : Int)) = true from h)
      omega
    refine aw_seq (aw_block ?_)
    refine aw_draw [7, 10] [5, 6] hT follows_mixed (by rfl) ?_
    refine ⟨⟨rfl, by omega, by decide, by omega⟩, ?_⟩
    refine ⟨⟨rfl, List.length_replicate.symm⟩, ?_⟩
    refine ⟨⟨rfl, rfl⟩, ?_⟩
    refine ⟨rfl, ⟨?_, ?_⟩, ?_⟩
    · show (S.length + 1) * 24 ≤ 140737488355328
      omega
    · show S.length + 1 ≤ 140737488355328
      omega
    refine aw_region hT ?_
    refine ⟨n - (i + 1), by omega, _, wk_pick [0, 6, 2, 3, 4, 5] [0, 4, 5] rfl, i + 1, IntKind.i64.wrap ((i : Int) + 1), S ++ [[bP zeros]], by omega, ?_, ?_, ?_⟩
    · rw [wrap64 _ (by omega) (by omega)]; rfl
    · rw [hS, List.replicate_succ']
    · refine congrArg (St.mk _) ?_
      rw [show bP zeros = PV.sl 1 (List.replicate 256 [PV.raw (.int .u8 0)]) from congrArg (PV.sl 1) bx_zeros]
      rfl
  · refine aw_exit ?_
    refine aw_seq (aw_region hT ?_)
    refine aw_ret ?_
    have hi : i = n := by
      have := of_decide_eq_false (show decide ((i : Int) < (n : Int)) = false from h)
      omega
    refine retPick [0, 1, 2, 3, 4, 5] ⟨rfl, ?_⟩ rfl
    subst hi
    rw [hSl, hS]
    unfold refH refC Dev.new sx lx dx mx wx
    rw [List.length_replicate, List.map_replicate, List.map_replicate, List.map_replicate, List.map_replicate]
    rfl
end Go.Proofs.Ytolefphdldmlkaa.AL

/- The law of layer 06: a call of the document's device. -/
namespace Go.Proofs.Ytolefphdldmlkaa.AL
open Go Go.Proofs

def Dev.did (D : Dev) (x : Op06) : Int × Dev :=
  match x.kind == 0 with
  | true => D.rwrite x.at_ x.sec
  | false => match x.kind == 1 with
    | true => D.rflush
    | false => match x.kind == 2 with
      | true => D.fault x.f
      | false => match x.kind == 3 with
        | true => (0, D.arm x.at_)
        | false => match x.kind == 4 with
          | true => (0, D.crashed x.keep)
          | false => (0, D)
theorem sec_len (x : Op06) : x.sec.length ≤ 256 := by
  unfold Op06.sec
  split
  · rw [List.length_drop, sect_len]; omega
  · rw [sect_len]; omega

theorem law06_did (D : Dev) (x : Op06) (b : Nat) (hD : D.Ok b) (hb : b ≤ 1000000) : AFm Try.prog 1 f_law06_did [.ref 0 0, x.av] (refH D) (Pure (i64 (D.did x).1) (refH (D.did x).2)) := by
  have big := hD.big hb
  refine af_bodyM 1 hT F_law06_did rfl rfl N_law06_did rfl rfl ?_
  refine aw_seq (aw_region hT ?_)
  refine aw_wk (wk_boxL 6 x.pv rfl rfl) ?_
  refine aw_seq (aw_region hT ?_)
  refine callP (af_at (law06_Sector x.b) _ rfl rfl) ?_
  refine aw_cut ⟨⟨51, [(0, .ref 0 0), (3, .p (.box x.pv)), (5, bA x.sec)]⟩, refH D⟩ True (aw_seq (aw_region hT ?_)) (fun _ => ?_)
  · refine aw_cond (boolI (fun h => ?_) (fun h => ?_))
    · have h : x.short = true := h
      refine aw_region hT ?_
      refine ⟨⟨by omega, by rw [bx_len, sect_len]; decide, Int.le_refl _⟩, ?_⟩
      have e : bx x.sec = ((bx (sect x.b)).take ((bx (sect x.b)).length : Int).toNat).drop (1 : Int).toNat := by
        unfold Op06.sec; rw [h, Int.toNat_natCast, List.take_length]
        show bx ((sect x.b).drop 1) = (bx (sect x.b)).drop 1
        rw [bx, bx, List.map_drop]
      show Wk _ _ ⟨⟨51, [(0, .ref 0 0), (3, .p (.box x.pv)), (5, .p (.sl 1 (bx x.sec)))]⟩, refH D⟩ ∧ True
      rw [e]
      exact ⟨wk_pick [0, 1, 2, 3, 4, 5] [0, 3, 5] rfl, trivial⟩
    · have h : x.short = false := h
      have e : x.sec = sect x.b := by unfold Op06.sec; rw [h]
      rw [e]
      exact aw_skip ⟨wk_pick [0, 1, 2, 3, 4, 5] [0, 3, 5] rfl, trivial⟩
  refine aw_cut2 (fun s1 => ∃ D2, D.did x = (0, D2) ∧ s1 = ⟨⟨51, []⟩, refH D2⟩) (aw_seq (aw_region hT ?_)) ?_
  · refine aw_block (aw_seq (aw_region hT ?_))
    refine aw_cond (boolI (fun h0 => ?_) (fun h0 => ?_))
    · have e : D.did x = D.rwrite x.at_ x.sec := by unfold Dev.did; rw [show (x.kind == 0) = true from h0]
      refine aw_seq (aw_region hT ?_)
      refine callP (af_in [0, 1, 2, 3, 4, 5] (ref_Write D x.at_ x.sec big.2.1 (by have := sec_len x; omega)) rfl rfl rfl) ?_
      refine aw_ret ?_
      rw [e]
      exact retPick [0, 6, 7, 8, 9, 10] ⟨rfl, rfl⟩ rfl
    refine aw_seq (aw_region hT ?_)
    refine aw_cond (boolI (fun h1 => ?_) (fun h1 => ?_))
    · have e : D.did x = D.rflush := by unfold Dev.did; rw [show (x.kind == 0) = false from h0, show (x.kind == 1) = true from h1]
      refine aw_seq (aw_region hT ?_)
      refine callP (af_in [0, 1, 2, 3, 4, 5] (ref_Flush D big.1 big.2.1) rfl rfl rfl) ?_
      refine aw_ret ?_
      rw [e]
      exact retPick [0, 6, 7, 8, 9, 10] ⟨rfl, rfl⟩ rfl
    refine aw_seq (aw_region hT ?_)
    refine aw_cond (boolI (fun h2 => ?_) (fun h2 => ?_))
    · have e : D.did x = D.fault x.f := by unfold Dev.did; rw [show (x.kind == 0) = false from h0, show (x.kind == 1) = false from h1, show (x.kind == 2) = true from h2]
      refine aw_seq (aw_region hT ?_)
      refine callP (af_in [0, 1, 2, 3, 4, 5] (ref_Fault D x.f b hD hb) rfl rfl rfl) ?_
      refine aw_ret ?_
      rw [e]
      exact retPick [0, 6, 7, 8, 9, 10] ⟨rfl, rfl⟩ rfl
    refine aw_seq (aw_region hT ?_)
    refine aw_cond (boolI (fun h3 => ?_) (fun h3 => ?_))
    · have e : D.did x = (0, D.arm x.at_) := by unfold Dev.did; rw [show (x.kind == 0) = false from h0, show (x.kind == 1) = false from h1, show (x.kind == 2) = false from h2, show (x.kind == 3) = true from h3]
      refine aw_seq (aw_region hT ?_)
      refine aw_region hT ?_
      exact ⟨_, wk_pick [0, 1, 2, 3, 4, 5] [] rfl, _, e, rfl⟩
    refine aw_seq (aw_region hT ?_)
    refine aw_cond (boolI (fun h4 => ?_) (fun h4 => ?_))
    · have e : D.did x = (0, D.crashed x.keep) := by unfold Dev.did; rw [show (x.kind == 0) = false from h0, show (x.kind == 1) = false from h1, show (x.kind == 2) = false from h2, show (x.kind == 3) = false from h3, show (x.kind == 4) = true from h4]
      refine aw_region hT ?_
      refine callP (af_in [0, 1, 2, 3, 4, 5] (ref_Crash D x.keep big.1 big.2.1) rfl rfl rfl) ?_
      exact ⟨_, wk_pick [0, 6, 7, 8, 9, 10] [] rfl, _, e, rfl⟩
    · have e : D.did x = (0, D) := by unfold Dev.did; rw [show (x.kind == 0) = false from h0, show (x.kind == 1) = false from h1, show (x.kind == 2) = false from h2, show (x.kind == 3) = false from h3, show (x.kind == 4) = false from h4]
      refine aw_skip ?_
      exact ⟨_, wk_pick [0, 1, 2, 3, 4, 5] [] rfl, _, e, rfl⟩
  · rintro _ ⟨D2, e, rfl⟩
    refine aw_seq (aw_region hT ?_)
    refine aw_ret ?_
    rw [e]
    exact retPick [0, 1, 2, 3, 4, 5] ⟨rfl, rfl⟩ rfl
end Go.Proofs.Ytolefphdldmlkaa.AL

/- The device and the document's: what both have in common; reads of all. -/
namespace Go.Proofs.Ytolefphdldmlkaa.AL
open Go Go.Proofs

/-- The document's device is as ours, but for how long it lives where that is not asked. -/
def Al (D R : Dev) : Prop := ∃ l, R = { D with left := l } ∧ (D.armed = true → D.dead = false → l = D.left)

theorem wl_put (D : Dev) (l : Int) (a : Int) (s : Bytes) : Dev.put { D with left := l } a s = { D.put a s with left := l } := by
  unfold Dev.put
  split
  · rename_i h; rw [show D.cells[a.toNat]? = none from h]
  · rename_i c h
    rw [show D.cells[a.toNat]? = some c from h]
    simp only
    split
    · rfl
    · split <;> rfl
theorem wl_read (D : Dev) (l : Int) (a : Int) : Dev.read { D with left := l } a = ((D.read a).1, { (D.read a).2 with left := l }) := by
  obtain ⟨c, w, ar, de, le, op⟩ := D
  cases de with
  | true => rfl
  | false =>
    have e : Dev.has ⟨c, w, ar, false, l, op⟩ a = Dev.has ⟨c, w, ar, false, le, op⟩ a := rfl
    unfold Dev.read
    simp only
    rw [e]
    cases Dev.has ⟨c, w, ar, false, le, op⟩ a <;> rfl
theorem wl_may (D : Dev) (l : Int) (f : Flt) : Dev.may { D with left := l } f = D.may f := rfl
theorem wl_hurt (D : Dev) (l : Int) (f : Flt) : Dev.hurt { D with left := l } f = { D.hurt f with left := l } := by
  unfold Dev.hurt
  repeat' split
  all_goals rfl
theorem hurt_flags (D : Dev) (f : Flt) : (D.hurt f).armed = D.armed ∧ (D.hurt f).dead = D.dead ∧ (D.hurt f).left = D.left := by
  unfold Dev.hurt
  repeat' split
  all_goals exact ⟨rfl, rfl, rfl⟩
theorem put_flags (D : Dev) (a : Int) (s : Bytes) : (D.put a s).armed = D.armed ∧ (D.put a s).dead = D.dead ∧ (D.put a s).left = D.left := by
  unfold Dev.put
  repeat' split
  all_goals exact ⟨rfl, rfl, rfl⟩
theorem read_flags (D : Dev) (a : Int) : (D.read a).2.armed = D.armed ∧ (D.read a).2.dead = D.dead ∧ (D.read a).2.left = D.left ∧ (D.read a).2.cells = D.cells := by
  unfold Dev.read
  repeat' split
  all_goals exact ⟨rfl, rfl, rfl, rfl⟩

theorem al_read {D R : Dev} (h : Al D R) (a : Int) : (R.read a).1 = (D.read a).1 ∧ Al (D.read a).2 (R.read a).2 := by
  obtain ⟨l, rfl, hl⟩ := h
  rw [wl_read]
  refine ⟨rfl, l, rfl, ?_⟩
  rw [(read_flags D a).1, (read_flags D a).2.1, (read_flags D a).2.2.1]; exact hl

/-- What lives, and what dies. -/
theorem al_lives {D R : Dev} (h : Al D R) (hd : D.dead = false) : D.lives.dead = R.dies.1 ∧ Al D.lives R.dies.2 := by
  obtain ⟨l, rfl, hl⟩ := h
  obtain ⟨c, w, ar, de, le, op⟩ := D
  replace hd : de = false := hd
  subst hd
  cases ar with
  | false => exact ⟨rfl, IntKind.i64.wrap (l - 1), rfl, fun h => by cases h⟩
  | true =>
    have e : l = le := hl rfl rfl
    subst e
    unfold Dev.dies Dev.lives
    simp only [Bool.true_and, Bool.false_or]
    cases l == 0 with
    | true => exact ⟨rfl, l, rfl, fun _ h => by cases h⟩
    | false => exact ⟨rfl, _, rfl, fun _ _ => rfl⟩

theorem al_write {D R : Dev} (h : Al D R) (a : Int) (s : Bytes) : (R.rwrite a s).1 = (D.write a s).1 ∧ Al (D.write a s).2 (R.rwrite a s).2 := by
  have hl := al_lives h
  have h0 := h
  obtain ⟨l, e, hll⟩ := h
  have ed : R.dead = D.dead := by rw [e]
  have eh : R.has a = D.has a := by rw [e]; rfl
  unfold Dev.write Dev.rwrite
  rw [ed, eh]
  cases hd : D.dead with
  | true => exact ⟨rfl, h0⟩
  | false =>
    cases D.has a with
    | false => exact ⟨rfl, h0⟩
    | true =>
      simp only
      cases ((s.length : Int) != 256) with
      | true => exact ⟨rfl, h0⟩
      | false =>
        obtain ⟨g1, g2⟩ := hl hd
        simp only
        rw [← g1]
        cases hdl : D.lives.dead with
        | true => exact ⟨rfl, g2⟩
        | false =>
          refine ⟨rfl, ?_⟩
          obtain ⟨l2, e2, k2⟩ := g2
          rw [e2]
          refine ⟨l2, wl_put D.lives.count l2 a s, ?_⟩
          rw [(put_flags ..).1, (put_flags ..).2.1, (put_flags ..).2.2]
          exact k2

theorem al_flush {D R : Dev} (h : Al D R) : R.rflush.1 = D.flush.1 ∧ Al D.flush.2 R.rflush.2 := by
  have hl := al_lives h
  have h0 := h
  obtain ⟨l, e, hll⟩ := h
  have ed : R.dead = D.dead := by rw [e]
  unfold Dev.flush Dev.rflush
  rw [ed]
  cases hd : D.dead with
  | true => exact ⟨rfl, h0⟩
  | false =>
    obtain ⟨g1, g2⟩ := hl hd
    simp only
    rw [← g1]
    cases hdl : D.lives.dead with
    | true => exact ⟨rfl, g2⟩
    | false =>
      refine ⟨rfl, ?_⟩
      obtain ⟨l2, e2, k2⟩ := g2
      rw [e2]
      exact ⟨l2, rfl, k2⟩

theorem al_fault {D R : Dev} (h : Al D R) (f : Flt) : (R.fault f).1 = (D.fault f).1 ∧ Al (D.fault f).2 (R.fault f).2 := by
  have h0 := h
  obtain ⟨l, rfl, hl⟩ := h
  unfold Dev.fault
  rw [wl_may, wl_hurt]
  cases D.may f == 0 with
  | false => exact ⟨rfl, h0⟩
  | true =>
    refine ⟨rfl, l, rfl, ?_⟩
    show (D.hurt f).armed = true → (D.hurt f).dead = false → l = (D.hurt f).left
    rw [(hurt_flags D f).1, (hurt_flags D f).2.1, (hurt_flags D f).2.2]; exact hl
theorem al_arm {D R : Dev} (h : Al D R) (n : Int) : Al (D.arm n) (R.arm n) := by
  obtain ⟨l, rfl, hl⟩ := h
  exact ⟨n, rfl, fun _ _ => rfl⟩
theorem al_crashed {D R : Dev} (h : Al D R) (keep : List Bool) : Al (D.crashed keep) (R.crashed keep) := by
  obtain ⟨l, rfl, hl⟩ := h
  exact ⟨l, rfl, fun h => absurd h (by simp [Dev.crashed])⟩
theorem al_does {D R : Dev} (h : Al D R) (x : Op06) : (R.did x).1 = (D.does x).1 ∧ Al (D.does x).2 (R.did x).2 := by
  unfold Dev.does Dev.did
  cases x.kind == 0 with
  | true => exact al_write h _ _
  | false => cases x.kind == 1 with
    | true => exact al_flush h
    | false => cases x.kind == 2 with
      | true => exact al_fault h _
      | false => cases x.kind == 3 with
        | true => exact ⟨rfl, al_arm h _⟩
        | false => cases x.kind == 4 with
          | true => exact ⟨rfl, al_crashed h _⟩
          | false => exact ⟨rfl, h⟩
theorem al_new (n : Nat) : Al (Dev.new n) (Dev.new n) := ⟨_, rfl, fun _ _ => rfl⟩
theorem Al.ok {D R : Dev} (h : Al D R) {b : Nat} (k : D.Ok b) : R.Ok b := by
  obtain ⟨l, rfl, hl⟩ := h
  exact ⟨k.at_, k.ws, k.cs, k.mt, k.ml, k.wl⟩

/-- All reads, from -1 on. -/
def Dev.scan (D : Dev) : Nat → Dev
  | 0 => D
  | k + 1 => ((D.scan k).read ((k : Int) - 1)).2
theorem scan_ok {D : Dev} {b : Nat} (h : D.Ok b) (k : Nat) : (D.scan k).Ok b := by
  induction k with
  | zero => exact h
  | succ k ih => exact ih.read _
theorem scan_len (D : Dev) (k : Nat) : (D.scan k).cells.length = D.cells.length := by
  induction k with
  | zero => rfl
  | succ k ih => rw [← ih]; exact congrArg List.length (read_flags _ _).2.2.2
theorem al_scan {D R : Dev} (h : Al D R) (k : Nat) : Al (D.scan k) (R.scan k) := by
  induction k with
  | zero => exact h
  | succ k ih => exact (al_read ih _).2

abbrev drH (D R : Dev) : List ABlk := [devC D 1 2, .row t_disk_cell 4 (cx D.cells), .row t_disk_write 2 (wx D.waits), refC R 4 5 6 7 8, .row 37 1 (sx R.cells), .row 4 1 (lx R.cells), .row t_ref06_Wait 2 (wx R.waits), .row 3 1 (dx R.cells), .row 60 1 (mx R.cells)]

theorem bne_self_int (z : Int) : (z != z) = false := by simp

set_option maxRecDepth 8000 in
theorem law06_same (D R : Dev) (b : Nat) (hD : D.Ok b) (hb : b ≤ 1000000) (hA : Al D R) (hn : D.cells.length ≤ 4096) : AFm Try.prog 9 f_law06_same [.ref 0 0, .ref 3 0] (drH D R) (Pure (bl true) (drH (D.scan (D.cells.length + 2)) (R.scan (D.cells.length + 2)))) := by
  refine af_bodyM 9 hT F_law06_same rfl rfl N_law06_same rfl rfl ?_
  refine aw_seq (aw_region hT ?_)
  have eC : R.cells = D.cells := by obtain ⟨l, rfl, _⟩ := hA; rfl
  have eD : R.dead = D.dead := by obtain ⟨l, rfl, _⟩ := hA; rfl
  refine aw_cut ⟨⟨66, [(0, .ref 0 0), (1, .ref 3 0)]⟩, drH D R⟩ True (aw_seq ?_) (fun _ => ?_)
  · refine aw_draw [] [] hT follows_mixed (by rfl) ?_
    refine ⟨_, af_in [0, 1, 2] (disk_Len D) rfl rfl rfl, ?_⟩
    refine boolI (fun h => ?_) (fun h => ?_)
    · have h : ((D.cells.length : Int) != (R.cells.length : Int)) = true := h
      rw [eC, bne_self_int] at h; cases h
    refine ⟨_, af_in [0, 1, 2] (disk_Dead D) rfl rfl rfl, ?_⟩
    refine aw_cond (boolI (fun h2 => ?_) (fun h2 => ?_))
    · have h2 : (D.dead != R.dead) = true := h2
      rw [eD, bne_self_eq_false] at h2; cases h2
    exact aw_skip ⟨wk_pick [0, 1, 2, 3, 4, 5, 6, 7, 8] [0, 1] rfl, trivial⟩
  refine aw_cut ⟨⟨66, [(0, .ref 0 0), (1, .ref 3 0)]⟩, drH (D.scan (D.cells.length + 2)) (R.scan (D.cells.length + 2))⟩ True (aw_seq (aw_region hT ?_)) (fun _ => ?_)
  · refine aw_block ?_
    refine aw_loopW (fun n s => ∃ (i : Nat) (j : Int) (E S : Dev), n + i = D.cells.length + 2 ∧ j = (i : Int) - 1 ∧ E = D.scan i ∧ S = R.scan i ∧ s = ⟨⟨66, [(0, .ref 0 0), (1, .ref 3 0), (5, i64 j)]⟩, drH E S⟩) (D.cells.length + 2) ⟨⟨66, _⟩, [_, _, _, _, _, _, _, _, _]⟩ (wk_pick [0, 1, 2, 3, 4, 5, 6, 7, 8] [0, 1, 5] rfl) ⟨0, -1, D, R, rfl, rfl, rfl, rfl, rfl⟩ ?_
    rintro n s ⟨i, j, E, S, hni, hj, hE, hS, rfl⟩
    have hEo : E.Ok b := by rw [hE]; exact scan_ok hD i
    have hAl : Al E S := by rw [hE, hS]; exact al_scan hA i
    have hSo := hAl.ok hEo
    have hlS : S.cells.length = D.cells.length := by rw [hS, scan_len, eC]
    have bigE := hEo.big hb
    have bigS := hSo.big hb
    refine aw_seq (aw_seq (aw_region hT ?_))
    refine aw_cond (boolI (fun h => ?_) (fun h => ?_))
    · have h : decide (j ≤ (S.cells.length : Int)) = true := h
      have h := of_decide_eq_true h
      rw [hlS] at h
      have rD := disk_Read E j bigE.2.1 bigE.2.2.1 bigE.2.2.2
      have rR := ref_Read S j bigS.2.1
      have al := al_read hAl j
      rw [al.1] at rR
      have eE : D.scan (i + 1) = (E.read j).2 := by rw [hE, hj]; rfl
      have eS : R.scan (i + 1) = (S.read j).2 := by rw [hS, hj]; rfl
      have xl := read_len hEo j
      generalize (E.read j).2 = E2 at rD eE
      generalize (S.read j).2 = S2 at rR eS
      generalize (E.read j).1 = x at rD rR xl
      obtain ⟨x1, x2⟩ := x
      refine aw_skip ?_
      refine aw_cut ⟨⟨66, [(0, .ref 0 0), (1, .ref 3 0), (5, i64 j)]⟩, drH E2 S2⟩ True (aw_block (aw_seq (aw_region hT ?_))) (fun _ => ?_)
      · refine callP (af_in [0, 1, 2] rD rfl rfl rfl) ?_
        refine aw_cut ⟨⟨66, [(0, .ref 0 0), (1, .ref 3 0), (5, i64 j), (6, bA x1), (7, i64 x2), (8, bA x1), (9, i64 x2)]⟩, drH E2 S2⟩ True (aw_region hT ?_) (fun _ => ?_)
        · refine callP (af_in [3, 4, 5, 6, 7, 8] rR rfl rfl rfl) ?_
          exact ⟨wk_pick [0, 1, 2, 3, 4, 5, 6, 7, 8] [0, 1, 5, 6, 7, 8, 9] rfl, trivial⟩
        have sx := ref04_Same x1 x1 (by have xl : x1.length ≤ 256 := xl; omega)
        rw [beq_self_eq_true] at sx
        refine aw_seq (aw_region hT ?_)
        refine callP (af_at sx _ rfl rfl) ?_
        refine aw_seq (aw_region hT ?_)
        refine aw_cond (boolI (fun h2 => ?_) (fun h2 => ?_))
        · have h2 : (x2 != x2) = true := h2
          rw [bne_self_int] at h2; cases h2
        refine aw_skip ?_
        exact ⟨wk_pick [0, 1, 2, 3, 4, 5, 6, 7, 8] [0, 1, 5] rfl, trivial⟩
      · refine aw_region hT ?_
        refine ⟨n - 1, by omega, _, wk_pick [0, 1, 2, 3, 4, 5, 6, 7, 8] [0, 1, 5] rfl, i + 1, IntKind.i64.wrap (j + 1), E2, S2, by omega, ?_, eE.symm, eS.symm, rfl⟩
        rw [wrap64 _ (by omega) (by omega)]; omega
    · have h : decide (j ≤ (S.cells.length : Int)) = false := h
      have h := of_decide_eq_false h
      rw [hlS] at h
      have hi : i = D.cells.length + 2 := by omega
      refine aw_exit ?_
      subst hi
      rw [← hE, ← hS]
      exact ⟨wk_pick [0, 1, 2, 3, 4, 5, 6, 7, 8] [0, 1] rfl, trivial⟩
  · have hAl := al_scan hA (D.cells.length + 2)
    have hop : (R.scan (D.cells.length + 2)).ops = (D.scan (D.cells.length + 2)).ops := by obtain ⟨l, e, _⟩ := hAl; rw [e]
    generalize D.scan (D.cells.length + 2) = E at hop
    generalize R.scan (D.cells.length + 2) = S at hop
    refine aw_seq ?_
    refine aw_draw [] [] hT follows_mixed (by rfl) ?_
    refine ⟨_, af_in [0, 1, 2] (disk_Ops E) rfl rfl rfl, ?_⟩
    refine aw_ret ?_
    refine retPick [0, 1, 2, 3, 4, 5, 6, 7, 8] ⟨?_, rfl⟩ rfl
    show AV.p (.raw (.bool (E.ops == S.ops))) = _
    rw [hop, beq_self_eq_true]
end Go.Proofs.Ytolefphdldmlkaa.AL

/- The law DiskDoes, walked. -/
namespace Go.Proofs.Ytolefphdldmlkaa.AL
open Go Go.Proofs

theorem write_len (D : Dev) (a : Int) (s : Bytes) : (D.write a s).2.cells.length = D.cells.length := by
  unfold Dev.write
  repeat' split
  all_goals first | rfl | exact (put_len _ _ _).1
theorem does_len (D : Dev) (x : Op06) : (D.does x).2.cells.length = D.cells.length := by
  unfold Dev.does
  split
  · exact write_len _ _ _
  split
  · unfold Dev.flush
    repeat' split
    all_goals first | rfl | exact crashC_len _ _ _ _
  split
  · unfold Dev.fault
    split
    · rfl
    · show (D.hurt x.f).cells.length = _
      unfold Dev.hurt
      repeat' split
      all_goals first | exact (List.length_modify ..).trans (settleC_len _ _ _) | exact List.length_modify ..
  split
  · rfl
  split
  · exact crashC_len _ _ _ _
  · rfl

set_option maxRecDepth 8000 in
set_option maxHeartbeats 1000000 in
theorem disk_does (k : Int) (l : List Op06) : AF Try.prog f_law06_DiskDoes [i64 k, .p (.sl 14 (opx l))] [] (Pure (bl true) []) := by
  refine af_body hT F_law06_DiskDoes rfl rfl N_law06_DiskDoes rfl ?_
  refine aw_seq (aw_region hT ?_)
  refine aw_seq (aw_region hT ?_)
  refine callP law06_awake ?_
  refine aw_cut ⟨⟨83, [(0, i64 k), (1, .p (.sl 14 (opx l)))]⟩, []⟩ (k ≤ 20 ∧ l.length ≤ 60) (aw_seq (aw_region hT ?_)) ?_
  · refine boolI (fun h => ?_) (fun h => ?_)
    · refine aw_cond ?_
      refine aw_seq (aw_region hT ?_)
      refine aw_ret ?_
      exact retPick [] ⟨rfl, rfl⟩ rfl
    · refine aw_cond (boolI (fun h3 => ?_) (fun h3 => ?_))
      · refine aw_seq (aw_region hT ?_)
        refine aw_ret ?_
        exact retPick [] ⟨rfl, rfl⟩ rfl
      · have h : decide (k > 20) = false := h
        have h := of_decide_eq_false h
        have h3 : decide (((opx l).length : Int) > 60) = false := h3
        have h3 := of_decide_eq_false h3
        rw [opx_len] at h3
        exact aw_skip ⟨wk_pick [] [0, 1] rfl, by omega, by omega⟩
  rintro ⟨hk, hn⟩
  by_cases h1 : k < 1
  · refine aw_seq (aw_region hT ?_)
    refine callP (disk_New_no k (.inl h1)) ?_
    refine aw_seq (aw_region hT ?_)
    refine callP (ref_New_no k (.inl h1)) ?_
    refine aw_seq (aw_seq (aw_region hT ?_))
    refine aw_cond ?_
    refine aw_skip ?_
    refine aw_seq (aw_seq (aw_region hT ?_))
    refine aw_block ?_
    refine aw_loopW (fun n s => s = ⟨⟨83, [(1, .p (.sl 14 (opx l))), (6, .p (.raw (.pointer none))), (8, .p (.raw (.pointer none))), (10, i64 0)]⟩, []⟩) 0 ⟨⟨83, _⟩, []⟩ (wk_pick [] [1, 6, 8, 10] rfl) rfl ?_
    rintro n s rfl
    refine aw_seq (aw_seq (aw_region hT ?_))
    refine boolI (fun h2 => ?_) (fun h2 => ?_)
    · refine aw_cond ?_
      refine aw_exit ?_
      refine aw_seq (aw_region hT ?_)
      refine aw_ret ?_
      exact retPick [] ⟨rfl, rfl⟩ rfl
    · refine aw_cond ?_
      refine aw_exit ?_
      refine aw_seq (aw_region hT ?_)
      refine aw_ret ?_
      exact retPick [] ⟨rfl, rfl⟩ rfl
  obtain ⟨N, rfl⟩ : ∃ N : Nat, k = N := ⟨k.toNat, by omega⟩
  have n1 := disk_New N (by omega) (by omega)
  have n2 := ref_New N (by omega) (by omega)
  have q1 : (Dev.new N).Ok 0 := ok_new N 0
  have q2 := al_new N
  have q3 : (Dev.new N).cells.length = N := List.length_replicate
  have n1' := n1
  generalize hD : Dev.new N = D0 at n1 q1 q2 q3
  rw [hD] at n2
  refine aw_seq (aw_region hT ?_)
  refine callP n1 ?_
  refine aw_cut ⟨⟨83, [(1, .p (.sl 14 (opx l))), (6, .ref 0 0), (7, i64 0), (8, .ref 3 0), (9, i64 0)]⟩, drH D0 D0⟩ True (aw_region hT ?_) (fun _ => ?_)
  · refine callP (af_lift n2 _ rfl) ?_
    exact ⟨wk_pick [0, 1, 2, 3, 4, 5, 6, 7, 8] [1, 6, 7, 8, 9] rfl, trivial⟩
  refine aw_seq (aw_seq (aw_region hT ?_))
  refine aw_cond ?_
  refine aw_skip ?_
  refine aw_seq (aw_seq (aw_region hT ?_))
  refine aw_block ?_
  refine aw_loopW (fun n s => ∃ (i : Nat) (j : Int) (D R : Dev), n + i = l.length ∧ j = i ∧ D.Ok i ∧ Al D R ∧ D.cells.length = N ∧ s = ⟨⟨83, [(1, .p (.sl 14 (opx l))), (6, .ref 0 0), (8, .ref 3 0), (10, i64 j)]⟩, drH D R⟩) l.length ⟨⟨83, _⟩, [_, _, _, _, _, _, _, _, _]⟩ (wk_pick [0, 1, 2, 3, 4, 5, 6, 7, 8] [1, 6, 8, 10] rfl) ⟨0, 0, D0, D0, rfl, rfl, q1, q2, q3, rfl⟩ ?_
  rintro n s ⟨i, j, D, R, hni, rfl, hD, hA, hlen, rfl⟩
  refine aw_seq (aw_seq (aw_region hT ?_))
  refine boolI (fun h => ?_) (fun h => ?_)
  · have hi : i < l.length := by
      have := of_decide_eq_true (show decide ((i : Int) < ((opx l).length : Int)) = true from h)
      rw [opx_len] at this; omega
    have hx := List.getElem?_eq_getElem hi
    generalize l[i] = x at hx
    have hx : (opx l)[((i : Nat) : Int).toNat]? = some x.pv := by rw [Int.toNat_natCast]; exact opx_get hx
    have w := law06_Does D x i hD (by omega)
    have v := law06_did R x i (hA.ok hD) (by omega)
    have al := al_does hA x
    have okD := hD.does x
    have hlen2 : (D.does x).2.cells.length = N := by rw [does_len, hlen]
    rw [al.1] at v
    have al := al.2
    generalize (D.does x).1 = e at w v
    generalize (D.does x).2 = D2 at w al okD hlen2
    generalize (R.did x).2 = R2 at v al
    have sm := law06_same D2 R2 (i + 1) okD (by omega) al (by omega)
    have okS := scan_ok okD (D2.cells.length + 2)
    have alS := al_scan al (D2.cells.length + 2)
    have lenS := scan_len D2 (D2.cells.length + 2)
    replace lenS := lenS.trans hlen2
    generalize D2.scan (D2.cells.length + 2) = D3 at sm okS alS lenS
    generalize R2.scan (D2.cells.length + 2) = R3 at sm alS
    refine aw_cond ?_
    refine aw_skip ?_
    refine aw_cut ⟨⟨83, [(1, .p (.sl 14 (opx l))), (6, .ref 0 0), (8, .ref 3 0), (10, i64 i)]⟩, drH D3 R3⟩ True (aw_block ?_) (fun _ => ?_)
    · refine aw_cut ⟨⟨83, [(1, .p (.sl 14 (opx l))), (6, .ref 0 0), (8, .ref 3 0), (10, i64 i), (11, i64 e)]⟩, drH D2 R⟩ True (aw_region hT ?_) (fun _ => ?_)
      · refine ⟨Int.natCast_nonneg _, optI hx ?_⟩
        refine callP (af_in [0, 1, 2] w rfl rfl rfl) ?_
        exact ⟨wk_pick [0, 9, 10, 3, 4, 5, 6, 7, 8] [1, 6, 8, 10, 11] rfl, trivial⟩
      refine aw_cut ⟨⟨83, [(1, .p (.sl 14 (opx l))), (6, .ref 0 0), (8, .ref 3 0), (10, i64 i), (11, i64 e), (12, i64 e)]⟩, drH D2 R2⟩ True (aw_region hT ?_) (fun _ => ?_)
      · refine ⟨Int.natCast_nonneg _, optI hx ?_⟩
        refine callP (af_in [3, 4, 5, 6, 7, 8] v rfl rfl rfl) ?_
        exact ⟨wk_pick [0, 1, 2, 3, 9, 10, 11, 12, 13] [1, 6, 8, 10, 11, 12] rfl, trivial⟩
      refine aw_seq (aw_region hT ?_)
      refine callP (af_in [0, 1, 2, 3, 4, 5, 6, 7, 8] sm rfl rfl rfl) ?_
      refine aw_seq (aw_region hT ?_)
      refine boolI (fun h2 => ?_) (fun h2 => ?_)
      · have h2 : (e != e) = true := h2
        rw [bne_self_int] at h2; cases h2
      refine aw_cond ?_
      refine aw_skip ?_
      exact ⟨wk_pick [0, 1, 2, 3, 4, 5, 6, 7, 8] [1, 6, 8, 10] rfl, trivial⟩
    · refine aw_region hT ?_
      refine ⟨n - 1, by omega, _, wk_pick [0, 1, 2, 3, 4, 5, 6, 7, 8] [1, 6, 8, 10] rfl, i + 1, IntKind.i64.wrap ((i : Int) + 1), D3, R3, by omega, ?_, okS, alS, lenS, rfl⟩
      rw [wrap64 _ (by omega) (by omega)]; rfl
  · refine aw_cond ?_
    refine aw_exit ?_
    refine aw_seq (aw_region hT ?_)
    refine aw_ret ?_
    exact retPick [] ⟨rfl, rfl⟩ rfl
end Go.Proofs.Ytolefphdldmlkaa.AL

/- The layer 09 (keep): what a hand has; a write that is read back. -/
namespace Go.Proofs.Ytolefphdldmlkaa.AL
open Go Go.Proofs

theorem bytes_Equal (s t : Bytes) : AF Try.prog f_bytes_Equal [bA s, bA t] [] (Pure (bl (s == t)) []) := by
  refine af_body hT F_bytes_Equal rfl rfl N_bytes_Equal rfl ?_
  refine aw_seq (aw_region hT ?_)
  refine aw_seq (aw_region hT ?_)
  refine ⟨s, rfl, ?_⟩
  refine ⟨t, rfl, ?_⟩
  refine aw_ret ?_
  refine retPick [] ⟨?_, rfl⟩ rfl
  show AV.p (.raw (.bool (ByteArray.toList ⟨s.toArray⟩ == ByteArray.toList ⟨t.toArray⟩))) = _
  rw [ByteArray.toList_eq, ByteArray.toList_eq]

abbrev handC (m : Int) : ABlk := .cells 105 [.ref 1 0, i64 m]
abbrev hH (D : Dev) (m : Int) : List ABlk := [handC m, devC D 2 3, .row t_disk_cell 4 (cx D.cells), .row t_disk_write 2 (wx D.waits)]
abbrev putAV (a : Int) (s : Bytes) : AV := .agg [i64 a, bA s]

/-- Has a sector what it should? -/
def Dev.hhas (D : Dev) (a : Int) (s : Bytes) : (Bool × Int) × Dev := match (D.read a).1.2 == 20 with
  | true => ((false, 0), (D.read a).2)
  | false => (((D.read a).1.2 == 0 && (D.read a).1.1 == s, (D.read a).1.2), (D.read a).2)

theorem hhas_eq {D E : Dev} {a : Int} {s x1 : Bytes} {x2 : Int} (h : D.read a = ((x1, x2), E)) : D.hhas a s = (match x2 == 20 with | true => ((false, 0), E) | false => ((x2 == 0 && x1 == s, x2), E)) := by
  unfold Dev.hhas; rw [h]

theorem hand_has (D : Dev) (m a : Int) (s : Bytes) (b : Nat) (hD : D.Ok b) (hb : b ≤ 1000000) : AFm Try.prog 4 f_keep_hand_has [.ref 0 0, putAV a s] (hH D m) (Pure (.tup [bl (D.hhas a s).1.1, i64 (D.hhas a s).1.2]) (hH (D.hhas a s).2 m)) := by
  have big := hD.big hb
  have rd := disk_Read D a big.2.1 big.2.2.1 big.2.2.2
  rcases hr : D.read a with ⟨⟨x1, x2⟩, E⟩
  have he := hhas_eq (s := s) hr
  rw [hr] at rd
  generalize D.hhas a s = Z at he
  refine af_bodyM 4 hT F_keep_hand_has rfl rfl N_keep_hand_has rfl rfl ?_
  refine aw_seq (aw_region hT ?_)
  refine aw_wk (wk_boxL 4 [.raw (.int .i64 a), bP s] rfl rfl) ?_
  refine aw_cut ⟨⟨29, [(3, .p (.box [.raw (.int .i64 a), bP s])), (6, bA x1), (7, i64 x2)]⟩, hH E m⟩ True ?_ (fun _ => ?_)
  · refine aw_draw [6] [] hT follows_mixed (by rfl) ?_
    refine ⟨_, _, af_in [1, 2, 3] rd rfl rfl rfl, ?_⟩
    exact ⟨wk_pick [0, 1, 2, 3] [3, 6, 7] rfl, trivial⟩
  refine aw_seq (aw_seq (aw_region hT ?_))
  refine aw_cond (boolI (fun h => ?_) (fun h => ?_))
  · have h : (x2 == 20) = true := h
    rw [h] at he; subst he
    refine aw_seq (aw_region hT ?_)
    refine aw_ret ?_
    exact retPick [0, 1, 2, 3] ⟨rfl, rfl⟩ rfl
  · have h : (x2 == 20) = false := h
    rw [h] at he; subst he
    refine aw_skip ?_
    refine aw_seq (aw_region hT ?_)
    refine boolI (fun h2 => ?_) (fun h2 => ?_)
    · refine callP (af_at (bytes_Equal x1 s) _ rfl rfl) ?_
      refine aw_ret ?_
      have h2 : (x2 == 0) = true := h2
      rw [h2]
      exact retPick [0, 1, 2, 3] ⟨rfl, rfl⟩ rfl
    · refine aw_ret ?_
      have h2 : (x2 == 0) = false := h2
      rw [h2]
      exact retPick [0, 1, 2, 3] ⟨rfl, rfl⟩ rfl

/-- A write, a flush, and what is there then. -/
def Dev.once (D : Dev) (a : Int) (s : Bytes) : (Bool × Int) × Dev := match (D.write a s).1 != 0 with
  | true => ((false, (D.write a s).1), (D.write a s).2)
  | false => match (D.write a s).2.flush.1 != 0 with
    | true => ((false, (D.write a s).2.flush.1), (D.write a s).2.flush.2)
    | false => (D.write a s).2.flush.2.hhas a s

theorem hand_once (D : Dev) (m a : Int) (s : Bytes) (b : Nat) (hD : D.Ok b) (hb : b < 1000000) : AFm Try.prog 2 f_keep_hand_once [.ref 0 0, putAV a s] (hH D m) (Pure (.tup [bl (D.once a s).1.1, i64 (D.once a s).1.2]) (hH (D.once a s).2 m)) := by
  have big := hD.big (Nat.le_of_lt hb)
  have w1 := disk_Write D a s big.2.1
  have ok1 := hD.write a s
  have he : D.once a s = (match (D.write a s).1 != 0 with | true => ((false, (D.write a s).1), (D.write a s).2) | false => match (D.write a s).2.flush.1 != 0 with | true => ((false, (D.write a s).2.flush.1), (D.write a s).2.flush.2) | false => (D.write a s).2.flush.2.hhas a s) := rfl
  generalize D.write a s = W at he w1 ok1
  obtain ⟨e1, D1⟩ := W
  replace ok1 : D1.Ok (b + 1) := ok1
  have big1 := ok1.big (show b + 1 ≤ 1000000 by omega)
  have w2 := disk_Flush D1 big1.1 big1.2.1
  have ok2 := ok1.flush
  replace he : D.once a s = (match e1 != 0 with | true => ((false, e1), D1) | false => match D1.flush.1 != 0 with | true => ((false, D1.flush.1), D1.flush.2) | false => D1.flush.2.hhas a s) := he
  generalize D1.flush = W at he w2 ok2
  obtain ⟨e2, D2⟩ := W
  replace ok2 : D2.Ok (b + 1) := ok2
  have w3 := hand_has D2 m a s (b + 1) ok2 (by omega)
  replace he : D.once a s = (match e1 != 0 with | true => ((false, e1), D1) | false => match e2 != 0 with | true => ((false, e2), D2) | false => D2.hhas a s) := he
  generalize D2.hhas a s = Y at he w3
  obtain ⟨⟨y1, y2⟩, D3⟩ := Y
  generalize D.once a s = Z at he
  refine af_bodyM 2 hT F_keep_hand_once rfl rfl N_keep_hand_once rfl rfl ?_
  refine aw_seq (aw_region hT ?_)
  refine aw_wk (wk_boxL 4 [.raw (.int .i64 a), bP s] rfl rfl) ?_
  refine aw_cut ⟨⟨33, [(0, .ref 0 0), (3, .p (.box [.raw (.int .i64 a), bP s]))]⟩, hH D1 m⟩ (e1 = 0) (aw_seq ?_) ?_
  · refine aw_draw [8] [] hT follows_mixed (by rfl) ?_
    refine ⟨_, _, af_in [1, 2, 3] w1 rfl rfl rfl, ?_⟩
    refine aw_seq (aw_region hT ?_)
    refine aw_cond (boolI (fun h => ?_) (fun h => ?_))
    · have h : (e1 != 0) = true := h
      rw [h] at he; subst he
      refine aw_seq (aw_region hT ?_)
      refine aw_ret ?_
      exact retPick [0, 1, 5, 6] ⟨rfl, rfl⟩ rfl
    · have h : (e1 != 0) = false := h
      exact aw_skip ⟨wk_pick [0, 1, 5, 6] [0, 3] rfl, by simpa using h⟩
  rintro h1
  rw [show (e1 != 0) = false by simpa using h1] at he
  refine aw_cut ⟨⟨33, [(0, .ref 0 0), (3, .p (.box [.raw (.int .i64 a), bP s]))]⟩, hH D2 m⟩ (e2 = 0) (aw_seq (aw_region hT ?_)) ?_
  · refine callP (af_in [1, 2, 3] w2 rfl rfl rfl) ?_
    refine aw_seq (aw_region hT ?_)
    refine aw_cond (boolI (fun h => ?_) (fun h => ?_))
    · have h : (e2 != 0) = true := h
      rw [h] at he; subst he
      refine aw_seq (aw_region hT ?_)
      refine aw_ret ?_
      exact retPick [0, 1, 4, 5] ⟨rfl, rfl⟩ rfl
    · have h : (e2 != 0) = false := h
      exact aw_skip ⟨wk_pick [0, 1, 4, 5] [0, 3] rfl, by simpa using h⟩
  rintro h2
  rw [show (e2 != 0) = false by simpa using h2] at he
  subst he
  refine aw_seq (aw_region hT ?_)
  refine callP (af_in [0, 1, 2, 3] w3 rfl rfl rfl) ?_
  refine aw_ret ?_
  exact retPick [0, 1, 2, 3] ⟨rfl, rfl⟩ rfl
end Go.Proofs.Ytolefphdldmlkaa.AL

/- The layer 09 (keep): a sector is written till it has what it should; some; what is mended. -/
namespace Go.Proofs.Ytolefphdldmlkaa.AL
open Go Go.Proofs

def Dev.tryK : Nat → Dev → Int → Bytes → Int × Dev
  | 0, D, _, _ => (22, D)
  | n + 1, D, a, s => match (D.once a s).1.2 != 0 with
    | true => ((D.once a s).1.2, (D.once a s).2)
    | false => match (D.once a s).1.1 with
      | true => (0, (D.once a s).2)
      | false => Dev.tryK n (D.once a s).2 a s
def Dev.one (D : Dev) (a : Int) (s : Bytes) : Int × Dev := Dev.tryK 4 D a s
/-- One more, where it went well. -/
def more (e m : Int) : Int := match e == 0 with | true => IntKind.i64.wrap (m + 1) | false => m

theorem once_ok {D : Dev} {b : Nat} (h : D.Ok b) (a : Int) (s : Bytes) : (D.once a s).2.Ok (b + 1) := by
  unfold Dev.once
  split
  · exact h.write a s
  split
  · exact (h.write a s).flush
  · unfold Dev.hhas
    split
    · exact (h.write a s).flush.read a
    · exact (h.write a s).flush.read a
theorem tryK_ok : ∀ (n : Nat) {D : Dev} {b : Nat}, D.Ok b → ∀ (a : Int) (s : Bytes), (Dev.tryK n D a s).2.Ok (b + n)
  | 0, D, b, h, a, s => h
  | n + 1, D, b, h, a, s => by
    unfold Dev.tryK
    split
    · exact (once_ok h a s).mono (by omega)
    split
    · exact (once_ok h a s).mono (by omega)
    · rw [show b + (n + 1) = b + 1 + n by omega]
      exact tryK_ok n (once_ok h a s) a s
theorem one_ok2 {D : Dev} {b : Nat} (h : D.Ok b) (a : Int) (s : Bytes) : (D.one a s).2.Ok (b + 4) := tryK_ok 4 h a s
/-- What goes wrong tells an error. -/
theorem once_err {D : Dev} {a : Int} {s : Bytes} (h : (D.once a s).1.1 = true) : (D.once a s).1.2 = 0 := by
  unfold Dev.once at h ⊢
  split at h
  · simp at h
  split at h
  · simp at h
  · unfold Dev.hhas at h ⊢
    split at h
    · simp at h
    · have h : ((((D.write a s).2.flush.2.read a).1.2 == 0) && _) = true := h
      rw [Bool.and_eq_true] at h
      have := h.1
      simpa using this

theorem hand_one (D : Dev) (m a : Int) (s : Bytes) (b : Nat) (hD : D.Ok b) (hb : b + 4 < 1000000) : AFm Try.prog 2 f_keep_hand_one [.ref 0 0, putAV a s] (hH D m) (Pure (i64 (D.one a s).1) (hH (D.one a s).2 (more (D.one a s).1 m))) := by
  refine af_bodyM 2 hT F_keep_hand_one rfl rfl N_keep_hand_one rfl rfl ?_
  refine aw_seq (aw_region hT ?_)
  refine aw_wk (wk_boxL 4 [.raw (.int .i64 a), bP s] rfl rfl) ?_
  refine aw_cut2 (fun s1 => ∃ E, D.one a s = (22, E) ∧ s1 = ⟨⟨29, []⟩, hH E m⟩) (aw_seq (aw_region hT ?_)) ?_
  · refine aw_block ?_
    refine aw_loopW (fun n s1 => ∃ (i : Nat) (j : Int) (E : Dev), n + i = 4 ∧ j = i ∧ E.Ok (b + i) ∧ D.one a s = Dev.tryK n E a s ∧ s1 = ⟨⟨29, [(0, .ref 0 0), (3, .p (.box [.raw (.int .i64 a), bP s])), (7, i64 j)]⟩, hH E m⟩) 4 ⟨⟨29, _⟩, [_, _, _, _]⟩ (wk_pick [0, 1, 2, 3] [0, 3, 7] rfl) ⟨0, 0, D, rfl, rfl, hD, rfl, rfl⟩ ?_
    rintro n s1 ⟨i, j, E, hni, rfl, hE, hone, rfl⟩
    refine aw_seq (aw_region hT ?_)
    refine aw_seq (aw_cond (boolI (fun h => ?_) (fun h => ?_)))
    · have hi : i < 4 := by
        have := of_decide_eq_true (show decide ((i : Int) < 4) = true from h)
        omega
      obtain ⟨n, rfl⟩ : ∃ k, n = k + 1 := ⟨n - 1, by omega⟩
      have w := hand_once E m a s (b + i) hE (by omega)
      have ok := once_ok hE a s
      have herr := @once_err E a s
      unfold Dev.tryK at hone
      generalize E.once a s = Y at w ok hone herr
      obtain ⟨⟨y1, y2⟩, E2⟩ := Y
      refine aw_skip ?_
      refine aw_cut ⟨⟨29, [(0, .ref 0 0), (3, .p (.box [.raw (.int .i64 a), bP s])), (7, i64 i)]⟩, hH E2 m⟩ (y2 = 0 ∧ y1 = false) (aw_block (aw_seq (aw_region hT ?_))) ?_
      · refine callP (af_in [0, 1, 2, 3] w rfl rfl rfl) ?_
        refine aw_block ?_
        refine aw_seq (aw_region hT ?_)
        refine aw_cond (boolI (fun h1 => ?_) (fun h1 => ?_))
        · have h1 : (y2 != 0) = true := h1
          have e : D.one a s = (y2, E2) := by rw [hone]; simp only; rw [h1]
          refine aw_seq (aw_region hT ?_)
          refine aw_ret ?_
          rw [e]
          have hm : more y2 m = m := by unfold more; rw [show (y2 == 0) = false by simpa using h1]
          rw [hm]
          exact retPick [0, 1, 4, 5] ⟨rfl, rfl⟩ rfl
        · have h1 : (y2 != 0) = false := h1
          refine aw_seq (aw_region hT ?_)
          refine aw_cond (boolI (fun h2 => ?_) (fun h2 => ?_))
          · have h2 : y1 = true := h2
            have e : D.one a s = (0, E2) := by rw [hone]; simp only; rw [h1, h2]
            refine aw_seq (aw_region hT ?_)
            refine aw_seq (aw_region hT ?_)
            refine aw_ret ?_
            rw [e]
            exact retPick [0, 1, 4, 5] ⟨rfl, rfl⟩ rfl
          · exact aw_skip ⟨wk_pick [0, 1, 4, 5] [0, 3, 7] rfl, by simpa using h1, h2⟩
      · rintro ⟨h1, h2⟩
        have e : D.one a s = Dev.tryK n E2 a s := by rw [hone]; simp only; rw [show (y2 != 0) = false by simpa using h1, h2]
        refine aw_region hT ?_
        refine ⟨n, by omega, _, wk_pick [0, 1, 2, 3] [0, 3, 7] rfl, i + 1, IntKind.i64.wrap ((i : Int) + 1), E2, by omega, ?_, by rw [← Nat.add_assoc]; exact ok, e, rfl⟩
        rw [wrap64 _ (by omega) (by omega)]; rfl
    · have hi : ¬ (i : Int) < 4 := of_decide_eq_false h
      have hn0 : n = 0 := by omega
      subst hn0
      refine aw_exit ?_
      exact ⟨_, wk_pick [0, 1, 2, 3] [] rfl, E, hone, rfl⟩
  · rintro _ ⟨E, e, rfl⟩
    refine aw_seq (aw_region hT ?_)
    refine aw_ret ?_
    rw [e]
    exact retPick [0, 1, 2, 3] ⟨rfl, rfl⟩ rfl
end Go.Proofs.Ytolefphdldmlkaa.AL

/- The layer 09 (keep): each of some; one, all. -/
namespace Go.Proofs.Ytolefphdldmlkaa.AL
open Go Go.Proofs

structure Put9 where
  at_ : Int
  s : Bytes
def Put9.pv (x : Put9) : List PV := [.raw (.int .i64 x.at_), bP x.s]
def px (l : List Put9) : List (List PV) := l.map Put9.pv
theorem px_len (l : List Put9) : (px l).length = l.length := by simp [px]
theorem px_get {l : List Put9} {i : Nat} {c : Put9} (h : l[i]? = some c) : (px l)[i]? = some c.pv := by rw [px, List.getElem?_map, h]; rfl

def eachK (g : Dev → Int → Int → Bytes → Int × (Dev × Int)) : List Put9 → Dev → Int → Int × (Dev × Int)
  | [], D, m => (0, (D, m))
  | x :: r, D, m => match (g D m x.at_ x.s).1 != 0 with
    | true => g D m x.at_ x.s
    | false => eachK g r (g D m x.at_ x.s).2.1 (g D m x.at_ x.s).2.2

theorem eachK_cons (g : Dev → Int → Int → Bytes → Int × (Dev × Int)) (x : Put9) (r : List Put9) (D : Dev) (m : Int) : eachK g (x :: r) D m = match (g D m x.at_ x.s).1 != 0 with
    | true => g D m x.at_ x.s
    | false => eachK g r (g D m x.at_ x.s).2.1 (g D m x.at_ x.s).2.2 := rfl

/-- What a hand's function does to a device. -/
def Steps (f : FuncId) (g : Dev → Int → Int → Bytes → Int × (Dev × Int)) : Prop := ∀ (D : Dev) (m a : Int) (s : Bytes) (b : Nat), D.Ok b → b + 4 < 1000000 →
  AFm Try.prog 2 f [.ref 0 0, putAV a s] (hH D m) (Pure (i64 (g D m a s).1) (hH (g D m a s).2.1 (g D m a s).2.2)) ∧ (g D m a s).2.1.Ok (b + 4)

theorem each_ok {f : FuncId} {g : Dev → Int → Int → Bytes → Int × (Dev × Int)} (hg : Steps f g) : ∀ (l : List Put9) {D : Dev} {m : Int} {b : Nat}, D.Ok b → b + 4 * l.length < 1000000 → (eachK g l D m).2.1.Ok (b + 4 * l.length)
  | [], D, m, b, h, _ => h
  | x :: r, D, m, b, h, hb => by
    simp only [List.length_cons] at hb
    have h1 := (hg D m x.at_ x.s b h (by omega)).2
    unfold eachK
    split
    · exact h1.mono (by simp only [List.length_cons]; omega)
    · rw [show b + 4 * (x :: r).length = b + 4 + 4 * r.length by simp only [List.length_cons]; omega]
      exact each_ok hg r h1 (by omega)

theorem keep_each {f : FuncId} {g : Dev → Int → Int → Bytes → Int × (Dev × Int)} (hg : Steps f g) (l : List Put9) (D : Dev) (m : Int) (b : Nat) (hD : D.Ok b) (hb : b + 4 * l.length < 1000000) :
    AFm Try.prog 2 f_keep_each [.p (.sl 2 (px l)), .mth (.func f) [.ref 0 0]] (hH D m) (Pure (i64 (eachK g l D m).1) (hH (eachK g l D m).2.1 (eachK g l D m).2.2)) := by
  refine af_bodyM 2 hT F_keep_each rfl rfl N_keep_each rfl rfl ?_
  refine aw_seq (aw_region hT ?_)
  refine aw_cut2 (fun s1 => ∃ E k, eachK g l D m = (0, (E, k)) ∧ s1 = ⟨⟨21, []⟩, hH E k⟩) (aw_seq (aw_region hT ?_)) ?_
  · refine aw_block ?_
    refine aw_loopW (fun n s1 => ∃ (i : Nat) (j : Int) (E : Dev) (k : Int), n + i = l.length ∧ j = i ∧ E.Ok (b + 4 * i) ∧ eachK g l D m = eachK g (l.drop i) E k ∧ s1 = ⟨⟨21, [(1, .mth (.func f) [.ref 0 0]), (8, .p (.sl 2 (px l))), (9, i64 l.length), (10, i64 j)]⟩, hH E k⟩) l.length ⟨⟨21, _⟩, [_, _, _, _]⟩ (wk_pick [0, 1, 2, 3] [1, 8, 9, 10] rfl) ⟨0, 0, D, m, rfl, rfl, hD, rfl, by rw [← px_len l]; rfl⟩ ?_
    rintro n s1 ⟨i, j, E, k, hni, rfl, hE, he, rfl⟩
    refine aw_seq (aw_region hT ?_)
    refine aw_seq (aw_cond (boolI (fun h => ?_) (fun h => ?_)))
    · have hi : i < l.length := by
        have := of_decide_eq_true (show decide ((i : Int) < (l.length : Int)) = true from h)
        omega
      have hx := List.getElem?_eq_getElem hi
      have hdr : l.drop i = l[i] :: l.drop (i + 1) := List.drop_eq_getElem_cons hi
      generalize l[i] = x at hx hdr
      have hxp : (px l)[((i : Nat) : Int).toNat]? = some x.pv := by rw [Int.toNat_natCast]; exact px_get hx
      obtain ⟨w, ok⟩ := hg E k x.at_ x.s (b + 4 * i) hE (by omega)
      rw [hdr, eachK_cons] at he
      generalize g E k x.at_ x.s = Y at w ok he
      obtain ⟨e, E2, k2⟩ := Y
      refine aw_skip ?_
      refine aw_cut ⟨⟨21, [(1, .mth (.func f) [.ref 0 0]), (8, .p (.sl 2 (px l))), (9, i64 l.length), (10, i64 i)]⟩, hH E2 k2⟩ (e = 0) (aw_block (aw_seq (aw_region hT ?_))) ?_
      · refine ⟨Int.natCast_nonneg _, optI hxp ?_⟩
        refine aw_seq (aw_region hT ?_)
        refine callP (af_in [0, 1, 2, 3] w rfl rfl rfl) ?_
        refine aw_seq (aw_region hT ?_)
        refine aw_cond (boolI (fun h1 => ?_) (fun h1 => ?_))
        · have h1 : (e != 0) = true := h1
          have e1 : eachK g l D m = (e, (E2, k2)) := by rw [he]; simp only; rw [h1]
          refine aw_seq (aw_region hT ?_)
          refine aw_ret ?_
          rw [e1]
          exact retPick [0, 1, 5, 6] ⟨rfl, rfl⟩ rfl
        · have h1 : (e != 0) = false := h1
          exact aw_skip ⟨wk_pick [0, 1, 5, 6] [1, 8, 9, 10] rfl, by simpa using h1⟩
      · intro h1
        have e1 : eachK g l D m = eachK g (l.drop (i + 1)) E2 k2 := by rw [he]; simp only; rw [show (e != 0) = false by simpa using h1]
        refine aw_region hT ?_
        refine ⟨n - 1, by omega, _, wk_pick [0, 1, 2, 3] [1, 8, 9, 10] rfl, i + 1, IntKind.i64.wrap ((i : Int) + 1), E2, k2, by omega, ?_, by rw [show b + 4 * (i + 1) = b + 4 * i + 4 by omega]; exact ok, e1, rfl⟩
        rw [wrap64 _ (by omega) (by omega)]; rfl
    · have hi : ¬ (i : Int) < (l.length : Int) := of_decide_eq_false h
      have hil : i = l.length := by omega
      subst hil
      rw [List.drop_length] at he
      refine aw_exit ?_
      exact ⟨_, wk_pick [0, 1, 2, 3] [] rfl, E, k, he, rfl⟩
  · rintro _ ⟨E, k, e, rfl⟩
    refine aw_seq (aw_region hT ?_)
    refine aw_ret ?_
    rw [e]
    exact retPick [0, 1, 2, 3] ⟨rfl, rfl⟩ rfl

/-- One, as a step. -/
def oneG (D : Dev) (m a : Int) (s : Bytes) : Int × (Dev × Int) := ((D.one a s).1, ((D.one a s).2, more (D.one a s).1 m))
theorem steps_one : Steps f_keep_hand_one oneG := fun D m a s b hD hb => ⟨hand_one D m a s b hD hb, one_ok2 hD a s⟩

theorem keep_One (D : Dev) (a : Int) (s : Bytes) (b : Nat) (hD : D.Ok b) (hb : b + 4 < 1000000) : AFm Try.prog 1 f_keep_One [.ref 0 0, putAV a s] (devH D) (Pure (i64 (D.one a s).1) (devH (D.one a s).2)) := by
  have w := hand_one D 0 a s b hD hb
  generalize D.one a s = Y at w
  obtain ⟨e, E⟩ := Y
  refine af_bodyM 1 hT F_keep_One rfl rfl N_keep_One rfl rfl ?_
  refine aw_seq (aw_region hT ?_)
  refine aw_wk (wk_boxL 3 [.raw (.int .i64 a), bP s] rfl rfl) ?_
  refine aw_seq (aw_region hT ?_)
  refine callP (af_in [4, 0, 1, 2] w rfl rfl rfl) ?_
  refine aw_ret ?_
  exact retPick [0, 5, 6] ⟨rfl, rfl⟩ rfl

def Dev.all9 (D : Dev) (l : List Put9) : Int × Dev := ((eachK oneG l D 0).1, (eachK oneG l D 0).2.1)
theorem keep_All (D : Dev) (l : List Put9) (b : Nat) (hD : D.Ok b) (hb : b + 4 * l.length < 1000000) : AFm Try.prog 1 f_keep_All [.ref 0 0, .p (.sl 2 (px l))] (devH D) (Pure (i64 (D.all9 l).1) (devH (D.all9 l).2)) := by
  have w := keep_each steps_one l D 0 b hD hb
  unfold Dev.all9
  generalize eachK oneG l D 0 = Y at w
  obtain ⟨e, E, k⟩ := Y
  refine af_bodyM 1 hT F_keep_All rfl rfl N_keep_All rfl rfl ?_
  refine aw_seq (aw_region hT ?_)
  refine aw_seq (aw_region hT ?_)
  refine callP (af_in [3, 0, 1, 2] w rfl rfl rfl) ?_
  refine aw_ret ?_
  exact retPick [0, 4, 5] ⟨rfl, rfl⟩ rfl
end Go.Proofs.Ytolefphdldmlkaa.AL
