/- The abstract layer, part w: a region that draws its order, and ends with a new variable and its value. -/
import Derived.Test.YtdncagppilehgaaALs
namespace Go.Proofs.Ytdncagppilehgaa.AL
open Go Go.RowKit

section
variable {P : Program} {T : TTab} {m : Nat} {ops : Array Oper} {H : List ABlk}

def tailOk (ops : Array Oper) (n : Nat) : Bool :=
  (ops.size == n + 2) && (match ops[n + 1]? with
    | some o => (List.range (n + 1)).all fun j => o.after.toList.any fun e => Region.binds .any e && e.on == j
    | none => false)

theorem tail_ok {n : Nat} (h : tailOk ops n = true) : ops.size = n + 2 ∧ ∀ o, ops[n + 1]? = some o → ∀ j, j < n + 1 → ∃ e ∈ o.after, Region.binds .any e = true ∧ e.on = j := by
  unfold tailOk at h
  rw [Bool.and_eq_true] at h
  refine ⟨eq_of_beq h.1, fun o ho j hj => ?_⟩
  have h2 := h.2
  rw [ho] at h2
  simp only [List.all_eq_true, List.mem_range] at h2
  obtain ⟨e, he, hb⟩ := List.any_eq_true.1 (h2 j hj)
  rw [Bool.and_eq_true] at hb
  exact ⟨e, by simpa using he, hb.1, by simpa using hb.2⟩

def HofA (H : List ABlk) (blk : ABlk) (n : Nat) (listed : Array Bool) : List ABlk := if listed[n]? = some true then H ++ [blk] else H

def JA (m : Nat) (ops : Array Oper) (Fz F : Fr) (H : List ABlk) (blk : ABlk) (n : Nat) (w0 : World) (I0 : Nat → Prop) (ι0 : Nat → Option Nat) (H0 : List ABlk) (listed : Array Bool) (a : Act) (w : World) : Prop :=
  ∃ I ι, a.tmps.size = F.n ∧ a.defers = [] ∧ SimH w I ι (HofA H blk n listed) ∧ Ex m w0 I0 ι0 H0 w I ι (HofA H blk n listed) ∧
    (∀ t u, look F.l t = some u → (∀ (j : Nat) (o : Oper), ops[j]? = some o → o.dst = some t → listed[j]? = some true) → ARep w I ι u (a.tmps.getD t undef)) ∧
    (∀ t u, look Fz.l t = some u → (∀ (j : Nat) (o : Oper), ops[j]? = some o → o.dst = some t → listed[j]? = some false) → ARep w I ι u (a.tmps.getD t undef)) ∧
    (∀ (j : Nat) (o : Oper), ops[j]? = some o → listed[j]? = some true → ∀ e ∈ o.after, Region.binds .any e = true → listed[e.on]? = some true) ∧ listed[n + 1]? = some false

theorem drawA_sound (hT : TOk P T) (hssa : ssaOk ops = true) {Fz F : Fr} {Q : Exit → Act → World → Prop} {w0 : World} {I0 : Nat → Prop} {ι0 : Nat → Option Nat} {H0 : List ABlk} {n : Nat} {blk : ABlk} {oa os : Oper} {d : Tmp}
    (htail : tailOk ops n = true) (hoa : ops[n]? = some oa) (hos : ops[n + 1]? = some os) (hga : oa.guard = none) (hgs : os.guard = none) (hda : oa.dst = some d) (hds : os.dst = none) (hdF : Nat.blt d F.n = true) (hlookd : look F.l d = some (.ref H.length 0))
    (halloc : ∀ ev, aop P T (callK P) ev H (fun u H' => u = .ref H.length 0 ∧ H' = H ++ [blk]) oa.op) {HE : List ABlk}
    (hstore : aop P T (callK P) (evalA F) (H ++ [blk]) (fun _ H' => H' = HE) os.op)
    (hfact : ∀ E, E = [] ∨ E = [blk] → ∀ (i : Nat) (o : Oper), i < n → ops[i]? = some o → Fact P T ops (H ++ E) Fz F i o) (hQ : ∀ a w I ι, Sim w I ι ⟨F, HE⟩ a → Ex m w0 I0 ι0 H0 w I ι HE → Q .normal a w) :
    ∀ (fuel : Nat) (listed : Array Bool) (a : Act) (w : World), listed.size = ops.size → listed.toList.count true + fuel = ops.size → JA m ops Fz F H blk n w0 I0 ι0 H0 listed a w → wpAny P .any ops Q fuel listed a w := by
  obtain ⟨hsize, htail⟩ := tail_ok htail
  have htail := htail os hos
  intro fuel
  have hnodone : ∀ (listed : Array Bool) (a : Act) (w : World), listed.size = ops.size → JA m ops Fz F H blk n w0 I0 ι0 H0 listed a w → Region.ready .any ops listed = [] → False := by
    intro listed a w hsz hJ hr
    obtain ⟨I, ι, h1, h2, h3, h4, h5, h6, h7, h8⟩ := hJ
    have hall : ∀ i, i < ops.size → listed[i]? = some true := by
      intro i
      induction i using Nat.strongRecOn with
      | _ i ih =>
        intro hi
        cases hb : listed[i]? with
        | none => have := Array.getElem?_eq_none_iff.1 hb; omega
        | some b =>
          cases b with
          | true => rfl
          | false =>
            exfalso
            have hmem : i ∈ Region.ready .any ops listed := by
              unfold Region.ready
              rw [List.mem_filter]
              refine ⟨by simpa using hi, ?_⟩
              have ho : ops[i]? = some ops[i] := Array.getElem?_eq_getElem hi
              rw [ho]
              simp only [Option.map_some, Option.getD_some, Bool.and_eq_true]
              refine ⟨by rw [Array.getD_eq_getD_getElem?, hb]; rfl, ?_⟩
              rw [Array.all_eq_true']
              intro e he
              cases hbe : Region.binds .any e with
              | false => rfl
              | true =>
                have hlt := (ssa_ok hssa ho).1 e he hbe
                have := ih e.on hlt (by omega)
                rw [Array.getD_eq_getD_getElem?, this]; rfl
            rw [hr] at hmem
            simp at hmem
    rw [hall (n + 1) (by omega)] at h8
    simp at h8
  induction fuel with
  | zero =>
    intro listed a w hsz hcnt hJ
    exfalso
    have hall : ∀ b ∈ listed.toList, true = b := List.count_eq_length.1 (by rw [Array.length_toList]; omega)
    obtain ⟨I, ι, h1, h2, h3, h4, h5, h6, h7, h8⟩ := hJ
    have := hall _ (List.mem_of_getElem? (by rw [Array.getElem?_toList]; exact h8))
    simp at this
  | succ fuel ih =>
    intro listed a w hsz hcnt hJ
    refine ⟨fun hr => (hnodone listed a w hsz hJ hr).elim, fun i hi => ?_⟩
    unfold Region.ready at hi
    rw [List.mem_filter] at hi
    obtain ⟨hi1, hi2⟩ := hi
    have hi1 : i < ops.size := by simpa using hi1
    have ho : ops[i]? = some ops[i] := Array.getElem?_eq_getElem hi1
    generalize ops[i] = o at ho
    rw [ho] at hi2
    simp only [Option.map_some, Option.getD_some, Bool.and_eq_true] at hi2
    obtain ⟨hun, hed⟩ := hi2
    have hli : listed[i]? = some false := by
      rw [Array.getD_eq_getD_getElem?] at hun
      cases hb : listed[i]? with
      | none => have := Array.getElem?_eq_none_iff.1 hb; omega
      | some b => rw [hb] at hun; cases b with
        | false => rfl
        | true => simp at hun
    have hedge : ∀ e ∈ o.after, Region.binds .any e = true → listed[e.on]? = some true := by
      intro e he hb
      have := (Array.all_eq_true'.1 hed) e he
      rw [hb] at this
      rw [Array.getD_eq_getD_getElem?] at this
      cases hx : listed[e.on]? with
      | none => rw [hx] at this; simp at this
      | some b => rw [hx] at this; cases b with
        | true => rfl
        | false => simp at this
    obtain ⟨I, ι, h1, h2, h3, h4, h5, h6, h7, h8⟩ := hJ
    have hil : i < listed.size := by omega
    have hcnt' : (listed.setIfInBounds i true).toList.count true + fuel = ops.size := by
      have hlt : i < listed.toList.length := by rw [Array.length_toList]; omega
      have hget : listed.toList[i]? = some false := by rw [Array.getElem?_toList]; exact hli
      have : (listed.setIfInBounds i true).toList.count true = listed.toList.count true + 1 := by
        rw [Array.toList_setIfInBounds]
        have hdec : listed.toList = listed.toList.take i ++ false :: listed.toList.drop (i + 1) := by
          have := List.getElem?_eq_some_iff.1 hget
          obtain ⟨hlt', he⟩ := this
          rw [← he, List.getElem_cons_drop, List.take_append_drop]
        rw [List.set_eq_take_append_cons_drop, if_pos hlt]
        conv => rhs; rw [hdec]
        simp only [List.count_append, List.count_cons]
        simp
        omega
      omega
    have hsz' : (listed.setIfInBounds i true).size = ops.size := by simp [hsz]
    have up : ∀ k, listed[k]? = some true → (listed.setIfInBounds i true)[k]? = some true := fun k hk => by
      by_cases e : i = k
      · subst e; exact Array.getElem?_setIfInBounds_self_of_lt hil
      · rw [Array.getElem?_setIfInBounds_ne e]; exact hk
    have clos : ∀ (j : Nat) (oj : Oper), ops[j]? = some oj → (listed.setIfInBounds i true)[j]? = some true → ∀ e ∈ oj.after, Region.binds .any e = true → (listed.setIfInBounds i true)[e.on]? = some true := fun j oj hj hlj e he hb => by
      by_cases e' : i = j
      · subst e'
        rw [ho] at hj; obtain rfl := Option.some.inj hj
        exact up _ (hedge _ he hb)
      · rw [Array.getElem?_setIfInBounds_ne e'] at hlj
        exact up _ (h7 j oj hj hlj _ he hb)
    have e1 : ∀ (v : Value) t, o.dst ≠ some t → (a.put o.dst v).tmps.getD t undef = a.tmps.getD t undef := fun v t hd => by
      cases hd' : o.dst with
      | none => rfl
      | some d =>
        simp only [Act.put]
        rw [Array.getD_eq_getD_getElem?, Array.getElem?_setIfInBounds_ne (by intro e; exact hd (by rw [hd', e])), ← Array.getD_eq_getD_getElem?]
    have hlive1 : ∀ E : List ABlk, HofA H blk n listed = H ++ E → ∀ {x : AV} {v : Value} {w' : World} {I' : Nat → Prop} {ι' : Nat → Option Nat} {H' : List ABlk}, Ex (HofA H blk n listed).length w I ι (HofA H blk n listed) w' I' ι' H' → ARep w I ι x v → ARep w' I' ι' x v := fun E hE x v w' I' ι' H' hx' hold => hold.move (hx'.ext.keepsI h3) hx'.ext.Isub (fun b B hb => by
        rw [hx'.keep b]; exact hb
        rcases Nat.lt_or_ge b (HofA H blk n listed).length with h | h
        · exact h
        · rw [h3.dom b h] at hb; exact absurd hb (by simp)) hx'.ext.shape
    -- what the new state knows, behind an operation that is not the last
    have step : ∀ (u : AV) (w' : World) (I' : Nat → Prop) (ι' : Nat → Option Nat) (v : Value), i ≠ n + 1 → SimH w' I' ι' (HofA H blk n (listed.setIfInBounds i true)) → Ex (HofA H blk n listed).length w I ι (HofA H blk n listed) w' I' ι' (HofA H blk n (listed.setIfInBounds i true)) → dstOk F.n o.dst = true → (∀ t x, o.dst = some t → look F.l t = some x → x = u) → ARep w' I' ι' u v →
        JA m ops Fz F H blk n w0 I0 ι0 H0 (listed.setIfInBounds i true) (a.put o.dst v) w' := by
      intro u w' I' ι' v hne hs' hx' f0 f5 hv
      have mv : ∀ {x : AV} {v : Value}, ARep w I ι x v → ARep w' I' ι' x v := fun hold => hold.move (hx'.ext.keepsI h3) hx'.ext.Isub (fun b B hb => by
        rw [hx'.keep b]; exact hb
        rcases Nat.lt_or_ge b (HofA H blk n listed).length with h | h
        · exact h
        · rw [h3.dom b h] at hb; exact absurd hb (by simp)) hx'.ext.shape
      refine ⟨I', ι', ?_, by rw [put_defers]; exact h2, hs', h4.trans (hx'.less h4.len), fun t x hx hall => ?_, fun t x hx hall => ?_, clos, ?_⟩
      · cases hd : o.dst <;> simp [Act.put, h1]
      · by_cases hd : o.dst = some t
        · have := f5 t x hd hx
          subst this
          have hlt : t < a.tmps.size := by rw [hd] at f0; rw [h1]; simpa [dstOk, Nat.blt_eq] using f0
          rw [hd]
          simp only [Act.put]
          rw [Array.getD_eq_getD_getElem?, Array.getElem?_setIfInBounds_self_of_lt hlt]
          exact hv
        · have hold : ARep w I ι x (a.tmps.getD t undef) := by
            refine h5 t x hx (fun j o' hj hd' => ?_)
            have hne : j ≠ i := fun e => by
              subst e
              rw [ho] at hj
              obtain rfl := Option.some.inj hj
              exact hd hd'
            have := hall j o' hj hd'
            rw [Array.getElem?_setIfInBounds_ne (by omega)] at this
            exact this
          rw [e1 v t hd]
          exact mv hold
      · have hd : o.dst ≠ some t := fun hd => by
          have := hall i o ho hd
          rw [Array.getElem?_setIfInBounds_self_of_lt hil] at this
          simp at this
        rw [e1 v t hd]
        refine mv (h6 t x hx (fun j o' hj hd' => ?_))
        have := hall j o' hj hd'
        by_cases e : i = j
        · subst e; rw [Array.getElem?_setIfInBounds_self_of_lt hil] at this; simp at this
        · rw [Array.getElem?_setIfInBounds_ne e] at this; exact this
      · rw [Array.getElem?_setIfInBounds_ne hne]; exact h8
    unfold wpOp
    rw [ho]
    simp only
    by_cases hin : i = n + 1
    · -- the last one
      subst hin
      rw [hos] at ho; obtain rfl := Option.some.inj ho
      have hall : ∀ j, j < n + 1 → listed[j]? = some true := fun j hj => by
        obtain ⟨e, he, hb, hon⟩ := htail j hj
        rw [← hon]; exact hedge e he hb
      have hH : HofA H blk n listed = H ++ [blk] := by rw [HofA, if_pos (hall n (by omega))]
      rw [hH] at h3 h4
      have hwant : Region.wanted os (yielded ops a.tmps) = true := by simp [Region.wanted, hgs]
      rw [hwant, if_pos rfl]
      have hfr : Sim w I ι ⟨F, H ++ [blk]⟩ a := ⟨⟨h1, fun t u hu => h5 t u hu (fun j o hj hd => by
        have hjs : j < n + 2 := by have := (Array.getElem?_eq_some_iff.1 hj).1; omega
        rcases Nat.lt_or_ge j (n + 1) with h | h
        · exact hall j h
        · have : j = n + 1 := by omega
          subst this
          rw [hos] at hj; obtain rfl := Option.some.inj hj
          rw [hds] at hd; simp at hd)⟩, h3, h2⟩
      refine .inl (aop_sound hT h3 (fun x _ => evalA_ok hfr.fr x) hstore ?_)
      rintro v w' r' H' I' ι' rfl hr hs' hx'
      have hready : Region.ready .any ops (listed.setIfInBounds (n + 1) true) = [] := by
        unfold Region.ready
        rw [List.filter_eq_nil_iff]
        intro k hk
        have hk : k < ops.size := by simpa using hk
        have : (listed.setIfInBounds (n + 1) true)[k]? = some true := by
          by_cases e : n + 1 = k
          · subst e; exact Array.getElem?_setIfInBounds_self_of_lt hil
          · rw [Array.getElem?_setIfInBounds_ne e]; exact hall k (by omega)
        simp [Array.getD_eq_getD_getElem?, this]
      have hq : Q .normal (a.put os.dst v) w' := by
        rw [hds]
        refine hQ a w' I' ι' ⟨⟨h1, fun t u hu => (hfr.fr.2 t u hu).move (hx'.ext.keepsI h3) hx'.ext.Isub (fun b B hb => by
          rw [hx'.keep b]; exact hb
          rcases Nat.lt_or_ge b (H ++ [blk]).length with h | h
          · exact h
          · rw [h3.dom b h] at hb; exact absurd hb (by simp)) hx'.ext.shape⟩, hs', h2⟩ (h4.trans (hx'.less h4.len))
      cases fuel with
      | zero => exact ⟨hready, hq⟩
      | succ fuel => exact ⟨fun _ => hq, fun k hk => by rw [hready] at hk; simp at hk⟩
    · by_cases hia : i = n
      · -- the new variable
        subst hia
        rw [hoa] at ho; obtain rfl := Option.some.inj ho
        have hH : HofA H blk i listed = H := by rw [HofA, if_neg (by rw [hli]; simp)]
        have hH' : HofA H blk i (listed.setIfInBounds i true) = H ++ [blk] := by rw [HofA, if_pos (Array.getElem?_setIfInBounds_self_of_lt hil)]
        have hwant : Region.wanted oa (yielded ops a.tmps) = true := by simp [Region.wanted, hga]
        rw [hwant, if_pos rfl]
        rw [hH] at h3 h4
        refine .inl (aop_sound hT h3 (ev := fun _ => .top) (fun x _ => .top _) (halloc _) ?_)
        rintro v w' r' H' I' ι' ⟨rfl, rfl⟩ hr hs' hx'
        refine ih _ _ _ hsz' hcnt' (step (.ref H.length 0) w' I' ι' v hin (by rw [hH']; exact hs') (by rw [hH, hH']; exact hx') (by rw [hda]; exact hdF) (fun t x ht hx => ?_) hr)
        rw [hda] at ht; obtain rfl := Option.some.inj ht
        rw [hlookd] at hx; exact (Option.some.inj hx).symm
      · -- one that only reads
        have hin' : i < n := by omega
        have hsame : HofA H blk n (listed.setIfInBounds i true) = HofA H blk n listed := by
          unfold HofA; rw [Array.getElem?_setIfInBounds_ne hia]
        obtain ⟨E, hE, hHE⟩ : ∃ E, (E = [] ∨ E = [blk]) ∧ HofA H blk n listed = H ++ E := by
          unfold HofA
          split
          · exact ⟨[blk], .inr rfl, rfl⟩
          · exact ⟨[], .inl rfl, by simp⟩
        obtain ⟨fr, c, u, f00, f0, f1, f2, f3, f4, f5⟩ := hfact E hE i o hin' ho
        have hread : ∀ t x, t ∈ readsOf ops o → look fr.l t = some x → ARep w I ι x (a.tmps.getD t undef) := by
          intro t x ht hx
          rcases f4 t ht with ⟨e1, e2⟩ | ⟨e1, e2⟩
          · refine h5 t x (by rw [← e1]; exact hx) (fun j o' hj hd => ?_)
            obtain ⟨e, he, hb, hon⟩ := e2 j o' hj hd
            rw [← hon]; exact hedge e he hb
          · refine h6 t x (by rw [← e1]; exact hx) (fun j o' hj hd => ?_)
            rcases e2 j o' hj hd with rfl | ⟨e, he, hb, hon⟩
            · exact hli
            · have hjl : j < listed.size := by rw [hsz]; exact (Array.getElem?_eq_some_iff.1 hj).1
              cases hb2 : listed[j]? with
              | none => have := Array.getElem?_eq_none_iff.1 hb2; omega
              | some b => cases b with
                | false => rfl
                | true =>
                  have := h7 j o' hj hb2 e he hb
                  rw [hon, hli] at this
                  simp at this
        have hwant : Region.wanted o (yielded ops a.tmps) = c := by
          refine want_of (w := w) (I := I) (ι := ι) (fr := fr) (fun d b hdb hg => ?_) f1
          obtain ⟨j, want, hg, g1⟩ := hg
          have hdm : d ∈ readsOf ops o := by simp [readsOf, hg, g1]
          exact hread d _ hdm hdb
        rw [hwant]
        cases c with
        | false =>
          rw [if_neg (by simp)]
          have hu := f3 rfl
          subst hu
          exact ih _ _ _ hsz' hcnt' (step undA w I ι undef hin (by rw [hsame]; exact h3) (by rw [hsame]; exact Ex.refl (Nat.le_refl _)) f0 f5 (.tup [] #[] rfl (fun i u h => by simp at h)))
        | true =>
          rw [if_pos rfl]
          have h3' := h3
          rw [hHE] at h3'
          refine .inl (aop_sound hT h3' (fun x hx => ?_) (f2 rfl) ?_)
          · cases x with
            | tmp t =>
              have ht : t ∈ readsOf ops o := by
                unfold readsOf tmpsOf
                exact List.mem_append_left _ (List.mem_filterMap.2 ⟨.tmp t, hx, rfl⟩)
              show ARep w I ι ((look fr.l t).getD .top) (a.tmps.getD t undef)
              cases hF : look fr.l t with
              | none => exact .top _
              | some x => exact hread t x ht hF
            | const v => exact const_ok v
            | global g => exact .top _
            | func f => exact .clo (.func f) [] #[] rfl (fun i u h => by simp at h)
          · rintro v w' r' H' I' ι' ⟨rfl, rfl⟩ hr hs' hx'
            exact ih _ _ _ hsz' hcnt' (step r' w' I' ι' v hin (by rw [hsame, hHE]; exact hs') (by rw [hsame, hHE]; exact hx') f0 f5 hr)

theorem aw_drawA (hT : TOk P T) (hm' : P.follows .mixedOrders = true) {id : Nat} {s : St} {Q : Exit → St → Prop} {F0 : Fr} {HE : List ABlk} {pre : List Oper} {oa os : Oper} {d : Tmp} {t : TypeId} {ti : TI}
    (hssa : ssaOk ops = true) (htail : tailOk ops pre.length = true) (hsplit : ops.toList = pre ++ [oa, os]) (hoa : oa.op = .alloc t) (hti : T t = some ti) (hga : oa.guard = none) (hgs : os.guard = none) (hda : oa.dst = some d) (hds : os.dst = none) (hdF : Nat.blt d F0.n = true)
    (h1 : ∀ E, aQ P T ops (s.H ++ E) pre s.fr (fun fr => fr = F0)) (h2 : aopX P T (callK P) (evX ⟨F0.n, (d, .ref s.H.length 0) :: F0.l⟩) (s.H ++ [.cells t (zeroA ti)]) (fun _ H' => H' = HE) os.op)
    (h3 : Q .normal ⟨⟨F0.n, (d, .ref s.H.length 0) :: F0.l⟩, HE⟩) : AW P m (.region id ops true) s Q := fun w I ι a hs hm => by
  have hget : ∀ j, ops[j]? = (pre ++ [oa, os])[j]? := fun j => by rw [← Array.getElem?_toList, hsplit]
  have hoan : ops[pre.length]? = some oa := by rw [hget, List.getElem?_append_right (Nat.le_refl _)]; simp
  have hosn : ops[pre.length + 1]? = some os := by rw [hget, List.getElem?_append_right (by omega)]; simp
  obtain ⟨F', q1, rfl⟩ := aQ_steps pre (h1 [])
  have hlen := q1.length
  have hother : ∀ t, (∀ o ∈ pre, o.dst ≠ some t) → look F'.l t = look s.fr.l t := fun t ht => q1.other ht
  have hfact : ∀ E, E = [] ∨ E = [.cells t (zeroA ti)] → ∀ (i : Nat) (o : Oper), i < pre.length → ops[i]? = some o → Fact P T ops (s.H ++ E) s.fr ⟨F'.n, (d, .ref s.H.length 0) :: F'.l⟩ i o := fun E _ i o hi ho => by
    obtain ⟨F2, q2, rfl⟩ := aQ_steps pre (h1 E)
    have hpo : pre[i]? = some o := by rw [hget, List.getElem?_append_left hi] at ho; exact ho
    have := QS.facts hssa (F0 := s.fr) pre 0 (fun j o h => by rw [Nat.zero_add, hget, List.getElem?_append_left (List.getElem?_eq_some_iff.1 h).1]; exact h) (fun _ _ => rfl) q2 i o hpo
    rw [Nat.zero_add] at this
    obtain ⟨fr, c, u, f00, f0, f1, f2, f3, f4, f5⟩ := this
    refine ⟨fr, c, u, f00, f0, f1, f2, f3, fun t ht => ?_, fun d' x hd' hx => ?_⟩
    · rcases f4 t ht with ⟨e1, e2⟩ | h
      · have hne : d ≠ t := fun e => by
          subst e
          obtain ⟨e, he, hb, hon⟩ := e2 _ _ hoan hda
          have := (ssa_ok hssa ho).1 e he hb
          omega
        exact .inl ⟨by rw [e1]; exact (look_other _ _ hne).symm, e2⟩
      · exact .inr h
    · have hne : d ≠ d' := fun e => by
        subst e
        exact ((ssa_ok hssa hoan).2 i o d ho hd').2 (by omega) hda
      refine f5 d' x hd' ?_
      rw [← hx]
      exact (look_other _ _ hne).symm
  have halloc : ∀ ev, aop P T (callK P) ev s.H (fun u H' => u = .ref s.H.length 0 ∧ H' = s.H ++ [.cells t (zeroA ti)]) oa.op := fun ev => by
    rw [hoa]; simp only [aop, hti]; exact ⟨trivial, rfl⟩
  have hsz : ops.size = pre.length + 2 := by rw [← Array.length_toList, hsplit]; simp
  refine wp_region_any hm' (drawA_sound (m := m) (Fz := s.fr) (F := ⟨F'.n, (d, .ref s.H.length 0) :: F'.l⟩) (H := s.H) (w0 := w) (I0 := I) (ι0 := ι) (H0 := s.H) (blk := .cells t (zeroA ti)) (n := pre.length) hT hssa htail hoan hosn hga hgs hda hds hdF (look_self _ _ _) halloc (aopX_ok h2) hfact ?_ _ _ _ _ (by simp) (by simp [List.count_replicate]) ?_)
  · intro a' w' I' ι' hs' hx'
    exact ⟨_, I', ι', h3, hs', hx'⟩
  · have hsh : Shape w w.drew := fun B cs t fr h => ⟨cs, h, rfl⟩
    have mv : ∀ {x : AV} {v : Value}, ARep w I ι x v → ARep w.drew I ι x v := fun h => h.move (w := w) (w' := w.drew) (fun _ _ => rfl) (fun _ h => h) (fun _ _ h => h) hsh
    have hs2 : SimH w.drew I ι s.H := ⟨fun b k hb => by
      have := hs.H.blk b k hb
      cases k with
      | dead => trivial
      | cells t l => obtain ⟨B, cs, g1, g2, g3, g4, g5⟩ := this; exact ⟨B, cs, g1, g2, g3, g4, fun i u hu => mv (g5 i u hu)⟩
      | row t sz xs =>
        rcases this with g0 | ⟨B, cs, g1, g2, g3, g4, g5, g6⟩
        · exact .inl g0
        · exact .inr ⟨B, cs, g1, g2, g3, g4, g5, fun j e hj => ⟨(g6 j e hj).1, fun i u hu => ((g6 j e hj).2 i u hu).move (w := w) (w' := w.drew) (fun _ _ => rfl) (fun _ h => h)⟩⟩, hs.H.inj, hs.H.Ilt, hs.H.dom, hs.H.rng⟩
    have hrep : ∀ k, (Array.replicate ops.size false)[k]? = some true → False := fun k hk => by
      rw [Array.getElem?_replicate] at hk
      split at hk <;> simp at hk
    have hH : HofA s.H (.cells t (zeroA ti)) pre.length (Array.replicate ops.size false) = s.H := by
      rw [HofA, if_neg (hrep _)]
    refine ⟨I, ι, by rw [hs.fr.1, hlen], hs.d, by rw [hH]; exact hs2, by rw [hH]; exact ⟨⟨rfl, rfl, rfl, Nat.le_refl _, hsh, fun _ h => h, fun _ _ _ => rfl, fun _ h => .inl h, fun b B hb h => .inr ⟨b, hb, h⟩⟩, fun _ _ => rfl, hm⟩, fun t u hu hall => ?_, fun t u hu _ => mv (hs.fr.2 t u hu), fun j o _ hlj => (hrep j hlj).elim, ?_⟩
    · have hnone : ∀ o ∈ ops.toList, o.dst ≠ some t := fun o ho hd => by
        obtain ⟨j, hj⟩ := List.getElem?_of_mem ho
        rw [Array.getElem?_toList] at hj
        exact hrep j (hall j o hj hd)
      have hne : d ≠ t := fun e => by
        subst e
        exact hnone oa (by rw [hsplit]; simp) hda
      rw [look_other _ _ hne, hother t (fun o ho => hnone o (by rw [hsplit]; exact List.mem_append_left _ ho))] at hu
      exact mv (hs.fr.2 t u hu)
    · rw [Array.getElem?_replicate, if_pos (by omega)]

theorem aw_drawB (hT : TOk P T) (hm' : P.follows .mixedOrders = true) {id : Nat} {s : St} {Q : Exit → St → Prop} {F0 : Fr} {HE : List ABlk} {oa os : Oper} {d : Tmp} {t : TypeId} {ti : TI} (n : Nat)
    (hssa : ssaOk ops = true) (htail : tailOk ops n = true) (hdrop : ops.toList.drop n = [oa, os]) (hoa : oa.op = .alloc t) (hti : T t = some ti) (hga : oa.guard = none) (hgs : os.guard = none) (hda : oa.dst = some d) (hds : os.dst = none) (hdF : Nat.blt d F0.n = true)
    (h1 : ∀ E, aQ P T ops (s.H ++ E) (ops.toList.take n) s.fr (fun fr => fr = F0)) (h2 : aopX P T (callK P) (evX ⟨F0.n, (d, .ref s.H.length 0) :: F0.l⟩) (s.H ++ [.cells t (zeroA ti)]) (fun _ H' => H' = HE) os.op)
    (h3 : Q .normal ⟨⟨F0.n, (d, .ref s.H.length 0) :: F0.l⟩, HE⟩) : AW P m (.region id ops true) s Q := by
  have hsz := (tail_ok htail).1
  have hl : (ops.toList.take n).length = n := by rw [List.length_take, Array.length_toList]; omega
  exact aw_drawA hT hm' (pre := ops.toList.take n) hssa (by rw [hl]; exact htail) (by rw [← hdrop, List.take_append_drop]) hoa hti hga hgs hda hds hdF h1 h2 h3

end
end Go.Proofs.Ytdncagppilehgaa.AL
