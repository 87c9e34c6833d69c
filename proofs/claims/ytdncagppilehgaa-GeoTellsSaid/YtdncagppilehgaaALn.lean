/- The abstract layer, part n: a region that draws its order and only reads comes to what it comes to in the text's order. -/
import Derived.Test.YtdncagppilehgaaALm2
namespace Go.Proofs.Ytdncagppilehgaa.AL
open Go Go.RowKit

def aQ (P : Program) (T : TTab) (ops : Array Oper) (H : List ABlk) : List Oper → Fr → (Fr → Prop) → Prop
  | [], fr, K => K fr
  | o :: r, fr, K => chk (dstOk fr.n o.dst) (guardA ops fr o.guard fun c fr => match c with
    | true => aopQX P T (evX fr) H (fun u => forceV u fun u => aQ P T ops H r (putA fr o.dst u) K) o.op
    | false => aQ P T ops H r (putA fr o.dst undA) K)

section
variable {P : Program} {T : TTab} {m : Nat} {ops : Array Oper} {H : List ABlk}

inductive QS (P : Program) (T : TTab) (ops : Array Oper) (H : List ABlk) : List Oper → Fr → Fr → Prop where
  | nil (fr) : QS P T ops H [] fr fr
  | run {o r fr0 fr F u} (hd : dstOk fr.n o.dst = true) (ha : Alike fr0 fr) (hg : guardIs ops fr0 o.guard true) (hu : aop P T (callK P) (evalA fr) H (fun r' H' => r' = u ∧ H' = H) o.op) (h : QS P T ops H r (putA fr o.dst u) F) : QS P T ops H (o :: r) fr0 F
  | skip {o r fr0 fr F} (hd : dstOk fr.n o.dst = true) (ha : Alike fr0 fr) (hg : guardIs ops fr0 o.guard false) (h : QS P T ops H r (putA fr o.dst undA) F) : QS P T ops H (o :: r) fr0 F

theorem aQ_steps : ∀ (l : List Oper) {fr : Fr} {K : Fr → Prop}, aQ P T ops H l fr K → ∃ F, QS P T ops H l fr F ∧ K F
  | [], fr, K, h => ⟨fr, .nil fr, h⟩
  | o :: r, fr, K, h => by
    obtain ⟨hd, h⟩ := chkE h
    obtain ⟨c, fr', h1, h2, h7⟩ := guard_abs h
    rw [← h7.1] at hd
    cases c with
    | true =>
      obtain ⟨u, h3, h4⟩ := aopQ_det (aopQX_ok h1)
      rw [forceV_eq] at h4
      obtain ⟨F, h5, h6⟩ := aQ_steps r h4
      exact ⟨F, .run hd h7 h2 h3 h5, h6⟩
    | false =>
      obtain ⟨F, h5, h6⟩ := aQ_steps r h1
      exact ⟨F, .skip hd h7 h2 h5, h6⟩

theorem putA_n (fr : Fr) (d : Option Tmp) (u : AV) : (putA fr d u).n = fr.n := by cases d <;> rfl
theorem putA_other {fr : Fr} {d : Option Tmp} {u : AV} {t : Nat} (h : d ≠ some t) : look (putA fr d u).l t = look fr.l t := by
  cases d with
  | none => rfl
  | some d => exact look_other u fr.l (fun e => h (by rw [e]))

theorem QS.length {l : List Oper} {fr F : Fr} (h : QS P T ops H l fr F) : F.n = fr.n := by
  induction h with
  | nil => rfl
  | run _ ha _ _ _ ih => rw [ih, putA_n, ha.1]
  | skip _ ha _ _ ih => rw [ih, putA_n, ha.1]

theorem QS.other {l : List Oper} {fr F : Fr} (h : QS P T ops H l fr F) {t : Nat} (ht : ∀ o ∈ l, o.dst ≠ some t) : look F.l t = look fr.l t := by
  induction h with
  | nil => rfl
  | run _ ha _ _ _ ih => rw [ih (fun o ho => ht o (List.mem_cons_of_mem _ ho)), putA_other (ht _ List.mem_cons_self), ha.2]
  | skip _ ha _ _ ih => rw [ih (fun o ho => ht o (List.mem_cons_of_mem _ ho)), putA_other (ht _ List.mem_cons_self), ha.2]

def tmpsOf (l : List Operand) : List Nat := l.filterMap fun | .tmp t => some t | _ => none
def readsOf (ops : Array Oper) (o : Oper) : List Nat := tmpsOf (opsL o.op) ++ (match o.guard with | some (j, _) => ((ops[j]?).bind (·.dst)).toList | none => [])

def ssaOk (ops : Array Oper) : Bool :=
  ops.toList.zipIdx.all fun (o, i) =>
    (o.after.toList.all fun e => !(Region.binds .any e) || Nat.blt e.on i) &&
    (ops.toList.zipIdx.all fun (o', j) => match o'.dst with
      | none => true
      | some d => (!((readsOf ops o).contains d) || (Nat.blt j i && o.after.toList.any fun e => Region.binds .any e && e.on == j) || i == j || (Nat.blt i j && o'.after.toList.any fun e => Region.binds .any e && e.on == i)) && (i == j || o.dst != some d))

theorem ssa_ok (h : ssaOk ops = true) {i : Nat} {o : Oper} (ho : ops[i]? = some o) :
    (∀ e ∈ o.after, Region.binds .any e = true → e.on < i) ∧
    (∀ (j : Nat) (o' : Oper) (d : Tmp), ops[j]? = some o' → o'.dst = some d → (d ∈ readsOf ops o → (j < i ∧ ∃ e ∈ o.after, Region.binds .any e = true ∧ e.on = j) ∨ (i ≤ j ∧ (i = j ∨ ∃ e ∈ o'.after, Region.binds .any e = true ∧ e.on = i))) ∧ (i ≠ j → o.dst ≠ some d)) := by
  have mem : ∀ {j : Nat} {o' : Oper}, ops[j]? = some o' → (o', j) ∈ ops.toList.zipIdx := fun {j o'} hj => by
    rw [List.mem_zipIdx_iff_getElem?, Array.getElem?_toList]; exact hj
  have h1 := List.all_eq_true.1 h _ (mem ho)
  simp only [Bool.and_eq_true] at h1
  obtain ⟨h1, h2⟩ := h1
  refine ⟨fun e he hb => ?_, fun j o' d hj hd => ?_⟩
  · have := List.all_eq_true.1 h1 e (by simpa using he)
    rw [hb] at this
    simpa [Nat.blt_eq] using this
  · have := List.all_eq_true.1 h2 _ (mem hj)
    simp only [hd, Bool.and_eq_true] at this
    obtain ⟨h3, h4⟩ := this
    refine ⟨fun hm => ?_, fun hne he => ?_⟩
    · rw [Bool.or_eq_true, Bool.or_eq_true, Bool.or_eq_true] at h3
      rcases h3 with ((h3 | h3) | h3) | h3
      · simp [hm] at h3
      · rw [Bool.and_eq_true] at h3
        obtain ⟨h5, h6⟩ := h3
        obtain ⟨e, he, hb⟩ := List.any_eq_true.1 h6
        rw [Bool.and_eq_true] at hb
        exact .inl ⟨by simpa [Nat.blt_eq] using h5, e, by simpa using he, hb.1, by simpa using hb.2⟩
      · have h3 : i = j := by simpa using h3
        exact .inr ⟨by omega, .inl h3⟩
      · rw [Bool.and_eq_true] at h3
        obtain ⟨h5, h6⟩ := h3
        obtain ⟨e, he, hb⟩ := List.any_eq_true.1 h6
        rw [Bool.and_eq_true] at hb
        have h5 : i < j := by simpa [Nat.blt_eq] using h5
        exact .inr ⟨by omega, .inr ⟨e, by simpa using he, hb.1, by simpa using hb.2⟩⟩
    · rw [Bool.or_eq_true] at h4
      rcases h4 with h4 | h4
      · simp at h4; exact hne h4
      · rw [he] at h4; simp at h4

theorem guardIs_alike {fr fr' : Fr} (h : Alike fr fr') {g : Option (Nat × Bool)} {c : Bool} (k : guardIs ops fr g c) : guardIs ops fr' g c := by
  unfold guardIs at k ⊢
  split at k
  · exact k
  · obtain ⟨d, g1, g2⟩ := k
    exact ⟨d, g1, by rw [h.2]; exact g2⟩

/-- What is known of each operation. -/
def Fact (P : Program) (T : TTab) (ops : Array Oper) (H : List ABlk) (F0 F : Fr) (i : Nat) (o : Oper) : Prop :=
  ∃ (fr : Fr) (c : Bool) (u : AV), fr.n = F.n ∧ dstOk F.n o.dst = true ∧ guardIs ops fr o.guard c ∧ (c = true → aop P T (callK P) (evalA fr) H (fun r' H' => r' = u ∧ H' = H) o.op) ∧ (c = false → u = undA) ∧
    (∀ t ∈ readsOf ops o, (look fr.l t = look F.l t ∧ ∀ (j : Nat) (o' : Oper), ops[j]? = some o' → o'.dst = some t → ∃ e ∈ o.after, Region.binds .any e = true ∧ e.on = j) ∨
      (look fr.l t = look F0.l t ∧ ∀ (j : Nat) (o' : Oper), ops[j]? = some o' → o'.dst = some t → i = j ∨ ∃ e ∈ o'.after, Region.binds .any e = true ∧ e.on = i)) ∧
    (∀ d x, o.dst = some d → look F.l d = some x → x = u)

theorem QS.facts (hssa : ssaOk ops = true) {F0 : Fr} : ∀ (l : List Oper) (k : Nat) {fr F : Fr}, (∀ (j : Nat) (o : Oper), l[j]? = some o → ops[k + j]? = some o) → (∀ t, (∀ (j : Nat) (o : Oper), ops[j]? = some o → o.dst = some t → k ≤ j) → look fr.l t = look F0.l t) → QS P T ops H l fr F → ∀ (j : Nat) (o : Oper), l[j]? = some o → Fact P T ops H F0 F (k + j) o
  | [], _, _, _, _, _, _, j, o, hj => by simp at hj
  | o :: r, k, fr, F, hl, hpre, h, j, o', hj => by
    have ho : ops[k]? = some o := hl 0 o rfl
    have hl' : ∀ (j : Nat) (o1 : Oper), r[j]? = some o1 → ops[k + 1 + j]? = some o1 := fun j o1 h1 => by have := hl (j + 1) o1 (by simpa using h1); rw [← this]; congr 1; omega
    have hd : ∀ d, o.dst = some d → ∀ o1 ∈ r, o1.dst ≠ some d := fun d hod o1 h1 hd1 => by
      obtain ⟨n, hn⟩ := List.getElem?_of_mem h1
      have hn := hl' n o1 hn
      exact ((ssa_ok hssa ho).2 _ _ _ hn hd1).2 (by omega) hod
    have hpre' : ∀ {fr1 : Fr} {u : AV}, Alike fr fr1 → ∀ t, (∀ (j : Nat) (o : Oper), ops[j]? = some o → o.dst = some t → k + 1 ≤ j) → look (putA fr1 o.dst u).l t = look F0.l t := fun {fr1 u} ha t ht => by
      rw [putA_other (fun e => by have := ht k o ho e; omega), ha.2]
      exact hpre t fun j o hj hd => by have := ht j o hj hd; omega
    cases j with
    | succ j =>
      rw [List.getElem?_cons_succ] at hj
      rw [show k + (j + 1) = k + 1 + j by omega]
      cases h with
      | run _ ha _ _ h => exact QS.facts hssa r (k + 1) hl' (hpre' ha) h j o' hj
      | skip _ ha _ h => exact QS.facts hssa r (k + 1) hl' (hpre' ha) h j o' hj
    | zero =>
      rw [List.getElem?_cons_zero] at hj
      obtain rfl := Option.some.inj hj
      have hn := h.length
      have put : ∀ {fr : Fr} {u : AV}, QS P T ops H r (putA fr o.dst u) F → ∀ d x, o.dst = some d → look F.l d = some x → x = u := fun {fr u} h2 d x hod hx => by
        rw [h2.other (hd d hod), hod] at hx
        simp only [putA] at hx
        rw [look_self] at hx
        exact (Option.some.inj hx).symm
      have hread : ∀ {fr1 : Fr}, Alike fr fr1 → ∀ t ∈ readsOf ops o, (look fr1.l t = look F.l t ∧ ∀ (j : Nat) (o' : Oper), ops[j]? = some o' → o'.dst = some t → ∃ e ∈ o.after, Region.binds .any e = true ∧ e.on = j) ∨
          (look fr1.l t = look F0.l t ∧ ∀ (j : Nat) (o' : Oper), ops[j]? = some o' → o'.dst = some t → k = j ∨ ∃ e ∈ o'.after, Region.binds .any e = true ∧ e.on = k) := fun {fr1} ha t ht => by
        by_cases hex : ∃ (j : Nat) (o' : Oper), ops[j]? = some o' ∧ o'.dst = some t ∧ j < k
        · obtain ⟨j0, o0, hj0, hd0, hlt⟩ := hex
          have huniq : ∀ (j : Nat) (o' : Oper), ops[j]? = some o' → o'.dst = some t → j = j0 := fun j o' hj hd' => by
            by_cases e : j = j0
            · exact e
            · exact absurd hd0 (((ssa_ok hssa hj0).2 j o' t hj hd').2 (by omega))
          refine .inl ⟨?_, fun j o' hj hd' => ?_⟩
          · rw [ha.2]
            refine (h.other fun o1 h1 hd1 => ?_).symm
            obtain ⟨n, hn⟩ := List.getElem?_of_mem h1
            have hn := hl n o1 hn
            have := huniq _ _ hn hd1
            omega
          · obtain rfl := huniq j o' hj hd'
            rcases ((ssa_ok hssa ho).2 _ _ _ hj hd').1 ht with h1 | h1
            · exact h1.2
            · omega
        · have hge : ∀ (j : Nat) (o' : Oper), ops[j]? = some o' → o'.dst = some t → k ≤ j := fun j o' hj hd' => Nat.le_of_not_lt fun hlt => hex ⟨j, o', hj, hd', hlt⟩
          refine .inr ⟨by rw [ha.2]; exact hpre t hge, fun j o' hj hd' => ?_⟩
          rcases ((ssa_ok hssa ho).2 _ _ _ hj hd').1 ht with h1 | h1
          · have := hge j o' hj hd'; omega
          · exact h1.2
      cases h with
      | @run _ _ _ fr1 _ u hdo ha hg hu h2 => exact ⟨fr1, true, _, ha.1.trans hn.symm, by rw [hn, ← ha.1]; exact hdo, guardIs_alike ha hg, fun _ => hu, fun h => absurd h (by simp), hread ha, put h2⟩
      | @skip _ _ _ fr1 _ hdo ha hg h2 => exact ⟨fr1, false, undA, ha.1.trans hn.symm, by rw [hn, ← ha.1]; exact hdo, guardIs_alike ha hg, fun h => absurd h (by simp), fun _ => rfl, hread ha, put h2⟩

def J (m : Nat) (ops : Array Oper) (Fz F : Fr) (H : List ABlk) (w0 : World) (I0 : Nat → Prop) (ι0 : Nat → Option Nat) (H0 : List ABlk) (listed : Array Bool) (a : Act) (w : World) : Prop :=
  ∃ I ι, a.tmps.size = F.n ∧ a.defers = [] ∧ SimH w I ι H ∧ Ex m w0 I0 ι0 H0 w I ι H ∧
    (∀ t u, look F.l t = some u → (∀ (j : Nat) (o : Oper), ops[j]? = some o → o.dst = some t → listed[j]? = some true) → ARep w I ι u (a.tmps.getD t undef)) ∧
    (∀ t u, look Fz.l t = some u → (∀ (j : Nat) (o : Oper), ops[j]? = some o → o.dst = some t → listed[j]? = some false) → ARep w I ι u (a.tmps.getD t undef)) ∧
    (∀ (j : Nat) (o : Oper), ops[j]? = some o → listed[j]? = some true → ∀ e ∈ o.after, Region.binds .any e = true → listed[e.on]? = some true)

theorem quiet_sound (hT : TOk P T) (hssa : ssaOk ops = true) {Fz F : Fr} {Q : Exit → Act → World → Prop} {w0 : World} {I0 : Nat → Prop} {ι0 : Nat → Option Nat} {H0 : List ABlk}
    (hfact : ∀ (i : Nat) (o : Oper), ops[i]? = some o → Fact P T ops H Fz F i o) (hQ : ∀ a w I ι, Sim w I ι ⟨F, H⟩ a → Ex m w0 I0 ι0 H0 w I ι H → Q .normal a w) :
    ∀ (fuel : Nat) (listed : Array Bool) (a : Act) (w : World), listed.size = ops.size → listed.toList.count true + fuel = ops.size → J m ops Fz F H w0 I0 ι0 H0 listed a w → wpAny P .any ops Q fuel listed a w := by
  intro fuel
  have hdone : ∀ (listed : Array Bool) (a : Act) (w : World), listed.size = ops.size → J m ops Fz F H w0 I0 ι0 H0 listed a w → Region.ready .any ops listed = [] → Q .normal a w := by
    intro listed a w hsz hJ hr
    obtain ⟨I, ι, h1, h2, h3, h4, h5, h6, h7⟩ := hJ
    have hall : ∀ i, i < ops.size → listed[i]? = some true := by
      intro i
      induction i using Nat.strongRecOn with
      | _ i ih =>
        intro hi
        cases hb : listed[i]? with
        | none => have := Array.getElem?_eq_none_iff.1 hb; omega
        | some b =>
          cases b with
          | true => rfl
          | false =>
            exfalso
            have hmem : i ∈ Region.ready .any ops listed := by
              unfold Region.ready
              rw [List.mem_filter]
              refine ⟨by simpa using hi, ?_⟩
              have ho : ops[i]? = some ops[i] := Array.getElem?_eq_getElem hi
              rw [ho]
              simp only [Option.map_some, Option.getD_some, Bool.and_eq_true]
              refine ⟨by rw [Array.getD_eq_getD_getElem?, hb]; rfl, ?_⟩
              rw [Array.all_eq_true']
              intro e he
              cases hbe : Region.binds .any e with
              | false => rfl
              | true =>
                have hlt := (ssa_ok hssa ho).1 e he hbe
                have := ih e.on hlt (by omega)
                rw [Array.getD_eq_getD_getElem?, this]; rfl
            rw [hr] at hmem
            simp at hmem
    refine hQ a w I ι ⟨⟨h1, fun t u hu => h5 t u hu (fun j o hj _ => hall j ?_)⟩, h3, h2⟩ h4
    exact (Array.getElem?_eq_some_iff.1 hj).1
  induction fuel with
  | zero =>
    intro listed a w hsz hcnt hJ
    have hr : Region.ready .any ops listed = [] := by
      have hall : ∀ b ∈ listed.toList, true = b := List.count_eq_length.1 (by rw [Array.length_toList]; omega)
      unfold Region.ready
      rw [List.filter_eq_nil_iff]
      intro i hi
      have hi : i < ops.size := by simpa using hi
      have hi' : i < listed.size := by omega
      have : listed[i] = true := (hall _ (by rw [Array.mem_toList_iff]; exact Array.getElem_mem hi')).symm
      simp [Array.getD_eq_getD_getElem?, hi', this]
    exact ⟨hr, hdone listed a w hsz hJ hr⟩
  | succ fuel ih =>
    intro listed a w hsz hcnt hJ
    refine ⟨hdone listed a w hsz hJ, fun i hi => ?_⟩
    unfold Region.ready at hi
    rw [List.mem_filter] at hi
    obtain ⟨hi1, hi2⟩ := hi
    have hi1 : i < ops.size := by simpa using hi1
    have ho : ops[i]? = some ops[i] := Array.getElem?_eq_getElem hi1
    generalize ops[i] = o at ho
    rw [ho] at hi2
    simp only [Option.map_some, Option.getD_some, Bool.and_eq_true] at hi2
    obtain ⟨hun, hed⟩ := hi2
    have hli : listed[i]? = some false := by
      rw [Array.getD_eq_getD_getElem?] at hun
      cases hb : listed[i]? with
      | none => have := Array.getElem?_eq_none_iff.1 hb; omega
      | some b => rw [hb] at hun; cases b with
        | false => rfl
        | true => simp at hun
    have hedge : ∀ e ∈ o.after, Region.binds .any e = true → listed[e.on]? = some true := by
      intro e he hb
      have := (Array.all_eq_true'.1 hed) e he
      rw [hb] at this
      rw [Array.getD_eq_getD_getElem?] at this
      cases hx : listed[e.on]? with
      | none => rw [hx] at this; simp at this
      | some b => rw [hx] at this; cases b with
        | true => rfl
        | false => simp at this
    obtain ⟨I, ι, h1, h2, h3, h4, h5, h6, h7⟩ := hJ
    obtain ⟨fr, c, u, f00, f0, f1, f2, f3, f4, f5⟩ := hfact i o ho
    -- the slots that it reads are ready
    have hread : ∀ t x, t ∈ readsOf ops o → look fr.l t = some x → ARep w I ι x (a.tmps.getD t undef) := by
      intro t x ht hx
      rcases f4 t ht with ⟨e1, e2⟩ | ⟨e1, e2⟩
      · refine h5 t x (by rw [← e1]; exact hx) (fun j o' hj hd => ?_)
        obtain ⟨e, he, hb, hon⟩ := e2 j o' hj hd
        rw [← hon]; exact hedge e he hb
      · refine h6 t x (by rw [← e1]; exact hx) (fun j o' hj hd => ?_)
        rcases e2 j o' hj hd with rfl | ⟨e, he, hb, hon⟩
        · exact hli
        · have hjl : j < listed.size := by rw [hsz]; exact (Array.getElem?_eq_some_iff.1 hj).1
          cases hb2 : listed[j]? with
          | none => have := Array.getElem?_eq_none_iff.1 hb2; omega
          | some b => cases b with
            | false => rfl
            | true =>
              have := h7 j o' hj hb2 e he hb
              rw [hon, hli] at this
              simp at this
    have hcnt' : (listed.setIfInBounds i true).toList.count true + fuel = ops.size := by
      have hlt : i < listed.toList.length := by rw [Array.length_toList]; omega
      have hget : listed.toList[i]? = some false := by rw [Array.getElem?_toList]; exact hli
      have : (listed.setIfInBounds i true).toList.count true = listed.toList.count true + 1 := by
        rw [Array.toList_setIfInBounds]
        have hdec : listed.toList = listed.toList.take i ++ false :: listed.toList.drop (i + 1) := by
          have := List.getElem?_eq_some_iff.1 hget
          obtain ⟨hlt', he⟩ := this
          rw [← he, List.getElem_cons_drop, List.take_append_drop]
        rw [List.set_eq_take_append_cons_drop, if_pos hlt]
        conv => rhs; rw [hdec]
        simp only [List.count_append, List.count_cons]
        simp
        omega
      omega
    have hsz' : (listed.setIfInBounds i true).size = ops.size := by simp [hsz]
    -- what the new state knows
    have step : ∀ (w' : World) (I' : Nat → Prop) (ι' : Nat → Option Nat) (v : Value), SimH w' I' ι' H → Ex H.length w I ι H w' I' ι' H → ARep w' I' ι' u v → J m ops Fz F H w0 I0 ι0 H0 (listed.setIfInBounds i true) (a.put o.dst v) w' := by
      intro w' I' ι' v hs' hx' hv
      have mv : ∀ {x : AV} {v : Value}, ARep w I ι x v → ARep w' I' ι' x v := fun hold => hold.move (hx'.ext.keepsI h3) hx'.ext.Isub (fun b B hb => by
        rw [hx'.keep b]; exact hb
        rcases Nat.lt_or_ge b H.length with h | h
        · exact h
        · rw [h3.dom b h] at hb; exact absurd hb (by simp)) hx'.ext.shape
      have e1 : ∀ t, o.dst ≠ some t → (a.put o.dst v).tmps.getD t undef = a.tmps.getD t undef := fun t hd => by
        cases hd' : o.dst with
        | none => rfl
        | some d =>
          simp only [Act.put]
          rw [Array.getD_eq_getD_getElem?, Array.getElem?_setIfInBounds_ne (by intro e; exact hd (by rw [hd', e])), ← Array.getD_eq_getD_getElem?]
      have hil : i < listed.size := by omega
      refine ⟨I', ι', ?_, by rw [put_defers]; exact h2, hs', h4.trans (hx'.less h4.len), fun t x hx hall => ?_, fun t x hx hall => ?_, fun j oj hj hlj e he hb => ?_⟩
      · cases hd : o.dst <;> simp [Act.put, h1]
      · by_cases hd : o.dst = some t
        · have := f5 t x hd hx
          subst this
          have hlt : t < a.tmps.size := by rw [hd] at f0; rw [h1]; simpa [dstOk, Nat.blt_eq] using f0
          rw [hd]
          simp only [Act.put]
          rw [Array.getD_eq_getD_getElem?, Array.getElem?_setIfInBounds_self_of_lt hlt]
          exact hv
        · have hold : ARep w I ι x (a.tmps.getD t undef) := by
            refine h5 t x hx (fun j o' hj hd' => ?_)
            have hne : j ≠ i := fun e => by
              subst e
              rw [ho] at hj
              obtain rfl := Option.some.inj hj
              exact hd hd'
            have := hall j o' hj hd'
            rw [Array.getElem?_setIfInBounds_ne (by omega)] at this
            exact this
          rw [e1 t hd]
          exact mv hold
      · have hd : o.dst ≠ some t := fun hd => by
          have := hall i o ho hd
          rw [Array.getElem?_setIfInBounds_self_of_lt hil] at this
          simp at this
        rw [e1 t hd]
        refine mv (h6 t x hx (fun j o' hj hd' => ?_))
        have := hall j o' hj hd'
        by_cases e : i = j
        · subst e; rw [Array.getElem?_setIfInBounds_self_of_lt hil] at this; simp at this
        · rw [Array.getElem?_setIfInBounds_ne e] at this; exact this
      · have up : ∀ n, listed[n]? = some true → (listed.setIfInBounds i true)[n]? = some true := fun n hn => by
          by_cases e : i = n
          · subst e; exact Array.getElem?_setIfInBounds_self_of_lt hil
          · rw [Array.getElem?_setIfInBounds_ne e]; exact hn
        by_cases e : i = j
        · subst e
          rw [ho] at hj; obtain rfl := Option.some.inj hj
          exact up _ (hedge _ he hb)
        · rw [Array.getElem?_setIfInBounds_ne e] at hlj
          exact up _ (h7 j oj hj hlj _ he hb)
    have hwant : Region.wanted o (yielded ops a.tmps) = c := by
      refine want_of (w := w) (I := I) (ι := ι) (fr := fr) (fun d b hdb hg => ?_) f1
      obtain ⟨j, want, hg, g1⟩ := hg
      have hdm : d ∈ readsOf ops o := by simp [readsOf, hg, g1]
      exact hread d _ hdm hdb
    unfold wpOp
    rw [ho]
    simp only
    rw [hwant]
    cases c with
    | false =>
      rw [if_neg (by simp)]
      have hu := f3 rfl
      subst hu
      exact ih _ _ _ hsz' hcnt' (step w I ι undef h3 (Ex.refl (Nat.le_refl _)) (.tup [] #[] rfl (fun i u h => by simp at h)))
    | true =>
      rw [if_pos rfl]
      refine .inl (aop_sound hT h3 (fun x hx => ?_) (f2 rfl) ?_)
      · cases x with
        | tmp t =>
          have ht : t ∈ readsOf ops o := by
            unfold readsOf tmpsOf
            exact List.mem_append_left _ (List.mem_filterMap.2 ⟨.tmp t, hx, rfl⟩)
          show ARep w I ι ((look fr.l t).getD .top) (a.tmps.getD t undef)
          cases hF : look fr.l t with
          | none => exact .top _
          | some x => exact hread t x ht hF
        | const v => exact const_ok v
        | global g => exact .top _
        | func f => exact .clo (.func f) [] #[] rfl (fun i u h => by simp at h)
      · rintro v w' r' H' I' ι' ⟨rfl, rfl⟩ hr hs' hx'
        exact ih _ _ _ hsz' hcnt' (step w' I' ι' v hs' hx' hr)

theorem aw_quiet (hT : TOk P T) (hm' : P.follows .mixedOrders = true) {id : Nat} {s : St} {Q : Exit → St → Prop} (hssa : ssaOk ops = true) (h : aQ P T ops s.H ops.toList s.fr (fun fr => Q .normal ⟨fr, s.H⟩)) : AW P m (.region id ops true) s Q := fun w I ι a hs hm => by
  obtain ⟨F, h1, h2⟩ := aQ_steps ops.toList h
  have hlen := h1.length
  have hdst : ∀ t, (∀ o ∈ ops.toList, o.dst ≠ some t) → look F.l t = look s.fr.l t := fun t ht => h1.other ht
  refine wp_region_any hm' (quiet_sound (m := m) (Fz := s.fr) (F := F) (H := s.H) (w0 := w) (I0 := I) (ι0 := ι) (H0 := s.H) hT hssa (fun i o ho => by
    have := QS.facts hssa (F0 := s.fr) ops.toList 0 (fun j o h => by rw [Nat.zero_add, ← Array.getElem?_toList]; exact h) (fun _ _ => rfl) h1 i o (by rw [Array.getElem?_toList]; exact ho)
    rw [Nat.zero_add] at this; exact this) ?_ _ _ _ _ (by simp) (by simp [List.count_replicate]) ?_)
  · intro a' w' I' ι' hs' hx'
    exact ⟨⟨F, s.H⟩, I', ι', h2, hs', hx'⟩
  · have hsh : Shape w w.drew := fun B cs t fr h => ⟨cs, h, rfl⟩
    have mv : ∀ {x : AV} {v : Value}, ARep w I ι x v → ARep w.drew I ι x v := fun h => h.move (w := w) (w' := w.drew) (fun _ _ => rfl) (fun _ h => h) (fun _ _ h => h) hsh
    have hs2 : SimH w.drew I ι s.H := ⟨fun b k hb => by
      have := hs.H.blk b k hb
      cases k with
      | dead => trivial
      | cells t l => obtain ⟨B, cs, g1, g2, g3, g4, g5⟩ := this; exact ⟨B, cs, g1, g2, g3, g4, fun i u hu => mv (g5 i u hu)⟩
      | row t sz xs =>
        rcases this with g0 | ⟨B, cs, g1, g2, g3, g4, g5, g6⟩
        · exact .inl g0
        · exact .inr ⟨B, cs, g1, g2, g3, g4, g5, fun j e hj => ⟨(g6 j e hj).1, fun i u hu => ((g6 j e hj).2 i u hu).move (w := w) (w' := w.drew) (fun _ _ => rfl) (fun _ h => h)⟩⟩, hs.H.inj, hs.H.Ilt, hs.H.dom, hs.H.rng⟩
    refine ⟨I, ι, by rw [hs.fr.1, hlen], hs.d, hs2, ⟨⟨rfl, rfl, rfl, Nat.le_refl _, hsh, fun _ h => h, fun _ _ _ => rfl, fun _ h => .inl h, fun b B hb h => .inr ⟨b, hb, h⟩⟩, fun _ _ => rfl, hm⟩, fun t u hu hall => ?_, fun t u hu _ => mv (hs.fr.2 t u hu), fun j o _ hlj => ?_⟩
    rotate_left
    · rw [Array.getElem?_replicate] at hlj
      split at hlj <;> simp at hlj
    have hnone : ∀ o ∈ ops.toList, o.dst ≠ some t := fun o ho hd => by
      obtain ⟨j, hj⟩ := List.getElem?_of_mem ho
      rw [Array.getElem?_toList] at hj
      have := hall j o hj hd
      rw [Array.getElem?_replicate] at this
      split at this <;> simp at this
    rw [hdst t hnone] at hu
    exact mv (hs.fr.2 t u hu)

end
end Go.Proofs.Ytdncagppilehgaa.AL
