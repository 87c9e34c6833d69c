/- The abstract layer (second make), part n: a region that draws its order comes to what it comes to in the text's order. -/
import Derived.Test.YtolefphdldmlkaaBLm
namespace Go.Proofs.Ytolefphdldmlkaa.AL
open Go Go.RowKit

def Pure (r : AV) (H : List ABlk) : AV → List ABlk → Prop := fun r' H' => r' = r ∧ H' = H

def memB : List Nat → Nat → Bool
  | [], _ => false
  | p :: r, b => match Nat.beq p b with
    | true => true
    | false => memB r b
def nodupB : List Nat → Bool
  | [] => true
  | p :: r => !memB r p && nodupB r
theorem memB_iff : ∀ {ps : List Nat} {b : Nat}, memB ps b = true ↔ b ∈ ps
  | [], b => by simp [memB]
  | p :: r, b => by
    unfold memB
    cases e : Nat.beq p b with
    | true => have := Nat.eq_of_beq_eq_true e; simp [this]
    | false =>
      have hne : p ≠ b := fun h => by subst h; simp at e
      simp only [List.mem_cons]
      rw [memB_iff]
      constructor
      · exact .inr
      · rintro (h | h)
        · exact absurd h.symm hne
        · exact h
theorem nodup_of : ∀ {ps : List Nat}, nodupB ps = true → ps.Nodup
  | [], _ => List.nodup_nil
  | p :: r, h => by
    simp only [nodupB, Bool.and_eq_true, Bool.not_eq_true'] at h
    rw [List.nodup_cons]
    refine ⟨fun hm => ?_, nodup_of h.2⟩
    rw [memB_iff.2 hm] at h
    simp at h

/-! Calls of one answer, and such as leave the blocks. -/
def callD (P : Program) (f : FuncId) (args : List AV) (H : List ABlk) (K : AV → List ABlk → Prop) : Prop := ∃ r H', AF P f args H (Pure r H') ∧ K r H'
def callQ (P : Program) (f : FuncId) (args : List AV) (H : List ABlk) (K : AV → List ABlk → Prop) : Prop := ∃ r, AF P f args H (Pure r H) ∧ K r H
def noY : Nat → List AV → List ABlk → (AV → List ABlk → Prop) → Prop := fun _ _ _ _ => False
def callDA (P : Program) : CallA := ⟨callD P, noY⟩
def callQA (P : Program) : CallA := ⟨callQ P, noY⟩

section
variable {P : Program} {T : TTab}

theorem detD : DetC (callDA P) :=
  ⟨fun f args H K hk => by
    obtain ⟨r, H', h1, h2⟩ := hk
    exact ⟨(r, H'), fun K' hk' => ⟨r, H', h1, hk'⟩, h2⟩, fun _ _ _ K hk => hk.elim⟩
theorem detQ : DetC (callQA P) :=
  ⟨fun f args H K hk => by
    obtain ⟨r, h1, h2⟩ := hk
    exact ⟨(r, H), fun K' hk' => ⟨r, h1, hk'⟩, h2⟩, fun _ _ _ K hk => hk.elim⟩

theorem opV_calls {C C' : CallA} (hf : ∀ f args H K, C.fn f args H K → C'.fn f args H K) (hy : ∀ b args H K, C.yld b args H K → C'.yld b args H K) {H : List ABlk} {K : AV → List ABlk → Prop} {o : Op} {us : List AV}
    (h : opV P T C H K o us) : opV P T C' H K o us := by
  cases o <;> try exact h
  case call c =>
    simp only [opV] at h ⊢
    split at h
    · cases us with
      | nil => exact h
      | cons f r =>
        simp only [onC, calleeK] at h ⊢
        split at h
        · exact hf _ _ _ _ h
        · exact hf _ _ _ _ h
        · exact hy _ _ _ _ h
        · exact hf _ _ _ _ h
        · exact h
    · exact h
    · exact h

theorem aop_D {ev : Operand → AV} {H : List ABlk} {K : AV → List ABlk → Prop} {o : Op} (h : aop P T (callDA P) ev H K o) : aop P T (callA P) ev H K o :=
  opV_calls (C := callDA P) (C' := callA P) (fun f args H K h => by obtain ⟨r, H', h1, h2⟩ := h; exact ⟨_, h1, by rintro _ _ ⟨rfl, rfl⟩; exact h2⟩) (fun b args H K h => False.elim h) h
theorem aop_Q {ev : Operand → AV} {H : List ABlk} {K : AV → List ABlk → Prop} {o : Op} (h : aop P T (callQA P) ev H K o) : aop P T (callA P) ev H K o :=
  opV_calls (C := callQA P) (C' := callA P) (fun f args H K h => by obtain ⟨r, h1, h2⟩ := h; exact ⟨_, h1, by rintro _ _ ⟨rfl, rfl⟩; exact h2⟩) (fun b args H K h => False.elim h) h

def quietK : Op → Bool
  | .move _ | .assign _ | .pick .. | .build .. | .load .. | .binOp .. | .unOp .. | .convert .. | .makeFunc .. | .slice .. | .fieldAddr .. | .field .. | .indexAddr .. | .index .. | .extract .. | .nilCheck _ | .lookup .. => true
  | .call c => match c.callee with
    | .value _ => true
    | .builtin b => match b with | .len | .max | .min => true | _ => false
    | _ => false
  | _ => false
def freshK : Op → Bool
  | .makeSlice .. | .buildSlice .. | .box .. | .alloc _ => true
  | _ => false
/-- What it does hangs on no block. -/
def hfree : Op → Bool
  | .move _ | .assign _ | .pick .. | .build .. | .binOp .. | .unOp .. | .makeFunc .. | .slice .. | .fieldAddr .. | .field .. | .indexAddr .. | .index .. | .extract .. | .nilCheck _ => true
  | .call c => match c.callee with
    | .builtin b => match b with | .len | .max | .min => true | _ => false
    | _ => false
  | _ => false

theorem hfree_eq {C : CallA} {H H2 : List ABlk} {K : AV → List ABlk → Prop} {o : Op} {us : List AV} (ho : hfree o = true) : opV P T C H K o us = opV P T C H2 (fun u _ => K u H) o us := by
  cases o <;> simp only [hfree, Bool.false_eq_true] at ho <;> try rfl
  case call c =>
    obtain ⟨cal, args, ts⟩ := c
    cases cal with
    | value f => simp at ho
    | invoke r m => simp at ho
    | builtin b =>
      simp only [opV]
      generalize ts.toList = tl
      cases b <;> simp at ho
      all_goals
        match us, tl with
        | [], _ => rfl
        | [x], [] => rfl
        | [x], [t] => rfl
        | [x], t :: t' :: r => rfl
        | [x, y], _ => rfl
        | x :: y :: z :: r, _ => rfl

theorem det_val {α : Type} {F : (α → Prop) → Prop} (hd : Det F) {K : α → Prop} (h : F K) : ∃ x, K x := by
  obtain ⟨x, _, hx⟩ := hd K h
  exact ⟨x, hx⟩

theorem opV_quiet_at {H : List ABlk} {K : AV → List ABlk → Prop} {o : Op} {us : List AV} (hd : detK o = true) (ho : quietK o = true) (h : opV P T (callQA P) H K o us) : ∃ r, K r H := by
  by_cases hf : hfree o = true
  · rw [hfree_eq (H2 := []) hf] at h
    obtain ⟨x, hx⟩ := det_val (det_opV (P := P) (T := T) detQ [] o us hd) (K := fun x => K x.1 H) h
    exact ⟨x.1, hx⟩
  · cases o <;> simp [hfree] at hf <;> simp [quietK] at ho
    case load t x =>
      obtain ⟨us, hk⟩ := det_val (det_on1 us (fun a => det_opt (T t) fun ti _ => det_chk (isRowTD ti.d || ti.size == 1) fun _ => det_map (det_load H a ti.size) (mkVal ti.d))) (K := fun u => K u H) h
      exact ⟨_, hk⟩
    case convert s d x =>
      simp only [opV, on1] at h
      split at h
      · obtain ⟨s, _, h⟩ := optE h
        obtain ⟨d, _, h⟩ := optE h
        unfold convK at h
        split at h
        · exact ⟨_, h⟩
        · obtain ⟨ei, _, h⟩ := optE h
          split at h
          · obtain ⟨_, h⟩ := chkE h
            obtain ⟨ys, _, bs, _, h⟩ := optE h
            exact ⟨_, h⟩
          · exact h.elim
        · exact h.elim
      · exact h.elim
    case lookup t m k ok =>
      simp only [opV, on2] at h
      split at h
      · obtain ⟨x, hx⟩ := det_val (det_mapGet _ _ _ _ _ _ _) h
        exact ⟨_, hx⟩
      · exact h.elim
    case call c =>
      simp only [opV] at h
      split at h
      · unfold onC at h
        split at h
        · unfold calleeK at h
          split at h
          · obtain ⟨r, _, h⟩ := h; exact ⟨r, h⟩
          · obtain ⟨r, _, h⟩ := h; exact ⟨r, h⟩
          · exact h.elim
          · obtain ⟨r, _, h⟩ := h; exact ⟨r, h⟩
          · exact h.elim
        · exact h.elim
      · rename_i b hb
        simp only [hb] at ho hf
        cases b <;> simp at ho hf
      · exact h.elim

theorem opV_fresh_at {C : CallA} {H : List ABlk} {K : AV → List ABlk → Prop} {o : Op} {us : List AV} (ho : freshK o = true) (h : opV P T C H K o us) : ∃ r blk, K r (H ++ [blk]) := by
  cases o <;> simp [freshK] at ho
  case alloc t =>
    obtain ⟨ti, _, h⟩ := optE h
    exact ⟨_, _, h⟩
  case box t x =>
    simp only [opV, on1] at h
    split at h
    · obtain ⟨l, _, h⟩ := optE h
      exact ⟨_, _, h⟩
    · exact h.elim
  case buildSlice t n ps =>
    simp only [opV] at h
    obtain ⟨ti, _, h⟩ := optE h
    split at h
    · obtain ⟨ei, _, h⟩ := optE h
      obtain ⟨_, h⟩ := chkE h
      obtain ⟨l, _, h⟩ := optE h
      exact ⟨_, _, h⟩
    · exact h.elim
  case makeSlice t l c =>
    simp only [opV, on2] at h
    split at h
    · obtain ⟨ti, _, h⟩ := optE h
      split at h
      · obtain ⟨ei, _, h⟩ := optE h
        obtain ⟨_, h⟩ := chkE h
        split at h
        · exact ⟨_, _, h.2⟩
        · exact h.elim
      · exact h.elim
    · exact h.elim

theorem det_frz (n : Nat) (H : List ABlk) (u : AV) : Det fun K : AV × List ABlk → Prop => frzK n H u fun u H' => K (u, H') := by
  intro K hk
  unfold frzK at hk ⊢
  split at hk
  · split at hk
    · exact det_chk _ (fun _ => det_and _ (det_here _)) K hk
    · exact hk.elim
  · split at hk
    · exact det_chk _ (fun _ => det_opt _ fun _ _ => det_here _) K hk
    · exact hk.elim
  · exact hk.elim

theorem frz_blocks {n : Nat} {H : List ABlk} {u : AV} {K : AV → List ABlk → Prop} (h : frzK n H u K) : ∃ u', K u' (H.take (H.length - 1)) := by
  unfold frzK at h
  split at h
  · split at h
    · obtain ⟨c, _, h⟩ := chkE h
      simp only [Bool.and_eq_true, Nat.beq_eq] at c
      rw [← c.1.1.1, Nat.add_sub_cancel]
      exact ⟨_, h⟩
    · exact h.elim
  · split at h
    · obtain ⟨c, h⟩ := chkE h
      obtain ⟨ps, _, h⟩ := optE h
      simp only [Bool.and_eq_true, Nat.beq_eq] at c
      rw [← c.1.1, Nat.add_sub_cancel]
      exact ⟨_, h⟩
    · exact h.elim
  · exact h.elim

/-- What an operation does, wherever it stands: from blocks H to a value and to blocks H'. -/
def Does (P : Program) (o : Oper) (ev : Operand → AV) (H : List ABlk) (u : AV) (H' : List ABlk) : Prop :=
  ∀ {ro : Option Nat} {w : World} {I : Nat → Prop} {ι : Nat → Option Nat} {a : Act} {next : Act → World → Prop} {Q : Exit → Act → World → Prop}, SimH w I ι H → (∀ x ∈ opsL o.op, ARep w I ι (ev x) (a.eval x)) →
    Nx w I ι H (fun r' H2 => r' = u ∧ H2 = H') (fun v w' => next (a.put o.dst v) w') → o.wpIn (fen ro) 0 P a w next Q

theorem does_of {o : Oper} {ev : Operand → AV} {H H' : List ABlk} {u : AV} (hT : TOk P T) (h : aop P T (callA P) ev H (fun r' H2 => r' = u ∧ H2 = H') o.op) : Does P o ev H u H' :=
  fun hs hx hn => aop_sound hT hs hx h hn

theorem does_frz {o : Oper} {ev : Operand → AV} {H H' : List ABlk} {u : AV} (hT : TOk P T) (h : aop P T (callA P) ev H (fun r' H2 => frzK H.length H2 r' fun r2 H3 => r2 = u ∧ H3 = H') o.op) : Does P o ev H u H' :=
  fun hs hx hn => aop_sound hT hs hx h (fun v w' r H2 I' ι' hK hr hs' hx' => by
    obtain ⟨u2, H3, I2, ι2, hK, hr2, hs2, hx2⟩ := frz_ok hs' hr hK
    exact hn v w' u2 H3 I2 ι2 hK hr2 hs2 (hx'.trans hx2))

theorem effect_step {ev : Operand → AV} {H : List ABlk} {K : AV → List ABlk → Prop} {o : Oper} (hT : TOk P T) (hd : detK o.op = true) (h : aop P T (callDA P) ev H K o.op) : ∃ u H', Does P o ev H u H' ∧ K u H' := by
  obtain ⟨x, h1, h2⟩ := det_opV (P := P) (T := T) detD H o.op _ hd (fun x => K x.1 x.2) h
  exact ⟨x.1, x.2, does_of hT (aop_D (h1 (fun y => y.1 = x.1 ∧ y.2 = x.2) ⟨rfl, rfl⟩)), h2⟩
theorem effect_frz {ev : Operand → AV} {H : List ABlk} {K : AV → List ABlk → Prop} {o : Oper} (hT : TOk P T) (hd : detK o.op = true) (h : aop P T (callDA P) ev H (fun u H' => frzK H.length H' u K) o.op) : ∃ u H', Does P o ev H u H' ∧ K u H' := by
  obtain ⟨x, h1, h2⟩ := det_opV (P := P) (T := T) detD H o.op _ hd (fun x => frzK H.length x.2 x.1 K) h
  obtain ⟨y, h3, h4⟩ := det_frz _ _ _ (fun y => K y.1 y.2) h2
  exact ⟨y.1, y.2, does_frz hT (aop_D (h1 (fun x => frzK H.length x.2 x.1 fun r2 H3 => r2 = y.1 ∧ H3 = y.2) (h3 (fun z => z.1 = y.1 ∧ z.2 = y.2) ⟨rfl, rfl⟩))), h4⟩
theorem quiet_step {ev : Operand → AV} {H : List ABlk} {K : AV → Prop} {o : Oper} (hT : TOk P T) (hd : detK o.op = true) (ho : quietK o.op = true) (h : aop P T (callQA P) ev H (fun u _ => K u) o.op) : ∃ u, Does P o ev H u H ∧ K u := by
  obtain ⟨x, h1, h2⟩ := det_opV (P := P) (T := T) detQ H o.op _ hd (fun x => K x.1) h
  have h3 := h1 (fun y => y.1 = x.1 ∧ y.2 = x.2) ⟨rfl, rfl⟩
  obtain ⟨r, _, h4⟩ := opV_quiet_at hd ho h3
  have h4 : H = x.2 := h4
  rw [← h4] at h3
  exact ⟨x.1, does_of hT (aop_Q h3), h2⟩
theorem quiet_frz {ev : Operand → AV} {H : List ABlk} {K : AV → Prop} {o : Oper} (hT : TOk P T) (hd : detK o.op = true) (ho : freshK o.op = true) (h : aop P T (callQA P) ev H (fun u H' => frzK H.length H' u fun u _ => K u) o.op) : ∃ u, Does P o ev H u H ∧ K u := by
  obtain ⟨x, h1, h2⟩ := det_opV (P := P) (T := T) detQ H o.op _ hd (fun x => frzK H.length x.2 x.1 fun u _ => K u) h
  obtain ⟨y, h3, h4⟩ := det_frz _ _ _ (fun y => K y.1) h2
  obtain ⟨r, blk, _, h5⟩ := opV_fresh_at ho (h1 (fun y => y.1 = x.1 ∧ y.2 = x.2) ⟨rfl, rfl⟩)
  have h5 : H ++ [blk] = x.2 := h5
  have h6 := h3 (fun z => z.1 = y.1 ∧ z.2 = y.2) ⟨rfl, rfl⟩
  obtain ⟨_, _, h7⟩ := frz_blocks h6
  have h7 : x.2.take (x.2.length - 1) = y.2 := h7
  have h8 : y.2 = H := by rw [← h7, ← h5]; simp
  rw [h8] at h6
  exact ⟨y.1, does_frz hT (aop_Q (h1 (fun x => frzK H.length x.2 x.1 fun r2 H3 => r2 = y.1 ∧ H3 = H) h6)), h4⟩
theorem free_step {C : CallA} {ev : Operand → AV} {H : List ABlk} {K : AV → Prop} {o : Oper} (hT : TOk P T) (hd : detK o.op = true) (hC : C = callQA P) (ho : hfree o.op = true) (h : aop P T C ev H (fun u _ => K u) o.op) : ∃ u, (∀ H2, Does P o ev H2 u H2) ∧ K u := by
  subst hC
  obtain ⟨x, h1, h2⟩ := det_opV (P := P) (T := T) detQ H o.op _ hd (fun x => K x.1) h
  refine ⟨x.1, fun H2 => does_of hT (aop_Q ?_), h2⟩
  have h3 := h1 (fun y => y.1 = x.1) rfl
  unfold aop
  rw [hfree_eq (H2 := H) ho]
  exact (show (fun (u : AV) (_ : List ABlk) => u = x.1 ∧ H2 = H2) = (fun u _ => u = x.1) by funext u _; simp) ▸ h3

/-! The order that the edges ask. -/
def maskOf (acc : List Nat) : List Edge → Nat → Nat
  | [], s => s
  | e :: r, s => match Region.binds .any e with
    | true => maskOf acc r ((s ||| 2 ^ e.on) ||| acc.getD e.on 0)
    | false => maskOf acc r s
def ancGo : List Oper → List Nat → List Nat
  | [], acc => acc
  | o :: r, acc => ancGo r (acc ++ [maskOf acc o.after.toList 0])
def anc (ops : Array Oper) : List Nat := ancGo ops.toList []

theorem maskOf_bit {acc : List Nat} : ∀ {es : List Edge} {s j : Nat}, (maskOf acc es s).testBit j = true → s.testBit j = true ∨ ∃ e ∈ es, Region.binds .any e = true ∧ (j = e.on ∨ (acc.getD e.on 0).testBit j = true)
  | [], s, j, h => .inl h
  | e :: r, s, j, h => by
    simp only [maskOf] at h
    cases hb : Region.binds .any e with
    | false =>
      rw [hb] at h
      rcases maskOf_bit h with h | ⟨e', he', h⟩
      · exact .inl h
      · exact .inr ⟨e', List.mem_cons_of_mem _ he', h⟩
    | true =>
      rw [hb] at h
      rcases maskOf_bit h with h | ⟨e', he', h⟩
      · rw [Nat.testBit_or, Nat.testBit_or, Bool.or_eq_true, Bool.or_eq_true] at h
        rcases h with (h | h) | h
        · exact .inl h
        · rw [Nat.testBit_two_pow] at h
          have h : e.on = j := by simpa using h
          exact .inr ⟨e, List.mem_cons_self, hb, .inl h.symm⟩
        · exact .inr ⟨e, List.mem_cons_self, hb, .inr h⟩
      · exact .inr ⟨e', List.mem_cons_of_mem _ he', h⟩

/-- S: a set of operations that is closed downwards. -/
def DownS (ops : Array Oper) (S : Nat → Prop) : Prop := ∀ (i : Nat) (o : Oper), ops[i]? = some o → S i → ∀ e ∈ o.after, Region.binds .any e = true → S e.on

theorem ancGo_ok {ops : Array Oper} {S : Nat → Prop} (hS : DownS ops S) : ∀ {l : List Oper} {acc : List Nat}, (∀ (j : Nat) (o : Oper), l[j]? = some o → ops[acc.length + j]? = some o) → (∀ i j, (acc.getD i 0).testBit j = true → S i → S j) →
    ∀ i j, ((ancGo l acc).getD i 0).testBit j = true → S i → S j
  | [], acc, _, h => h
  | o :: r, acc, hl, h => by
    simp only [ancGo]
    refine ancGo_ok hS (fun j o' hj => ?_) (fun i j hb hi => ?_)
    · have := hl (j + 1) o' (by simpa using hj)
      rw [List.length_append, List.length_singleton, Nat.add_assoc, Nat.add_comm 1 j]; exact this
    · rw [List.getD_eq_getElem?_getD] at hb
      rcases Nat.lt_trichotomy i acc.length with hlt | heq | hgt
      · rw [List.getElem?_append_left hlt, ← List.getD_eq_getElem?_getD] at hb
        exact h i j hb hi
      · subst heq
        rw [getElem?_append_len] at hb
        rcases maskOf_bit hb with hb | ⟨e, he, hbe, hj⟩
        · simp at hb
        · have ho := hl 0 o (by simp)
          have hse := hS _ o ho hi e (by simpa using he) hbe
          rcases hj with rfl | hj
          · exact hse
          · exact h _ _ hj hse
      · rw [List.getElem?_eq_none (by simp; omega)] at hb
        simp at hb

theorem anc_ok {ops : Array Oper} {S : Nat → Prop} (hS : DownS ops S) {i j : Nat} (h : ((anc ops).getD i 0).testBit j = true) (hi : S i) : S j :=
  ancGo_ok hS (acc := []) (fun j o hj => by simpa [← Array.getElem?_toList] using hj) (fun i j h => by simp at h) i j h hi

theorem putA_n (fr : Fr) (d : Option Tmp) (u : AV) : (putA fr d u).n = fr.n := by cases d <;> rfl
theorem putA_other {fr : Fr} {d : Option Tmp} {u : AV} {t : Nat} (h : d ≠ some t) : look (putA fr d u).l t = look fr.l t := by
  cases d with
  | none => rfl
  | some d => exact look_other u fr.l (fun e => h (by rw [e]))

section
variable {ops : Array Oper}
def tmpsOf (l : List Operand) : List Nat := l.filterMap fun | .tmp t => some t | _ => none
def readsOf (ops : Array Oper) (o : Oper) : List Nat := tmpsOf (opsL o.op) ++ (match o.guard with | some (j, _) => ((ops[j]?).bind (·.dst)).toList | none => [])

def ssaOk (ops : Array Oper) : Bool :=
  ops.toList.zipIdx.all fun (o, i) =>
    (o.after.toList.all fun e => !(Region.binds .any e) || Nat.blt e.on i) &&
    (ops.toList.zipIdx.all fun (o', j) => match o'.dst with
      | none => true
      | some d => (!((readsOf ops o).contains d) || (Nat.blt j i && o.after.toList.any fun e => Region.binds .any e && e.on == j) || i == j || (Nat.blt i j && o'.after.toList.any fun e => Region.binds .any e && e.on == i)) && (i == j || o.dst != some d))

theorem ssa_ok (h : ssaOk ops = true) {i : Nat} {o : Oper} (ho : ops[i]? = some o) :
    (∀ e ∈ o.after, Region.binds .any e = true → e.on < i) ∧
    (∀ (j : Nat) (o' : Oper) (d : Tmp), ops[j]? = some o' → o'.dst = some d → (d ∈ readsOf ops o → (j < i ∧ ∃ e ∈ o.after, Region.binds .any e = true ∧ e.on = j) ∨ (i ≤ j ∧ (i = j ∨ ∃ e ∈ o'.after, Region.binds .any e = true ∧ e.on = i))) ∧ (i ≠ j → o.dst ≠ some d)) := by
  have mem : ∀ {j : Nat} {o' : Oper}, ops[j]? = some o' → (o', j) ∈ ops.toList.zipIdx := fun {j o'} hj => by
    rw [List.mem_zipIdx_iff_getElem?, Array.getElem?_toList]; exact hj
  have h1 := List.all_eq_true.1 h _ (mem ho)
  simp only [Bool.and_eq_true] at h1
  obtain ⟨h1, h2⟩ := h1
  refine ⟨fun e he hb => ?_, fun j o' d hj hd => ?_⟩
  · have := List.all_eq_true.1 h1 e (by simpa using he)
    rw [hb] at this
    simpa [Nat.blt_eq] using this
  · have := List.all_eq_true.1 h2 _ (mem hj)
    simp only [hd, Bool.and_eq_true] at this
    obtain ⟨h3, h4⟩ := this
    refine ⟨fun hm => ?_, fun hne he => ?_⟩
    · rw [Bool.or_eq_true, Bool.or_eq_true, Bool.or_eq_true] at h3
      rcases h3 with ((h3 | h3) | h3) | h3
      · simp [hm] at h3
      · rw [Bool.and_eq_true] at h3
        obtain ⟨h5, h6⟩ := h3
        obtain ⟨e, he, hb⟩ := List.any_eq_true.1 h6
        rw [Bool.and_eq_true] at hb
        exact .inl ⟨by simpa [Nat.blt_eq] using h5, e, by simpa using he, hb.1, by simpa using hb.2⟩
      · have h3 : i = j := by simpa using h3
        exact .inr ⟨by omega, .inl h3⟩
      · rw [Bool.and_eq_true] at h3
        obtain ⟨h5, h6⟩ := h3
        obtain ⟨e, he, hb⟩ := List.any_eq_true.1 h6
        rw [Bool.and_eq_true] at hb
        have h5 : i < j := by simpa [Nat.blt_eq] using h5
        exact .inr ⟨by omega, .inr ⟨e, by simpa using he, hb.1, by simpa using hb.2⟩⟩
    · rw [Bool.or_eq_true] at h4
      rcases h4 with h4 | h4
      · simp at h4; exact hne h4
      · rw [he] at h4; simp at h4

theorem guardIs_alike {fr fr' : Fr} (h : Alike fr fr') {g : Option (Nat × Bool)} {c : Bool} (k : guardIs ops fr g c) : guardIs ops fr' g c := by
  unfold guardIs at k ⊢
  split at k
  · exact k
  · obtain ⟨d, g1, g2⟩ := k
    exact ⟨d, g1, by rw [h.2]; exact g2⟩


end
/-! The walk in the text's order. ef: the operations that turn the blocks, one behind the other. -/
def chainOk (an : List Nat) : List Nat → Bool
  | [] => true
  | a :: r => match r with
    | [] => true
    | b :: _ => (an.getD b 0).testBit a && chainOk an r
/-- May the i-th operation come when j of these have come? -/
def winB (an : List Nat) (i j : Nat) : List Nat → Nat → Bool
  | [], _ => true
  | e :: r, q => (!((an.getD i 0).testBit e) || Nat.blt q j) && (!((an.getD e 0).testBit i) || Nat.ble j q) && winB an i j r (q + 1)

def obJ (an : List Nat) (ef : List Nat) (i p : Nat) (f : List ABlk → Prop) : List (List ABlk) → Nat → Prop → Prop
  | [], _, G => G
  | H :: r, j, G => match winB an i j ef 0 && !(Nat.beq j p) with
    | true => f H ∧ obJ an ef i p f r (j + 1) G
    | false => obJ an ef i p f r (j + 1) G
def obAll (an : List Nat) (ef : List Nat) (hs : List (List ABlk)) : List (Nat × Nat × (List ABlk → Prop)) → Prop → Prop
  | [], G => G
  | (i, p, f) :: r, G => obJ an ef i p f hs 0 (obAll an ef hs r G)

def headIs : List Nat → Nat → Bool
  | e :: _, k => Nat.beq e k
  | [], _ => false

def aD (P : Program) (T : TTab) (ops : Array Oper) (fz ef an : List Nat) : List Oper → Nat → List Nat → Fr → List ABlk → List (List ABlk) → List (Nat × Nat × (List ABlk → Prop)) → (Fr → List ABlk → Prop) → Prop
  | [], _, er, fr, H, hs, ob, K => chk er.isEmpty (obAll an ef hs ob (K fr H))
  | o :: r, k, er, fr, H, hs, ob, K => chk (dstOk fr.n o.dst && detK o.op) (guardA ops fr o.guard fun c fr => match headIs er k, c with
    | true, true => match memB fz k with
      | true => aopX P T (callDA P) (evX fr) H (fun u H' => frzK H.length H' u fun u H' => forceV u fun u => forceH H' fun H' => aD P T ops fz ef an r (k + 1) er.tail (putA fr o.dst u) H' (hs ++ [H']) ob K) o.op
      | false => aopX P T (callDA P) (evX fr) H (fun u H' => forceV u fun u => forceH H' fun H' => aD P T ops fz ef an r (k + 1) er.tail (putA fr o.dst u) H' (hs ++ [H']) ob K) o.op
    | true, false => aD P T ops fz ef an r (k + 1) er.tail (putA fr o.dst undA) H (hs ++ [H]) ob K
    | false, true => chk (!memB ef k) (match memB fz k with
      | true => chk (freshK o.op) (aopX P T (callQA P) (evX fr) H (fun u H' => frzK H.length H' u fun u _ => forceV u fun u => aD P T ops fz ef an r (k + 1) er (putA fr o.dst u) H hs
          (ob ++ [(k, hs.length - 1, fun Hj => aopX P T (callQA P) (evX fr) Hj (fun v H' => frzK Hj.length H' v fun v _ => v = u) o.op)]) K) o.op)
      | false => match hfree o.op with
        | true => aopX P T (callQA P) (evX fr) H (fun u _ => forceV u fun u => aD P T ops fz ef an r (k + 1) er (putA fr o.dst u) H hs ob K) o.op
        | false => chk (quietK o.op) (aopX P T (callQA P) (evX fr) H (fun u _ => forceV u fun u => aD P T ops fz ef an r (k + 1) er (putA fr o.dst u) H hs
          (ob ++ [(k, hs.length - 1, fun Hj => aopX P T (callQA P) (evX fr) Hj (fun v _ => v = u) o.op)]) K) o.op))
    | false, false => chk (!memB ef k) (aD P T ops fz ef an r (k + 1) er (putA fr o.dst undA) H hs ob K))

/-- The run that the walk tells. -/
inductive DS (P : Program) (ops : Array Oper) (ef an : List Nat) (Hs : List (List ABlk)) : List Oper → Nat → Nat → Fr → Fr → Prop where
  | nil (k p fr) (hp : p = ef.length) : DS P ops ef an Hs [] k p fr fr
  | eff {o r k p fr0 fr F u} (hd : dstOk fr.n o.dst = true) (ha : Alike fr0 fr) (hg : guardIs ops fr0 o.guard true) (he : ef[p]? = some k) (hu : Does P o (evalA fr) (Hs.getD p []) u (Hs.getD (p + 1) [])) (h : DS P ops ef an Hs r (k + 1) (p + 1) (putA fr o.dst u) F) : DS P ops ef an Hs (o :: r) k p fr0 F
  | effs {o r k p fr0 fr F} (hd : dstOk fr.n o.dst = true) (ha : Alike fr0 fr) (hg : guardIs ops fr0 o.guard false) (he : ef[p]? = some k) (hu : Hs.getD (p + 1) [] = Hs.getD p []) (h : DS P ops ef an Hs r (k + 1) (p + 1) (putA fr o.dst undA) F) : DS P ops ef an Hs (o :: r) k p fr0 F
  | qui {o r k p fr0 fr F u} (hd : dstOk fr.n o.dst = true) (ha : Alike fr0 fr) (hg : guardIs ops fr0 o.guard true) (he : k ∉ ef) (hu : ∀ j, j ≤ ef.length → winB an k j ef 0 = true → Does P o (evalA fr) (Hs.getD j []) u (Hs.getD j [])) (h : DS P ops ef an Hs r (k + 1) p (putA fr o.dst u) F) : DS P ops ef an Hs (o :: r) k p fr0 F
  | quis {o r k p fr0 fr F} (hd : dstOk fr.n o.dst = true) (ha : Alike fr0 fr) (hg : guardIs ops fr0 o.guard false) (he : k ∉ ef) (h : DS P ops ef an Hs r (k + 1) p (putA fr o.dst undA) F) : DS P ops ef an Hs (o :: r) k p fr0 F

theorem obJ_ok {an ef : List Nat} {i p : Nat} {f : List ABlk → Prop} : ∀ {hs : List (List ABlk)} {j0 : Nat} {G : Prop}, obJ an ef i p f hs j0 G → G ∧ ∀ (j : Nat) (H : List ABlk), hs[j]? = some H → winB an i (j0 + j) ef 0 = true → j0 + j ≠ p → f H
  | [], j0, G, h => ⟨h, fun j H hj => by simp at hj⟩
  | H0 :: r, j0, G, h => by
    simp only [obJ] at h
    have ih : obJ an ef i p f r (j0 + 1) G := by
      split at h
      · exact h.2
      · exact h
    obtain ⟨h1, h2⟩ := obJ_ok ih
    refine ⟨h1, fun j H hj hw hne => ?_⟩
    cases j with
    | succ j => exact h2 j H (by simpa using hj) (by rw [Nat.add_assoc, Nat.add_comm 1 j]; exact hw) (by omega)
    | zero =>
      simp only [List.getElem?_cons_zero, Option.some.injEq] at hj
      subst hj
      rw [Nat.add_zero] at hw hne
      split at h
      · exact h.1
      · rename_i hc
        rw [hw, Bool.true_and] at hc
        have : Nat.beq j0 p = true := by
          cases e : Nat.beq j0 p with
          | true => rfl
          | false => rw [e] at hc; simp at hc
        exact absurd (Nat.eq_of_beq_eq_true this) hne

theorem obAll_ok {an ef : List Nat} {hs : List (List ABlk)} : ∀ {ob : List (Nat × Nat × (List ABlk → Prop))} {G : Prop}, obAll an ef hs ob G → G ∧ ∀ x ∈ ob, ∀ (j : Nat) (H : List ABlk), hs[j]? = some H → winB an x.1 j ef 0 = true → j ≠ x.2.1 → x.2.2 H
  | [], G, h => ⟨h, fun x hx => by simp at hx⟩
  | (i, p, f) :: r, G, h => by
    obtain ⟨h1, h2⟩ := obJ_ok h
    obtain ⟨h3, h4⟩ := obAll_ok h1
    refine ⟨h3, fun x hx => ?_⟩
    rcases List.mem_cons.1 hx with rfl | hx
    · intro j H hj hw hne
      have := h2 j H hj
      rw [Nat.zero_add] at this
      exact this hw hne
    · exact h4 x hx

theorem getD_pre {α : Type} {l l' : List α} {d : α} {j : Nat} (h : l <+: l') (hj : j < l.length) : l'.getD j d = l.getD j d := by
  obtain ⟨t, rfl⟩ := h
  rw [List.getD_eq_getElem?_getD, List.getD_eq_getElem?_getD, List.getElem?_append_left hj]

theorem notMem_of {l : List Nat} {k : Nat} (h : (!memB l k) = true) : k ∉ l := fun hm => by rw [memB_iff.2 hm] at h; simp at h

theorem head_drop {ef er : List Nat} {p k : Nat} (he : er = ef.drop p) (h : headIs er k = true) : ef[p]? = some k ∧ er.tail = ef.drop (p + 1) := by
  cases er with
  | nil => simp [headIs] at h
  | cons e r =>
    have := Nat.eq_of_beq_eq_true h
    subst this
    have h1 : (ef.drop p)[0]? = some e := by rw [← he]; rfl
    rw [List.getElem?_drop, Nat.add_zero] at h1
    refine ⟨h1, ?_⟩
    rw [← List.tail_drop, ← he]

theorem aD_steps {ops : Array Oper} {fz ef an : List Nat} (hT : TOk P T) : ∀ (l : List Oper) {k p : Nat} {er : List Nat} {fr : Fr} {H : List ABlk} {hs : List (List ABlk)} {ob : List (Nat × Nat × (List ABlk → Prop))} {K : Fr → List ABlk → Prop},
    aD P T ops fz ef an l k er fr H hs ob K → er = ef.drop p → p ≤ ef.length → hs.length = p + 1 → hs.getD p [] = H →
    ∃ F HF Hs, hs <+: Hs ∧ Hs.length = ef.length + 1 ∧ HF = Hs.getD ef.length [] ∧ DS P ops ef an Hs l k p fr F ∧ K F HF ∧ ∀ x ∈ ob, ∀ j, j ≤ ef.length → winB an x.1 j ef 0 = true → j ≠ x.2.1 → x.2.2 (Hs.getD j [])
  | [], k, p, er, fr, H, hs, ob, K, h, he, hp, hl, hH => by
    obtain ⟨h1, h⟩ := chkE h
    have h1 : er = [] := by simpa using h1
    rw [h1] at he
    have hpe : p = ef.length := by
      have := congrArg List.length he
      simp at this; omega
    obtain ⟨h2, h3⟩ := obAll_ok h
    subst hpe
    refine ⟨fr, H, hs, List.prefix_refl _, by omega, hH.symm, .nil _ _ _ rfl, h2, fun x hx j hj hw hne => ?_⟩
    refine h3 x hx j _ ?_ hw hne
    rw [List.getD_eq_getElem?_getD, List.getElem?_eq_getElem (by omega)]; rfl
  | o :: r, k, p, er, fr, H, hs, ob, K, h, he, hp, hl, hH => by
    obtain ⟨hd, h⟩ := chkE h
    rw [Bool.and_eq_true] at hd
    obtain ⟨hd, hdk⟩ := hd
    obtain ⟨c, fr', h1, h2, h7⟩ := guard_abs h
    rw [← h7.1] at hd
    -- an effect: the blocks go on
    have eff : ∀ {u : AV} {H' : List ABlk} {fr1 : Fr}, headIs er k = true → aD P T ops fz ef an r (k + 1) er.tail fr1 H' (hs ++ [H']) ob K →
        ∃ F HF Hs, hs <+: Hs ∧ Hs.getD (p + 1) [] = H' ∧ ef[p]? = some k ∧ Hs.length = ef.length + 1 ∧ HF = Hs.getD ef.length [] ∧ DS P ops ef an Hs r (k + 1) (p + 1) fr1 F ∧ K F HF ∧ ∀ x ∈ ob, ∀ j, j ≤ ef.length → winB an x.1 j ef 0 = true → j ≠ x.2.1 → x.2.2 (Hs.getD j []) := by
      intro u H' fr1 hh h
      obtain ⟨g1, g2⟩ := head_drop he hh
      have hlt : p < ef.length := (List.getElem?_eq_some_iff.1 g1).1
      obtain ⟨F, HF, Hs, k1, k2, k3, k4, k5, k6⟩ := aD_steps hT r h g2 (by omega) (by simp [hl]) (by rw [List.getD_eq_getElem?_getD, ← hl, getElem?_append_len]; rfl)
      refine ⟨F, HF, Hs, (List.prefix_append _ _).trans k1, ?_, g1, k2, k3, k4, k5, k6⟩
      rw [getD_pre k1 (by simp [hl]), List.getD_eq_getElem?_getD, ← hl, getElem?_append_len]; rfl
    have hcur : ∀ {Hs : List (List ABlk)}, hs <+: Hs → Hs.getD p [] = H := fun hpre => by rw [getD_pre hpre (by omega)]; exact hH
    split at h1
    · rename_i hh
      split at h1
      · obtain ⟨u, H', h3, h4⟩ := effect_frz hT hdk (aopX_ok h1)
        rw [forceV_eq, forceH_eq] at h4
        obtain ⟨F, HF, Hs, k1, k2, k3, k4, k5, k6, k7, k8⟩ := eff (u := u) hh h4
        exact ⟨F, HF, Hs, k1, k4, k5, .eff hd h7 h2 k3 (by rw [hcur k1, k2]; exact h3) k6, k7, k8⟩
      · obtain ⟨u, H', h3, h4⟩ := effect_step hT hdk (aopX_ok h1)
        rw [forceV_eq, forceH_eq] at h4
        obtain ⟨F, HF, Hs, k1, k2, k3, k4, k5, k6, k7, k8⟩ := eff (u := u) hh h4
        exact ⟨F, HF, Hs, k1, k4, k5, .eff hd h7 h2 k3 (by rw [hcur k1, k2]; exact h3) k6, k7, k8⟩
    · rename_i hh
      obtain ⟨F, HF, Hs, k1, k2, k3, k4, k5, k6, k7, k8⟩ := eff (u := undA) hh h1
      exact ⟨F, HF, Hs, k1, k4, k5, .effs hd h7 h2 k3 (by rw [hcur k1, k2]) k6, k7, k8⟩
    · obtain ⟨hn, h1⟩ := chkE h1
      have hn := notMem_of hn
      -- what only reads, with the other places it may stand at
      have qui : ∀ {u : AV} {f : List ABlk → Prop}, Does P o (evalA fr') H u H → (∀ Hj, f Hj → Does P o (evalA fr') Hj u Hj) → aD P T ops fz ef an r (k + 1) er (putA fr' o.dst u) H hs (ob ++ [(k, hs.length - 1, f)]) K →
          ∃ F HF Hs, hs <+: Hs ∧ Hs.length = ef.length + 1 ∧ HF = Hs.getD ef.length [] ∧ DS P ops ef an Hs (o :: r) k p fr F ∧ K F HF ∧ ∀ x ∈ ob, ∀ j, j ≤ ef.length → winB an x.1 j ef 0 = true → j ≠ x.2.1 → x.2.2 (Hs.getD j []) := by
        intro u f hu hf h
        obtain ⟨F, HF, Hs, k1, k2, k3, k4, k5, k6⟩ := aD_steps hT r h he hp hl hH
        refine ⟨F, HF, Hs, k1, k2, k3, .qui hd h7 h2 hn (fun j hj hw => ?_) k4, k5, fun x hx => k6 x (List.mem_append_left _ hx)⟩
        by_cases hjp : j = p
        · subst hjp; rw [hcur k1]; exact hu
        · exact hf _ (k6 (k, hs.length - 1, f) (List.mem_append_right _ (List.mem_singleton.2 rfl)) j hj hw (by show j ≠ hs.length - 1; omega))
      split at h1
      · obtain ⟨hq, h1⟩ := chkE h1
        obtain ⟨u, h3, h4⟩ := quiet_frz (K := fun u => forceV u _) hT hdk hq (aopX_ok h1)
        rw [forceV_eq] at h4
        refine qui h3 (fun Hj hj => ?_) h4
        obtain ⟨v, h5, h6⟩ := quiet_frz (K := fun v => v = u) hT hdk hq (aopX_ok hj)
        subst h6; exact h5
      · split at h1
        · rename_i hq
          obtain ⟨u, h3, h4⟩ := free_step (K := fun u => forceV u _) hT hdk rfl hq (aopX_ok h1)
          rw [forceV_eq] at h4
          obtain ⟨F, HF, Hs, k1, k2, k3, k4, k5, k6⟩ := aD_steps hT r h4 he hp hl hH
          exact ⟨F, HF, Hs, k1, k2, k3, .qui hd h7 h2 hn (fun j _ _ => h3 _) k4, k5, k6⟩
        · obtain ⟨hq, h1⟩ := chkE h1
          obtain ⟨u, h3, h4⟩ := quiet_step (K := fun u => forceV u _) hT hdk hq (aopX_ok h1)
          rw [forceV_eq] at h4
          refine qui h3 (fun Hj hj => ?_) h4
          obtain ⟨v, h5, h6⟩ := quiet_step (K := fun v => v = u) hT hdk hq (aopX_ok hj)
          subst h6; exact h5
    · obtain ⟨hn, h1⟩ := chkE h1
      have hn := notMem_of hn
      obtain ⟨F, HF, Hs, k1, k2, k3, k4, k5, k6⟩ := aD_steps hT r h1 he hp hl hH
      exact ⟨F, HF, Hs, k1, k2, k3, .quis hd h7 h2 hn k4, k5, k6⟩

section
variable {ops : Array Oper} {ef an : List Nat} {Hs : List (List ABlk)}

theorem DS.length {l : List Oper} {k p : Nat} {fr F : Fr} (h : DS P ops ef an Hs l k p fr F) : F.n = fr.n := by
  induction h with
  | nil => rfl
  | eff _ ha _ _ _ _ ih => rw [ih, putA_n, ha.1]
  | effs _ ha _ _ _ _ ih => rw [ih, putA_n, ha.1]
  | qui _ ha _ _ _ _ ih => rw [ih, putA_n, ha.1]
  | quis _ ha _ _ _ ih => rw [ih, putA_n, ha.1]

theorem DS.other {l : List Oper} {k p : Nat} {fr F : Fr} (h : DS P ops ef an Hs l k p fr F) {t : Nat} (ht : ∀ o ∈ l, o.dst ≠ some t) : look F.l t = look fr.l t := by
  induction h with
  | nil => rfl
  | eff _ ha _ _ _ _ ih => rw [ih (fun o ho => ht o (List.mem_cons_of_mem _ ho)), putA_other (ht _ List.mem_cons_self), ha.2]
  | effs _ ha _ _ _ _ ih => rw [ih (fun o ho => ht o (List.mem_cons_of_mem _ ho)), putA_other (ht _ List.mem_cons_self), ha.2]
  | qui _ ha _ _ _ _ ih => rw [ih (fun o ho => ht o (List.mem_cons_of_mem _ ho)), putA_other (ht _ List.mem_cons_self), ha.2]
  | quis _ ha _ _ _ ih => rw [ih (fun o ho => ht o (List.mem_cons_of_mem _ ho)), putA_other (ht _ List.mem_cons_self), ha.2]

/-- What is known of each operation. -/
def Fact (P : Program) (ops : Array Oper) (ef an : List Nat) (Hs : List (List ABlk)) (F0 F : Fr) (i : Nat) (o : Oper) : Prop :=
  ∃ (fr : Fr) (c : Bool) (u : AV), fr.n = F.n ∧ dstOk F.n o.dst = true ∧ guardIs ops fr o.guard c ∧ (c = false → u = undA) ∧
    ((∃ p, ef[p]? = some i ∧ (c = true → Does P o (evalA fr) (Hs.getD p []) u (Hs.getD (p + 1) [])) ∧ (c = false → Hs.getD (p + 1) [] = Hs.getD p [])) ∨
      (i ∉ ef ∧ (c = true → ∀ j, j ≤ ef.length → winB an i j ef 0 = true → Does P o (evalA fr) (Hs.getD j []) u (Hs.getD j [])))) ∧
    (∀ t ∈ readsOf ops o, (look fr.l t = look F.l t ∧ ∀ (j : Nat) (o' : Oper), ops[j]? = some o' → o'.dst = some t → ∃ e ∈ o.after, Region.binds .any e = true ∧ e.on = j) ∨
      (look fr.l t = look F0.l t ∧ ∀ (j : Nat) (o' : Oper), ops[j]? = some o' → o'.dst = some t → i = j ∨ ∃ e ∈ o'.after, Region.binds .any e = true ∧ e.on = i)) ∧
    (∀ d x, o.dst = some d → look F.l d = some x → x = u)

theorem DS.facts (hssa : ssaOk ops = true) {F0 : Fr} : ∀ (l : List Oper) (k p : Nat) {fr F : Fr}, (∀ (j : Nat) (o : Oper), l[j]? = some o → ops[k + j]? = some o) → (∀ t, (∀ (j : Nat) (o : Oper), ops[j]? = some o → o.dst = some t → k ≤ j) → look fr.l t = look F0.l t) → DS P ops ef an Hs l k p fr F → ∀ (j : Nat) (o : Oper), l[j]? = some o → Fact P ops ef an Hs F0 F (k + j) o
  | [], _, _, _, _, _, _, _, j, o, hj => by simp at hj
  | o :: r, k, p, fr, F, hl, hpre, h, j, o', hj => by
    have ho : ops[k]? = some o := hl 0 o rfl
    have hl' : ∀ (j : Nat) (o1 : Oper), r[j]? = some o1 → ops[k + 1 + j]? = some o1 := fun j o1 h1 => by have := hl (j + 1) o1 (by simpa using h1); rw [← this]; congr 1; omega
    have hd : ∀ d, o.dst = some d → ∀ o1 ∈ r, o1.dst ≠ some d := fun d hod o1 h1 hd1 => by
      obtain ⟨n, hn⟩ := List.getElem?_of_mem h1
      have hn := hl' n o1 hn
      exact ((ssa_ok hssa ho).2 _ _ _ hn hd1).2 (by omega) hod
    have hpre' : ∀ {fr1 : Fr} {u : AV}, Alike fr fr1 → ∀ t, (∀ (j : Nat) (o : Oper), ops[j]? = some o → o.dst = some t → k + 1 ≤ j) → look (putA fr1 o.dst u).l t = look F0.l t := fun {fr1 u} ha t ht => by
      rw [putA_other (fun e => by have := ht k o ho e; omega), ha.2]
      exact hpre t fun j o hj hd => by have := ht j o hj hd; omega
    cases j with
    | succ j =>
      rw [List.getElem?_cons_succ] at hj
      rw [show k + (j + 1) = k + 1 + j by omega]
      cases h with
      | eff _ ha _ _ _ h => exact DS.facts hssa r (k + 1) _ hl' (hpre' ha) h j o' hj
      | effs _ ha _ _ _ h => exact DS.facts hssa r (k + 1) _ hl' (hpre' ha) h j o' hj
      | qui _ ha _ _ _ h => exact DS.facts hssa r (k + 1) _ hl' (hpre' ha) h j o' hj
      | quis _ ha _ _ h => exact DS.facts hssa r (k + 1) _ hl' (hpre' ha) h j o' hj
    | zero =>
      rw [List.getElem?_cons_zero] at hj
      obtain rfl := Option.some.inj hj
      have hn := h.length
      have put : ∀ {p : Nat} {fr : Fr} {u : AV}, DS P ops ef an Hs r (k + 1) p (putA fr o.dst u) F → ∀ d x, o.dst = some d → look F.l d = some x → x = u := fun {p fr u} h2 d x hod hx => by
        rw [h2.other (hd d hod), hod] at hx
        simp only [putA] at hx
        rw [look_self] at hx
        exact (Option.some.inj hx).symm
      have hread : ∀ {fr1 : Fr}, Alike fr fr1 → ∀ t ∈ readsOf ops o, (look fr1.l t = look F.l t ∧ ∀ (j : Nat) (o' : Oper), ops[j]? = some o' → o'.dst = some t → ∃ e ∈ o.after, Region.binds .any e = true ∧ e.on = j) ∨
          (look fr1.l t = look F0.l t ∧ ∀ (j : Nat) (o' : Oper), ops[j]? = some o' → o'.dst = some t → k = j ∨ ∃ e ∈ o'.after, Region.binds .any e = true ∧ e.on = k) := fun {fr1} ha t ht => by
        by_cases hex : ∃ (j : Nat) (o' : Oper), ops[j]? = some o' ∧ o'.dst = some t ∧ j < k
        · obtain ⟨j0, o0, hj0, hd0, hlt⟩ := hex
          have huniq : ∀ (j : Nat) (o' : Oper), ops[j]? = some o' → o'.dst = some t → j = j0 := fun j o' hj hd' => by
            by_cases e : j = j0
            · exact e
            · exact absurd hd0 (((ssa_ok hssa hj0).2 j o' t hj hd').2 (by omega))
          refine .inl ⟨?_, fun j o' hj hd' => ?_⟩
          · rw [ha.2]
            refine (h.other fun o1 h1 hd1 => ?_).symm
            obtain ⟨n, hn⟩ := List.getElem?_of_mem h1
            have hn := hl n o1 hn
            have := huniq _ _ hn hd1
            omega
          · obtain rfl := huniq j o' hj hd'
            rcases ((ssa_ok hssa ho).2 _ _ _ hj hd').1 ht with h1 | h1
            · exact h1.2
            · omega
        · have hge : ∀ (j : Nat) (o' : Oper), ops[j]? = some o' → o'.dst = some t → k ≤ j := fun j o' hj hd' => Nat.le_of_not_lt fun hlt => hex ⟨j, o', hj, hd', hlt⟩
          refine .inr ⟨by rw [ha.2]; exact hpre t hge, fun j o' hj hd' => ?_⟩
          rcases ((ssa_ok hssa ho).2 _ _ _ hj hd').1 ht with h1 | h1
          · have := hge j o' hj hd'; omega
          · exact h1.2
      cases h with
      | @eff _ _ _ _ _ fr1 _ u hdo ha hg he hu h2 => exact ⟨fr1, true, u, ha.1.trans hn.symm, by rw [hn, ← ha.1]; exact hdo, guardIs_alike ha hg, fun h => absurd h (by simp), .inl ⟨p, he, fun _ => hu, fun h => absurd h (by simp)⟩, hread ha, put h2⟩
      | @effs _ _ _ _ _ fr1 _ hdo ha hg he hu h2 => exact ⟨fr1, false, undA, ha.1.trans hn.symm, by rw [hn, ← ha.1]; exact hdo, guardIs_alike ha hg, fun _ => rfl, .inl ⟨p, he, fun h => absurd h (by simp), fun _ => hu⟩, hread ha, put h2⟩
      | @qui _ _ _ _ _ fr1 _ u hdo ha hg he hu h2 => exact ⟨fr1, true, u, ha.1.trans hn.symm, by rw [hn, ← ha.1]; exact hdo, guardIs_alike ha hg, fun h => absurd h (by simp), .inr ⟨he, fun _ => hu⟩, hread ha, put h2⟩
      | @quis _ _ _ _ _ fr1 _ hdo ha hg he h2 => exact ⟨fr1, false, undA, ha.1.trans hn.symm, by rw [hn, ← ha.1]; exact hdo, guardIs_alike ha hg, fun _ => rfl, .inr ⟨he, fun h => absurd h (by simp)⟩, hread ha, put h2⟩
end

theorem chain_of {an : List Nat} : ∀ {ef : List Nat}, chainOk an ef = true → ∀ (q a b : Nat), ef[q]? = some a → ef[q + 1]? = some b → (an.getD b 0).testBit a = true
  | [], _, q, a, b, h, _ => by simp at h
  | [x], _, q, a, b, _, h => by simp at h
  | x :: y :: r, h, q, a, b, ha, hb => by
    replace h : ((an.getD y 0).testBit x && chainOk an (y :: r)) = true := h
    rw [Bool.and_eq_true] at h
    cases q with
    | zero =>
      simp only [List.getElem?_cons_zero, Option.some.injEq] at ha
      have hb : y = b := by simpa using hb
      subst ha hb; exact h.1
    | succ q => exact chain_of h.2 q a b (by simpa using ha) (by simpa using hb)

theorem win_of {an : List Nat} {i j : Nat} : ∀ {ef : List Nat} {q0 : Nat}, (∀ q e, ef[q]? = some e → ((an.getD i 0).testBit e = true → q0 + q < j) ∧ ((an.getD e 0).testBit i = true → j ≤ q0 + q)) → winB an i j ef q0 = true
  | [], _, _ => rfl
  | e :: r, q0, h => by
    have h0 := h 0 e rfl
    simp only [winB, Bool.and_eq_true]
    refine ⟨⟨?_, ?_⟩, win_of fun q e' he => ?_⟩
    · cases hb : (an.getD i 0).testBit e with
      | false => rfl
      | true => simpa [Nat.blt_eq] using h0.1 hb
    · cases hb : (an.getD e 0).testBit i with
      | false => rfl
      | true => simpa [Nat.ble_eq] using h0.2 hb
    · have := h (q + 1) e' (by simpa using he)
      rw [show q0 + 1 + q = q0 + (q + 1) by omega]; exact this

section
variable {ops : Array Oper} {ef : List Nat} {Hs : List (List ABlk)} {m N : Nat}

def JD (N m : Nat) (ops : Array Oper) (ef : List Nat) (Hs : List (List ABlk)) (Fz F : Fr) (w0 : World) (I0 : Nat → Prop) (ι0 : Nat → Option Nat) (H0 : List ABlk) (listed : Array Bool) (a : Act) (w : World) : Prop :=
  ∃ p I ι, p ≤ ef.length ∧ (∀ q e, ef[q]? = some e → (listed[e]? = some true ↔ q < p)) ∧ a.tmps.size = F.n ∧ (N ≤ w.heap.size ∧ (∀ d ∈ a.defers, Mark N w I ι (Hs.getD p []) d) ∧ a.defers.Pairwise (fun x y => x.target ≠ y.target)) ∧
    SimH w I ι (Hs.getD p []) ∧ Ex m w0 I0 ι0 H0 w I ι (Hs.getD p []) ∧
    (∀ t u, look F.l t = some u → (∀ (j : Nat) (o : Oper), ops[j]? = some o → o.dst = some t → listed[j]? = some true) → ARep w I ι u (a.tmps.getD t undef)) ∧
    (∀ t u, look Fz.l t = some u → (∀ (j : Nat) (o : Oper), ops[j]? = some o → o.dst = some t → listed[j]? = some false) → ARep w I ι u (a.tmps.getD t undef)) ∧
    (∀ (j : Nat) (o : Oper), ops[j]? = some o → listed[j]? = some true → ∀ e ∈ o.after, Region.binds .any e = true → listed[e.on]? = some true)

theorem draw_sound {ro : Option Nat} (hssa : ssaOk ops = true) (hch : chainOk (anc ops) ef = true) (hnd : ef.Nodup) (hlt : ∀ e ∈ ef, e < ops.size) {Fz F : Fr} {Q : Exit → Act → World → Prop} {w0 : World} {I0 : Nat → Prop} {ι0 : Nat → Option Nat} {H0 : List ABlk}
    (hfact : ∀ (i : Nat) (o : Oper), ops[i]? = some o → Fact P ops ef (anc ops) Hs Fz F i o) (hQ : ∀ a w I ι, Sim N w I ι ⟨F, Hs.getD ef.length []⟩ a → Ex m w0 I0 ι0 H0 w I ι (Hs.getD ef.length []) → Q .normal a w) :
    ∀ (fuel : Nat) (listed : Array Bool) (a : Act) (w : World), listed.size = ops.size → listed.toList.count true + fuel = ops.size → JD N m ops ef Hs Fz F w0 I0 ι0 H0 listed a w → wpAnyIn (fen ro) 0 P .any ops Q fuel listed a w := by
  intro fuel
  have hdone : ∀ (listed : Array Bool) (a : Act) (w : World), listed.size = ops.size → JD N m ops ef Hs Fz F w0 I0 ι0 H0 listed a w → Region.ready .any ops listed = [] → Q .normal a w := by
    intro listed a w hsz hJ hr
    obtain ⟨p, I, ι, hp, hpe, h1, h2, h3, h4, h5, h6, h7⟩ := hJ
    have hall : ∀ i, i < ops.size → listed[i]? = some true := by
      intro i
      induction i using Nat.strongRecOn with
      | _ i ih =>
        intro hi
        cases hb : listed[i]? with
        | none => have := Array.getElem?_eq_none_iff.1 hb; omega
        | some b =>
          cases b with
          | true => rfl
          | false =>
            exfalso
            have hmem : i ∈ Region.ready .any ops listed := by
              unfold Region.ready
              rw [List.mem_filter]
              refine ⟨by simpa using hi, ?_⟩
              have ho : ops[i]? = some ops[i] := Array.getElem?_eq_getElem hi
              rw [ho]
              simp only [Option.map_some, Option.getD_some, Bool.and_eq_true]
              refine ⟨by rw [Array.getD_eq_getD_getElem?, hb]; rfl, ?_⟩
              rw [Array.all_eq_true']
              intro e he
              cases hbe : Region.binds .any e with
              | false => rfl
              | true =>
                have hlt := (ssa_ok hssa ho).1 e he hbe
                have := ih e.on hlt (by omega)
                rw [Array.getD_eq_getD_getElem?, this]; rfl
            rw [hr] at hmem
            simp at hmem
    have hpn : p = ef.length := by
      rcases Nat.lt_or_ge p ef.length with h | h
      · have he := List.getElem?_eq_getElem h
        have := (hpe p _ he).1 (hall _ (hlt _ (List.getElem_mem h)))
        omega
      · omega
    subst hpn
    refine hQ a w I ι ⟨⟨h1, fun t u hu => h5 t u hu (fun j o hj _ => hall j ?_)⟩, h3, h2.1, h2.2.1, h2.2.2⟩ h4
    exact (Array.getElem?_eq_some_iff.1 hj).1
  induction fuel with
  | zero =>
    intro listed a w hsz hcnt hJ
    have hr : Region.ready .any ops listed = [] := by
      have hall : ∀ b ∈ listed.toList, true = b := List.count_eq_length.1 (by rw [Array.length_toList]; omega)
      unfold Region.ready
      rw [List.filter_eq_nil_iff]
      intro i hi
      have hi : i < ops.size := by simpa using hi
      have hi' : i < listed.size := by omega
      have : listed[i] = true := (hall _ (by rw [Array.mem_toList_iff]; exact Array.getElem_mem hi')).symm
      simp [Array.getD_eq_getD_getElem?, hi', this]
    exact ⟨hr, hdone listed a w hsz hJ hr⟩
  | succ fuel ih =>
    intro listed a w hsz hcnt hJ
    refine ⟨hdone listed a w hsz hJ, fun i hi => ?_⟩
    unfold Region.ready at hi
    rw [List.mem_filter] at hi
    obtain ⟨hi1, hi2⟩ := hi
    have hi1 : i < ops.size := by simpa using hi1
    have ho : ops[i]? = some ops[i] := Array.getElem?_eq_getElem hi1
    generalize ops[i] = o at ho
    rw [ho] at hi2
    simp only [Option.map_some, Option.getD_some, Bool.and_eq_true] at hi2
    obtain ⟨hun, hed⟩ := hi2
    have hli : listed[i]? = some false := by
      rw [Array.getD_eq_getD_getElem?] at hun
      cases hb : listed[i]? with
      | none => have := Array.getElem?_eq_none_iff.1 hb; omega
      | some b => rw [hb] at hun; cases b with
        | false => rfl
        | true => simp at hun
    have hedge : ∀ e ∈ o.after, Region.binds .any e = true → listed[e.on]? = some true := by
      intro e he hb
      have := (Array.all_eq_true'.1 hed) e he
      rw [hb] at this
      rw [Array.getD_eq_getD_getElem?] at this
      cases hx : listed[e.on]? with
      | none => rw [hx] at this; simp at this
      | some b => rw [hx] at this; cases b with
        | true => rfl
        | false => simp at this
    obtain ⟨p, I, ι, hp, hpe, h1, h2, h3, h4, h5, h6, h7⟩ := hJ
    obtain ⟨fr, c, u, f00, f0, f1, f3, fx, f4, f5⟩ := hfact i o ho
    -- what has come is closed downwards, with this one too
    have hdown : DownS ops (fun j => listed[j]? = some true) := fun j oj hj hlj e he hb => h7 j oj hj hlj e he hb
    have hdown' : DownS ops (fun j => listed[j]? = some true ∨ j = i) := fun j oj hj hlj e he hb => by
      rcases hlj with hlj | rfl
      · exact .inl (h7 j oj hj hlj e he hb)
      · rw [ho] at hj; obtain rfl := Option.some.inj hj
        exact .inl (hedge e he hb)
    have hanc : ∀ e, ((anc ops).getD i 0).testBit e = true → e ≠ i → listed[e]? = some true := fun e hb hne => by
      rcases anc_ok hdown' hb (.inr rfl) with h | h
      · exact h
      · exact absurd h hne
    have hdesc : ∀ e, ((anc ops).getD e 0).testBit i = true → ¬ listed[e]? = some true := fun e hb hl => by
      have := anc_ok hdown hb hl
      rw [hli] at this; simp at this
    have huniq : ∀ q q' e, ef[q]? = some e → ef[q']? = some e → q = q' := fun q q' e hq hq' => by
      obtain ⟨a1, a2⟩ := List.getElem?_eq_some_iff.1 hq
      obtain ⟨b1, b2⟩ := List.getElem?_eq_some_iff.1 hq'
      exact (List.getElem_inj hnd).1 (a2.trans b2.symm)
    -- the slots that it reads are ready
    have hread : ∀ t x, t ∈ readsOf ops o → look fr.l t = some x → ARep w I ι x (a.tmps.getD t undef) := by
      intro t x ht hx
      rcases f4 t ht with ⟨e1, e2⟩ | ⟨e1, e2⟩
      · refine h5 t x (by rw [← e1]; exact hx) (fun j o' hj hd => ?_)
        obtain ⟨e, he, hb, hon⟩ := e2 j o' hj hd
        rw [← hon]; exact hedge e he hb
      · refine h6 t x (by rw [← e1]; exact hx) (fun j o' hj hd => ?_)
        rcases e2 j o' hj hd with rfl | ⟨e, he, hb, hon⟩
        · exact hli
        · have hjl : j < listed.size := by rw [hsz]; exact (Array.getElem?_eq_some_iff.1 hj).1
          cases hb2 : listed[j]? with
          | none => have := Array.getElem?_eq_none_iff.1 hb2; omega
          | some b => cases b with
            | false => rfl
            | true =>
              have := h7 j o' hj hb2 e he hb
              rw [hon, hli] at this
              simp at this
    have hcnt' : (listed.setIfInBounds i true).toList.count true + fuel = ops.size := by
      have hlt : i < listed.toList.length := by rw [Array.length_toList]; omega
      have hget : listed.toList[i]? = some false := by rw [Array.getElem?_toList]; exact hli
      have : (listed.setIfInBounds i true).toList.count true = listed.toList.count true + 1 := by
        rw [Array.toList_setIfInBounds]
        have hdec : listed.toList = listed.toList.take i ++ false :: listed.toList.drop (i + 1) := by
          have := List.getElem?_eq_some_iff.1 hget
          obtain ⟨hlt', he⟩ := this
          rw [← he, List.getElem_cons_drop, List.take_append_drop]
        rw [List.set_eq_take_append_cons_drop, if_pos hlt]
        conv => rhs; rw [hdec]
        simp only [List.count_append, List.count_cons]
        simp
        omega
      omega
    have hsz' : (listed.setIfInBounds i true).size = ops.size := by simp [hsz]
    have hil : i < listed.size := by omega
    -- what the new state knows
    have step : ∀ (p2 : Nat) (w' : World) (I' : Nat → Prop) (ι' : Nat → Option Nat) (v : Value), p2 ≤ ef.length → (∀ q e, ef[q]? = some e → ((listed.setIfInBounds i true)[e]? = some true ↔ q < p2)) → SimH w' I' ι' (Hs.getD p2 []) → Ex (Hs.getD p []).length w I ι (Hs.getD p []) w' I' ι' (Hs.getD p2 []) → ARep w' I' ι' u v →
        JD N m ops ef Hs Fz F w0 I0 ι0 H0 (listed.setIfInBounds i true) (a.put o.dst v) w' := by
      intro p2 w' I' ι' v hp2 hpe2 hs' hx' hv
      have mv : ∀ {x : AV} {v : Value}, ARep w I ι x v → ARep w' I' ι' x v := fun hold => hold.move (hx'.ext.keepsI h3) hx'.ext.Isub (fun b B hb => by
        rw [hx'.keep b]; exact hb
        rcases Nat.lt_or_ge b (Hs.getD p []).length with h | h
        · exact h
        · rw [h3.dom b h] at hb; exact absurd hb (by simp)) hx'.ext.shape
      have e1 : ∀ t, o.dst ≠ some t → (a.put o.dst v).tmps.getD t undef = a.tmps.getD t undef := fun t hd => by
        cases hd' : o.dst with
        | none => rfl
        | some d =>
          simp only [Act.put]
          rw [Array.getD_eq_getD_getElem?, Array.getElem?_setIfInBounds_ne (by intro e; exact hd (by rw [hd', e])), ← Array.getD_eq_getD_getElem?]
      refine ⟨p2, I', ι', hp2, hpe2, ?_, by rw [put_defers]; exact ⟨Nat.le_trans h2.1 hx'.ext.size, fun d hd => (h2.2.1 d hd).move hx'.ext, h2.2.2⟩, hs', h4.trans (hx'.less h4.len), fun t x hx hall => ?_, fun t x hx hall => ?_, fun j oj hj hlj e he hb => ?_⟩
      · cases hd : o.dst <;> simp [Act.put, h1]
      · by_cases hd : o.dst = some t
        · have := f5 t x hd hx
          subst this
          have hlt : t < a.tmps.size := by rw [hd] at f0; rw [h1]; simpa [dstOk, Nat.blt_eq] using f0
          rw [hd]
          simp only [Act.put]
          rw [Array.getD_eq_getD_getElem?, Array.getElem?_setIfInBounds_self_of_lt hlt]
          exact hv
        · have hold : ARep w I ι x (a.tmps.getD t undef) := by
            refine h5 t x hx (fun j o' hj hd' => ?_)
            have hne : j ≠ i := fun e => by
              subst e
              rw [ho] at hj
              obtain rfl := Option.some.inj hj
              exact hd hd'
            have := hall j o' hj hd'
            rw [Array.getElem?_setIfInBounds_ne (by omega)] at this
            exact this
          rw [e1 t hd]
          exact mv hold
      · have hd : o.dst ≠ some t := fun hd => by
          have := hall i o ho hd
          rw [Array.getElem?_setIfInBounds_self_of_lt hil] at this
          simp at this
        rw [e1 t hd]
        refine mv (h6 t x hx (fun j o' hj hd' => ?_))
        have := hall j o' hj hd'
        by_cases e : i = j
        · subst e; rw [Array.getElem?_setIfInBounds_self_of_lt hil] at this; simp at this
        · rw [Array.getElem?_setIfInBounds_ne e] at this; exact this
      · have up : ∀ n, listed[n]? = some true → (listed.setIfInBounds i true)[n]? = some true := fun n hn => by
          by_cases e : i = n
          · subst e; exact Array.getElem?_setIfInBounds_self_of_lt hil
          · rw [Array.getElem?_setIfInBounds_ne e]; exact hn
        by_cases e : i = j
        · subst e
          rw [ho] at hj; obtain rfl := Option.some.inj hj
          exact up _ (hedge _ he hb)
        · rw [Array.getElem?_setIfInBounds_ne e] at hlj
          exact up _ (h7 j oj hj hlj _ he hb)
    -- how far the effects have come
    have heff : ∀ p', ef[p']? = some i → p' = p ∧ p + 1 ≤ ef.length ∧ ∀ q e, ef[q]? = some e → ((listed.setIfInBounds i true)[e]? = some true ↔ q < p + 1) := by
      intro p' hp'
      have hle : p ≤ p' := Nat.le_of_not_lt fun h => by
        have := (hpe p' i hp').2 h
        rw [hli] at this; simp at this
      have heq : p' = p := by
        rcases Nat.lt_or_ge p p' with h | h
        · obtain ⟨r, rfl⟩ : ∃ r, p' = r + 1 := ⟨p' - 1, by omega⟩
          have hr : r < ef.length := by have := (List.getElem?_eq_some_iff.1 hp').1; omega
          have har := List.getElem?_eq_getElem hr
          have hb := chain_of hch r _ i har hp'
          have hne : ef[r] ≠ i := fun e => by
            rw [e] at har
            have := huniq _ _ _ har hp'
            omega
          have := (hpe r _ har).1 (hanc _ hb hne)
          omega
        · omega
      subst heq
      have hlt' := (List.getElem?_eq_some_iff.1 hp').1
      refine ⟨rfl, hlt', fun q e he => ?_⟩
      by_cases hei : i = e
      · subst hei
        have := huniq _ _ _ he hp'
        rw [Array.getElem?_setIfInBounds_self_of_lt hil]
        exact ⟨fun _ => by omega, fun _ => rfl⟩
      · rw [Array.getElem?_setIfInBounds_ne hei, hpe q e he]
        have hne : q ≠ p' := fun h => by
          subst h
          rw [hp'] at he
          exact hei (Option.some.inj he)
        omega
    have hqui : i ∉ ef → (∀ q e, ef[q]? = some e → ((listed.setIfInBounds i true)[e]? = some true ↔ q < p)) ∧ winB (anc ops) i p ef 0 = true := by
      intro hni
      have hne : ∀ q e, ef[q]? = some e → i ≠ e := fun q e he h => hni (h ▸ List.mem_of_getElem? he)
      refine ⟨fun q e he => by rw [Array.getElem?_setIfInBounds_ne (hne q e he)]; exact hpe q e he, win_of fun q e he => ⟨fun hb => ?_, fun hb => ?_⟩⟩
      · rw [Nat.zero_add]; exact (hpe q e he).1 (hanc e hb (fun h => hne q e he h.symm))
      · rw [Nat.zero_add]; exact Nat.le_of_not_lt fun h => hdesc e hb ((hpe q e he).2 h)
    have hwant : Region.wanted o (yielded ops a.tmps) = c := by
      refine want_of (w := w) (I := I) (ι := ι) (fr := fr) (fun d b hdb hg => ?_) f1
      obtain ⟨j, want, hg, g1⟩ := hg
      have hdm : d ∈ readsOf ops o := by simp [readsOf, hg, g1]
      exact hread d _ hdm hdb
    have hops : ∀ x ∈ opsL o.op, ARep w I ι (evalA fr x) (a.eval x) := fun x hx => by
      cases x with
      | tmp t =>
        have ht : t ∈ readsOf ops o := by
          unfold readsOf tmpsOf
          exact List.mem_append_left _ (List.mem_filterMap.2 ⟨.tmp t, hx, rfl⟩)
        show ARep w I ι ((look fr.l t).getD .top) (a.tmps.getD t undef)
        cases hF : look fr.l t with
        | none => exact .top _
        | some x => exact hread t x ht hF
      | const v => exact const_ok v
      | global g => exact .top _
      | func f => exact .clo (.func f) [] #[] rfl (fun i u h => by simp at h)
    unfold wpOpIn
    rw [ho]
    simp only
    rw [hwant]
    cases c with
    | false =>
      rw [if_neg (by simp)]
      have hu := f3 rfl
      subst hu
      refine ⟨fun f _ => fen_fn ro f, ?_⟩
      have hrep : ARep w I ι undA undef := .tup [] #[] rfl (fun i u h => by simp at h)
      rcases fx with ⟨p', hp', _, hsame⟩ | ⟨hni, _⟩
      · obtain ⟨rfl, hle, hpe2⟩ := heff p' hp'
        have hsame := hsame rfl
        refine ih _ _ _ hsz' hcnt' (step (p' + 1) w I ι undef hle hpe2 (by rw [hsame]; exact h3) ?_ hrep)
        rw [hsame]; exact Ex.refl (Nat.le_refl _)
      · obtain ⟨hpe2, _⟩ := hqui hni
        exact ih _ _ _ hsz' hcnt' (step p w I ι undef hp hpe2 h3 (Ex.refl (Nat.le_refl _)) hrep)
    | true =>
      rw [if_pos rfl]
      rcases fx with ⟨p', hp', hdo, _⟩ | ⟨hni, hdo⟩
      · obtain ⟨rfl, hle, hpe2⟩ := heff p' hp'
        refine hdo rfl h3 hops ?_
        rintro v w' r' H' I' ι' ⟨rfl, rfl⟩ hr hs' hx'
        exact ih _ _ _ hsz' hcnt' (step _ w' I' ι' v hle hpe2 hs' hx' hr)
      · obtain ⟨hpe2, hw⟩ := hqui hni
        refine hdo rfl p hp hw h3 hops ?_
        rintro v w' r' H' I' ι' ⟨rfl, rfl⟩ hr hs' hx'
        exact ih _ _ _ hsz' hcnt' (step _ w' I' ι' v hp hpe2 hs' hx' hr)

/-- What is asked of the edges: the slots are written once, the effects stand in a row. -/
def drawOk (ops : Array Oper) (ef : List Nat) : Bool := ssaOk ops && chainOk (anc ops) ef && nodupB ef && ef.all (fun e => Nat.blt e ops.size)

theorem sim_drew {w : World} {I : Nat → Prop} {ι : Nat → Option Nat} {H : List ABlk} (hs : SimH w I ι H) : SimH w.drew I ι H := by
  have hsh : Shape w w.drew := fun B cs t fr h => ⟨cs, h, rfl⟩
  have mv : ∀ {x : AV} {v : Value}, ARep w I ι x v → ARep w.drew I ι x v := fun h => h.move (w := w) (w' := w.drew) (fun _ _ => rfl) (fun _ h => h) (fun _ _ h => h) hsh
  refine ⟨fun b k hb => ?_, hs.inj, hs.Ilt, hs.dom, hs.rng⟩
  have := hs.blk b k hb
  cases k with
  | dead => trivial
  | cells t l => obtain ⟨B, cs, g1, g2, g3, g4, g5⟩ := this; exact ⟨B, cs, g1, g2, g3, g4, fun i u hu => mv (g5 i u hu)⟩
  | lp q st pe l => obtain ⟨B, cs, g1, g2, g3, g4, g5⟩ := this; exact ⟨B, cs, g1, g2, g3, g4, fun i u hu => mv (g5 i u hu)⟩
  | row t sz xs =>
    rcases this with g0 | ⟨B, cs, g1, g2, g3, g4, g5, g6⟩
    · exact .inl g0
    · exact .inr ⟨B, cs, g1, g2, g3, g4, g5, fun j e hj => ⟨(g6 j e hj).1, fun i u hu => ((g6 j e hj).2 i u hu).move (w := w) (w' := w.drew) (fun _ _ => rfl) (fun _ h => h)⟩⟩
  | obj o => exact this

theorem aw_draw {ro : Option Nat} (ef fz : List Nat) (hT : TOk P T) (hm' : P.follows .mixedOrders = true) {id : Nat} {s : St} {Q : Exit → St → Prop} (hok : drawOk ops ef = true)
    (h : aD P T ops fz ef (anc ops) ops.toList 0 ef s.fr s.H [s.H] [] (fun fr H => Q .normal ⟨fr, H⟩)) : AW P ro m (.region id ops true) s Q := fun N w I ι a hs hm => by
  simp only [drawOk, Bool.and_eq_true] at hok
  obtain ⟨⟨⟨hssa, hch⟩, hnd⟩, hlt⟩ := hok
  obtain ⟨F, HF, Hs, k1, k2, rfl, k4, k5, _⟩ := aD_steps (p := 0) hT ops.toList h (by simp) (Nat.zero_le _) rfl rfl
  have hlen := k4.length
  have hdst : ∀ t, (∀ o ∈ ops.toList, o.dst ≠ some t) → look F.l t = look s.fr.l t := fun t ht => k4.other ht
  have hH0 : Hs.getD 0 [] = s.H := by rw [getD_pre k1 (by simp)]; rfl
  refine wpIn_region_any hm' (draw_sound (N := N) (m := m) (Fz := s.fr) (F := F) (w0 := w) (I0 := I) (ι0 := ι) (H0 := s.H) hssa hch (nodup_of hnd) (fun e he => by simpa [Nat.blt_eq] using List.all_eq_true.1 hlt e he) (fun i o ho => by
    have := DS.facts hssa (F0 := s.fr) ops.toList 0 0 (fun j o h => by rw [Nat.zero_add, ← Array.getElem?_toList]; exact h) (fun _ _ => rfl) k4 i o (by rw [Array.getElem?_toList]; exact ho)
    rw [Nat.zero_add] at this; exact this) ?_ _ _ _ _ (by simp) (by simp [List.count_replicate]) ?_)
  · intro a' w' I' ι' hs' hx'
    exact ⟨_, I', ι', k5, hs', hx'⟩
  · have hsh : Shape w w.drew := fun B cs t fr h => ⟨cs, h, rfl⟩
    have mv : ∀ {x : AV} {v : Value}, ARep w I ι x v → ARep w.drew I ι x v := fun h => h.move (w := w) (w' := w.drew) (fun _ _ => rfl) (fun _ h => h) (fun _ _ h => h) hsh
    have hex : Ext w I ι s.H w.drew I ι s.H := ⟨rfl, rfl, rfl, Nat.le_refl _, hsh, fun _ h => h, fun _ _ _ => rfl, fun _ h => .inl h, fun b B hb h => .inr ⟨b, hb, h⟩⟩
    refine ⟨0, I, ι, Nat.zero_le _, fun q e _ => ⟨fun h => ?_, fun h => absurd h (by omega)⟩, by rw [hs.fr.1, hlen], ⟨hs.hN, fun d hd => by rw [hH0]; exact (hs.d d hd).move hex, hs.nd⟩, by rw [hH0]; exact sim_drew hs.H, by rw [hH0]; exact ⟨hex, fun _ _ => rfl, hm⟩, fun t u hu hall => ?_, fun t u hu _ => mv (hs.fr.2 t u hu), fun j o _ hlj => ?_⟩
    · rw [Array.getElem?_replicate] at h
      split at h <;> simp at h
    · have hnone : ∀ o ∈ ops.toList, o.dst ≠ some t := fun o ho hd => by
        obtain ⟨j, hj⟩ := List.getElem?_of_mem ho
        rw [Array.getElem?_toList] at hj
        have := hall j o hj hd
        rw [Array.getElem?_replicate] at this
        split at this <;> simp at this
      rw [hdst t hnone] at hu
      exact mv (hs.fr.2 t u hu)
    · rw [Array.getElem?_replicate] at hlj
      split at hlj <;> simp at hlj

end
end
end Go.Proofs.Ytolefphdldmlkaa.AL
