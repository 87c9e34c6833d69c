/- The abstract layer, part m2: operations that only read come to one value. -/
import Derived.Test.YtdncagppilehgaaALm
namespace Go.Proofs.Ytdncagppilehgaa.AL
open Go Go.RowKit

section
variable {P : Program} {T : TTab}

def aopQ (P : Program) (T : TTab) (ev : Operand → AV) (H : List ABlk) (K : AV → Prop) (o : Op) : Prop :=
  match o with
  | .move x => K (ev x)
  | .assign x => K (ev x)
  | .pick c a b => match ev c with
    | .p (.raw (.bool t)) => K (pickV t (ev a) (ev b))
    | _ => False
  | .load t a => optK (T t) fun ti => chk (isRowTD ti.d || ti.size == 1) <| loadK H (ev a) ti.size fun us => K (mkVal ti.d us)
  | .binOp op t x y _ => binK P T op t x y (ev x) (ev y) fun v => K (.p (.raw v))
  | .unOp op _ x => unK op (ev x) fun v => K (.p (.raw v))
  | .convert src dst x => match T src, T dst, ev x with
    | some ⟨.int _, _, _, _⟩, some ⟨.int k, _, _, _⟩, .p (.raw (.int _ n)) => K (.p (.raw (.int k (k.wrap n))))
    | _, _, _ => False
  | .slice t x lo hi mx => chk mx.isNone (optK (T t) fun ti => match ti.d with
    | .slice e => optK (T e) fun ei => sliceK ei.size (ev x) (lo.map ev) (hi.map ev) K
    | _ => False)
  | .fieldAddr s x f => optK (T s) fun ti => match ti.d with
    | .struct fs => optK fs[f]? fun p => optK (T p.2) fun fi => chk (decide (0 < fi.size)) (addOff (ev x) p.1 K)
    | _ => False
  | .field s x f => optK (T s) fun ti => match ti.d with
    | .struct fs => optK fs[f]? fun p => optK (T p.2) fun fi => match ev x with
      | .agg l => chk (decide (p.1 + fi.size ≤ l.length) && (isRowTD fi.d || fi.size == 1)) (K (mkVal fi.d ((l.drop p.1).take fi.size)))
      | _ => False
    | _ => False
  | .indexAddr t x i => optK (T t) fun ti => match ti.d with
    | .slice e => optK (T e) fun ei => indexK (.slice e) ei.size (ev x) (ev i) K
    | .array n e => optK (T e) fun ei => indexK (.array n e) ei.size (ev x) (ev i) K
    | _ => False
  | .extract x i => match ev x with
    | .tup l => optK l[i]? K
    | _ => False
  | .nilCheck x => chk (isPtr (ev x)) (K (ev x))
  | .makeFunc fn first caps => chk first.isEmpty (K (.clo fn (caps.toList.map ev)))
  | .call c => match c.callee with
    | .value f => match ev f with
      | .clo (.func k) caps => ∃ r, AF P k (c.args.toList.map ev ++ caps) H (fun r' H' => r' = r ∧ H' = H) ∧ K r
      | _ => False
    | .builtin .len => match c.args.toList.map ev, c.argTypes.toList with
      | [x], [t] => optK (T t) fun ti => match ti.d with
        | .slice _ => lenK x K
        | _ => False
      | _, _ => False
    | .builtin .max => match c.args.toList.map ev with
      | [x, y] => minmaxK true x y K
      | _ => False
    | .builtin .min => match c.args.toList.map ev with
      | [x, y] => minmaxK false x y K
      | _ => False
    | _ => False
  | _ => False

def Det {α : Type} (F : (α → Prop) → Prop) : Prop := ∀ K, F K → ∃ x, (∀ K' : α → Prop, K' x → F K') ∧ K x

theorem det_here {α : Type} (x : α) : Det fun K => K x := fun _ hk => ⟨x, fun _ h => h, hk⟩
theorem det_no {α : Type} : Det fun (_ : α → Prop) => False := fun _ hk => hk.elim
theorem det_opt {α β : Type} (o : Option β) {F : β → (α → Prop) → Prop} (h : ∀ x, o = some x → Det (F x)) : Det fun K => optK o fun x => F x K := fun K hk => by
  cases o with
  | none => exact hk.elim
  | some x => exact h x rfl K hk
theorem det_chk {α : Type} (b : Bool) {F : (α → Prop) → Prop} (h : b = true → Det F) : Det fun K => chk b (F K) := fun K hk => by
  cases b with
  | false => exact hk.elim
  | true => exact h rfl K hk
theorem det_and {α : Type} (p : Prop) {F : (α → Prop) → Prop} (h : Det F) : Det fun K => p ∧ F K := fun K hk => by
  obtain ⟨x, h1, h2⟩ := h K hk.2
  exact ⟨x, fun K' hk' => ⟨hk.1, h1 K' hk'⟩, h2⟩
theorem det_ex {α β : Type} {p : β → Prop} {g : β → α} : Det fun K => ∃ r, p r ∧ K (g r) := fun K hk => by
  obtain ⟨r, h1, h2⟩ := hk
  exact ⟨g r, fun K' hk' => ⟨r, h1, hk'⟩, h2⟩
theorem det_map {α β : Type} {F : (α → Prop) → Prop} (h : Det F) (g : α → β) : Det fun K => F (fun x => K (g x)) := fun K hk => by
  obtain ⟨x, h1, h2⟩ := h _ hk
  exact ⟨g x, fun K' hk' => h1 _ hk', h2⟩

theorem det_load (H : List ABlk) (x : AV) (n : Nat) : Det (loadK H x n) := by
  intro K hk
  unfold loadK at hk ⊢
  split at hk
  · exact det_chk _ (fun _ => det_here _) K hk
  · split at hk
    · exact det_chk _ (fun _ => det_here _) K hk
    · exact hk.elim
  · split at hk
    · exact det_chk _ (fun _ => det_opt _ fun e _ => det_chk _ fun _ => det_here _) K hk
    · exact det_chk _ (fun _ => det_here _) K hk
    · exact hk.elim
  · exact hk.elim

theorem det_shift (op : BinOp) (k : IntKind) (x y : Int) : Det (shiftK op k x y) := by
  intro K hk
  cases op <;> simp only [shiftK] at hk ⊢ <;> first | exact hk.elim | exact det_chk _ (fun _ => det_here _) K hk
theorem det_int (op : BinOp) (k : IntKind) (x y : Int) : Det (intK op k x y) := by
  intro K hk
  cases op <;> simp only [intK] at hk ⊢ <;> first | exact hk.elim | exact det_here _ K hk | exact det_chk _ (fun _ => det_here _) K hk

theorem det_bin (P : Program) (T : TTab) (op : BinOp) (t : TypeId) (xo yo : Operand) (x y : AV) : Det (binK P T op t xo yo x y) := by
  intro K hk
  unfold binK at hk ⊢
  split at hk
  · split at hk
    · exact det_shift _ _ _ _ K hk
    · exact det_shift _ _ _ _ K hk
    · exact det_chk _ (fun _ => det_int _ _ _ _) K hk
  · split at hk
    · exact det_here _ K hk
    · exact det_here _ K hk
    · obtain ⟨r, h1, h2, h3⟩ := hk
      exact ⟨r, fun K' hk' => ⟨r, h1, h2, hk'⟩, h3⟩
  · split at hk
    · exact det_here _ K hk
    · exact det_here _ K hk
    · exact hk.elim
  · refine det_opt _ (fun vs _ => det_opt _ fun vs' _ => ?_) K hk
    intro K hk
    obtain ⟨r, h1, h2, h3⟩ := hk
    exact ⟨r, fun K' hk' => ⟨r, h1, h2, hk'⟩, h3⟩
  · split at hk
    · split at hk
      · exact det_here _ K hk
      · exact det_chk _ (fun _ => det_here _) K hk
    · split at hk
      · exact det_here _ K hk
      · exact det_chk _ (fun _ => det_here _) K hk
    · exact hk.elim
  · exact hk.elim

theorem det_un (op : UnOp) (x : AV) : Det (unK op x) := by
  intro K hk
  unfold unK at hk ⊢
  split at hk
  · exact det_here _ K hk
  · exact det_here _ K hk
  · exact hk.elim

theorem det_slice (sz : Nat) (x : AV) (lo hi : Option AV) : Det (sliceK sz x lo hi) := by
  intro K hk
  unfold sliceK at hk ⊢
  split at hk
  · exact det_chk _ (fun _ => det_opt _ fun l _ => det_opt _ fun h _ => det_and _ (det_here _)) K hk
  · exact det_chk _ (fun _ => det_opt _ fun l _ => det_opt _ fun h _ => det_and _ (det_here _)) K hk
  · exact det_opt _ (fun l _ => det_opt _ fun h _ => det_and _ (det_here _)) K hk
  · exact hk.elim

theorem det_addOff (x : AV) (n : Nat) : Det (addOff x n) := by
  intro K hk
  unfold addOff at hk ⊢
  split at hk
  · exact det_here _ K hk
  · exact det_here _ K hk
  · exact det_here _ K hk
  · exact hk.elim

theorem det_index (d : TD) (sz : Nat) (x i : AV) : Det (indexK d sz x i) := by
  intro K hk
  unfold indexK at hk ⊢
  split at hk
  · split at hk
    · exact det_chk _ (fun _ => det_and _ (det_opt _ fun e _ => det_here _)) K hk
    · exact det_chk _ (fun _ => det_and _ (det_here _)) K hk
    · exact det_and _ (det_here _) K hk
    · exact det_and _ (det_here _) K hk
    · exact hk.elim
  · exact hk.elim

theorem det_len (x : AV) : Det (lenK x) := by
  intro K hk
  unfold lenK at hk ⊢
  split at hk
  · exact det_here _ K hk
  · exact det_here _ K hk
  · exact det_here _ K hk
  · exact hk.elim

theorem det_minmax (mx : Bool) (x y : AV) : Det (minmaxK mx x y) := by
  intro K hk
  unfold minmaxK at hk ⊢
  split at hk
  · exact det_here _ K hk
  · exact hk.elim

/-- What only reads comes to one value, and leaves the blocks. -/
theorem aopQ_det {ev : Operand → AV} {H : List ABlk} {K : AV → Prop} {o : Op} (h : aopQ P T ev H K o) : ∃ r, aop P T (callK P) ev H (fun r' H' => r' = r ∧ H' = H) o ∧ K r := by
  have fin : ∀ {F : (AV → Prop) → Prop}, Det F → F K → ∃ r, F (fun r' => r' = r ∧ H = H) ∧ K r := fun hd hk => by
    obtain ⟨x, h1, h2⟩ := hd K hk
    exact ⟨x, h1 _ ⟨rfl, rfl⟩, h2⟩
  cases o <;> simp only [aopQ] at h <;> try exact h.elim
  case move x => exact fin (det_here _) h
  case assign x => exact fin (det_here _) h
  case pick c x y =>
    unfold aop
    dsimp only
    generalize ev c = xc at h ⊢
    split at h
    · exact fin (det_here _) h
    · exact h.elim
  case load t x => exact fin (F := fun K => optK (T t) fun ti => chk (isRowTD ti.d || ti.size == 1) <| loadK H (ev x) ti.size fun us => K (mkVal ti.d us)) (det_opt _ fun ti _ => det_chk _ fun _ => det_map (det_load _ _ _) (mkVal ti.d)) h
  case binOp op t x y yt => exact fin (det_map (det_bin _ _ _ _ _ _ _ _) fun v => AV.p (.raw v)) h
  case unOp op t x => exact fin (det_map (det_un _ _) fun v => AV.p (.raw v)) h
  case convert s d x =>
    unfold aop
    dsimp only
    generalize ev x = xx at h ⊢
    generalize T s = ts at h ⊢
    generalize T d = td at h ⊢
    split at h
    · exact fin (det_here _) h
    · exact h.elim
  case slice t x lo hi mx =>
    refine fin (F := fun K => chk mx.isNone (optK (T t) fun ti => match ti.d with
      | .slice e => optK (T e) fun ei => sliceK ei.size (ev x) (lo.map ev) (hi.map ev) K
      | _ => False)) (det_chk _ fun _ => det_opt _ fun ti _ => ?_) h
    intro K hk
    dsimp only at hk ⊢
    generalize ti.d = d at hk ⊢
    split at hk
    · exact det_opt _ (fun ei _ => det_slice _ _ _ _) K hk
    · exact hk.elim
  case fieldAddr s x f =>
    refine fin (F := fun K => optK (T s) fun ti => match ti.d with
      | .struct fs => optK fs[f]? fun p => optK (T p.2) fun fi => chk (decide (0 < fi.size)) (addOff (ev x) p.1 K)
      | _ => False) (det_opt _ fun ti _ => ?_) h
    intro K hk
    dsimp only at hk ⊢
    generalize ti.d = d at hk ⊢
    split at hk
    · exact det_opt _ (fun p _ => det_opt _ fun fi _ => det_chk _ fun _ => det_addOff _ _) K hk
    · exact hk.elim
  case field s x f =>
    refine fin (F := fun K => optK (T s) fun ti => match ti.d with
      | .struct fs => optK fs[f]? fun p => optK (T p.2) fun fi => match ev x with
        | .agg l => chk (decide (p.1 + fi.size ≤ l.length) && (isRowTD fi.d || fi.size == 1)) (K (mkVal fi.d ((l.drop p.1).take fi.size)))
        | _ => False
      | _ => False) (det_opt _ fun ti _ => ?_) h
    intro K hk
    dsimp only at hk ⊢
    generalize ti.d = d at hk ⊢
    split at hk
    · refine det_opt _ (fun p _ => det_opt _ fun fi _ => ?_) K hk
      intro K hk
      dsimp only at hk ⊢
      generalize ev x = xx at hk ⊢
      split at hk
      · exact det_chk _ (fun _ => det_here _) K hk
      · exact hk.elim
    · exact hk.elim
  case indexAddr t x i =>
    refine fin (F := fun K => optK (T t) fun ti => match ti.d with
      | .slice e => optK (T e) fun ei => indexK (.slice e) ei.size (ev x) (ev i) K
      | .array n e => optK (T e) fun ei => indexK (.array n e) ei.size (ev x) (ev i) K
      | _ => False) (det_opt _ fun ti _ => ?_) h
    intro K hk
    dsimp only at hk ⊢
    generalize ti.d = d at hk ⊢
    split at hk
    · exact det_opt _ (fun ei _ => det_index _ _ _ _) K hk
    · exact det_opt _ (fun ei _ => det_index _ _ _ _) K hk
    · exact hk.elim
  case extract x i =>
    unfold aop
    dsimp only
    generalize ev x = xx at h ⊢
    split at h
    · exact fin (F := fun K => optK _ K) (det_opt _ fun u _ => det_here _) h
    · exact h.elim
  case nilCheck x => exact fin (det_chk _ fun _ => det_here _) h
  case makeFunc fn first caps => exact fin (det_chk _ fun _ => det_here _) h
  case call c =>
    unfold aop
    dsimp only
    generalize c.callee = cal at h ⊢
    split at h
    · rename_i f
      dsimp only
      generalize ev f = xf at h ⊢
      split at h
      · obtain ⟨r, h1, h2⟩ := h
        exact ⟨r, ⟨_, h1, fun r' H' hh => hh⟩, h2⟩
      · exact h.elim
    · dsimp only [builtinK]
      generalize c.args.toList.map ev = xs at h ⊢
      generalize c.argTypes.toList = ts at h ⊢
      split at h
      · rename_i x t
        refine fin (F := fun K => optK (T t) fun ti => match ti.d with
          | .slice _ => lenK x K
          | _ => False) (det_opt _ fun ti _ => ?_) h
        intro K hk
        dsimp only at hk ⊢
        generalize ti.d = d at hk ⊢
        split at hk
        · exact det_len _ K hk
        · exact hk.elim
      · exact h.elim
    · dsimp only [builtinK]
      generalize c.args.toList.map ev = xs at h ⊢
      split at h
      · exact fin (det_minmax _ _ _) h
      · exact h.elim
    · dsimp only [builtinK]
      generalize c.args.toList.map ev = xs at h ⊢
      split at h
      · exact fin (det_minmax _ _ _) h
      · exact h.elim
    · exact h.elim

/-- The operands' values first. -/
def aopQX (P : Program) (T : TTab) (ev : Operand → Option AV) (H : List ABlk) (K : AV → Prop) (o : Op) : Prop :=
  match o with
  | .move x => optK (ev x) K
  | .assign x => optK (ev x) K
  | .pick c a b => optK (ev c) fun uc => optK (ev a) fun ua => optK (ev b) fun ub => match uc with
    | .p (.raw (.bool t)) => K (pickV t ua ub)
    | _ => False
  | .load t a => optK (ev a) fun ua => optK (T t) fun ti => chk (isRowTD ti.d || ti.size == 1) <| loadK H ua ti.size fun us => K (mkVal ti.d us)
  | .binOp op t x y _ => optK (ev x) fun ux => optK (ev y) fun uy => binK P T op t x y ux uy fun v => K (.p (.raw v))
  | .unOp op _ x => optK (ev x) fun ux => unK op ux fun v => K (.p (.raw v))
  | .convert src dst x => optK (ev x) fun ux => match T src, T dst, ux with
    | some ⟨.int _, _, _, _⟩, some ⟨.int k, _, _, _⟩, .p (.raw (.int _ n)) => K (.p (.raw (.int k (k.wrap n))))
    | _, _, _ => False
  | .makeFunc fn first caps => chk first.isEmpty (valsK ev caps.toList fun us => K (.clo fn us))
  | .slice t x lo hi mx => optK (ev x) fun ux => valsK ev lo.toList fun ul => valsK ev hi.toList fun uh => chk mx.isNone (optK (T t) fun ti => match ti.d with
    | .slice e => optK (T e) fun ei => sliceK ei.size ux ul.head? uh.head? K
    | _ => False)
  | .fieldAddr s x f => optK (ev x) fun ux => optK (T s) fun ti => match ti.d with
    | .struct fs => optK fs[f]? fun p => optK (T p.2) fun fi => chk (decide (0 < fi.size)) (addOff ux p.1 K)
    | _ => False
  | .field s x f => optK (ev x) fun ux => optK (T s) fun ti => match ti.d with
    | .struct fs => optK fs[f]? fun p => optK (T p.2) fun fi => match ux with
      | .agg l => chk (decide (p.1 + fi.size ≤ l.length) && (isRowTD fi.d || fi.size == 1)) (K (mkVal fi.d ((l.drop p.1).take fi.size)))
      | _ => False
    | _ => False
  | .indexAddr t x i => optK (ev x) fun ux => optK (ev i) fun ui => optK (T t) fun ti => match ti.d with
    | .slice e => optK (T e) fun ei => indexK (.slice e) ei.size ux ui K
    | .array n e => optK (T e) fun ei => indexK (.array n e) ei.size ux ui K
    | _ => False
  | .extract x i => optK (ev x) fun ux => match ux with
    | .tup l => optK l[i]? K
    | _ => False
  | .nilCheck x => optK (ev x) fun ux => chk (isPtr ux) (K ux)
  | .call c => match c.callee with
    | .value f => optK (ev f) fun uf => valsK ev c.args.toList fun us => match uf with
      | .clo (.func k) caps => ∃ r, AF P k (us ++ caps) H (fun r' H' => r' = r ∧ H' = H) ∧ K r
      | _ => False
    | .builtin .len => valsK ev c.args.toList fun us => match us, c.argTypes.toList with
      | [x], [t] => optK (T t) fun ti => match ti.d with
        | .slice _ => lenK x K
        | _ => False
      | _, _ => False
    | .builtin .max => valsK ev c.args.toList fun us => match us with
      | [x, y] => minmaxK true x y K
      | _ => False
    | .builtin .min => valsK ev c.args.toList fun us => match us with
      | [x, y] => minmaxK false x y K
      | _ => False
    | _ => False
  | _ => False

theorem aopQX_ok {ev : Operand → Option AV} {H : List ABlk} {K : AV → Prop} {o : Op} (h : aopQX P T ev H K o) : aopQ P T (fun x => (ev x).getD .top) H K o := by
  cases o <;> simp only [aopQX] at h <;> try exact h.elim
  case move x => obtain ⟨u, hu, h⟩ := optE h; simp only [aopQ, hu]; exact h
  case assign x => obtain ⟨u, hu, h⟩ := optE h; simp only [aopQ, hu]; exact h
  case pick c x y =>
    obtain ⟨u, hu, h⟩ := optE h
    obtain ⟨v, hv, h⟩ := optE h
    obtain ⟨z, hz, h⟩ := optE h
    simp only [aopQ, hu, hv, hz, Option.getD_some]; exact h
  case load t x => obtain ⟨u, hu, h⟩ := optE h; simp only [aopQ, hu]; exact h
  case binOp op t x y yt =>
    obtain ⟨u, hu, h⟩ := optE h
    obtain ⟨v, hv, h⟩ := optE h
    simp only [aopQ, hu, hv]; exact h
  case unOp op t x => obtain ⟨u, hu, h⟩ := optE h; simp only [aopQ, hu]; exact h
  case convert s d x => obtain ⟨u, hu, h⟩ := optE h; simp only [aopQ, hu]; exact h
  case makeFunc fn first caps =>
    obtain ⟨h1, h⟩ := chkE h
    have h := valsK_ok h
    simp only [aopQ, h1]; exact h
  case slice t x lo hi mx =>
    obtain ⟨u, hu, h⟩ := optE h
    have h := valsK_ok (valsK_ok h)
    rw [head_map, head_map] at h
    simp only [aopQ, hu]; exact h
  case fieldAddr s x f => obtain ⟨u, hu, h⟩ := optE h; simp only [aopQ, hu]; exact h
  case field s x f => obtain ⟨u, hu, h⟩ := optE h; simp only [aopQ, hu]; exact h
  case indexAddr t x y =>
    obtain ⟨u, hu, h⟩ := optE h
    obtain ⟨v, hv, h⟩ := optE h
    simp only [aopQ, hu, hv]; exact h
  case extract x i => obtain ⟨u, hu, h⟩ := optE h; simp only [aopQ, hu]; exact h
  case nilCheck x => obtain ⟨u, hu, h⟩ := optE h; simp only [aopQ, hu]; exact h
  case call c =>
    simp only [aopQ]
    split at h
    · rename_i f hf
      obtain ⟨u, hu, h⟩ := optE h
      have h := valsK_ok h
      simp only [hu, Option.getD_some]; exact h
    · exact valsK_ok h
    · exact valsK_ok h
    · exact valsK_ok h
    · exact h.elim

end
end Go.Proofs.Ytdncagppilehgaa.AL
