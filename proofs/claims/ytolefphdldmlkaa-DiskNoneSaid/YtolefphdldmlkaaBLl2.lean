/- The abstract layer (second make), part l2: each operation comes to one value and one list of blocks. -/
import Derived.Test.YtolefphdldmlkaaBLl
namespace Go.Proofs.Ytolefphdldmlkaa.AL
open Go Go.RowKit

section
variable {P : Program} {T : TTab}

def Det {α : Type} (F : (α → Prop) → Prop) : Prop := ∀ K, F K → ∃ x, (∀ K' : α → Prop, K' x → F K') ∧ K x

theorem det_here {α : Type} (x : α) : Det fun K => K x := fun _ hk => ⟨x, fun _ h => h, hk⟩
theorem det_no {α : Type} : Det fun (_ : α → Prop) => False := fun _ hk => hk.elim
theorem det_opt {α β : Type} (o : Option β) {F : β → (α → Prop) → Prop} (h : ∀ x, o = some x → Det (F x)) : Det fun K => optK o fun x => F x K := fun K hk => by
  cases o with
  | none => exact hk.elim
  | some x => exact h x rfl K hk
theorem det_chk {α : Type} (b : Bool) {F : (α → Prop) → Prop} (h : b = true → Det F) : Det fun K => chk b (F K) := fun K hk => by
  cases b with
  | false => exact hk.elim
  | true => exact h rfl K hk
theorem det_and {α : Type} (p : Prop) {F : (α → Prop) → Prop} (h : Det F) : Det fun K => p ∧ F K := fun K hk => by
  obtain ⟨x, h1, h2⟩ := h K hk.2
  exact ⟨x, fun K' hk' => ⟨hk.1, h1 K' hk'⟩, h2⟩
theorem det_ex {α β : Type} {p : β → Prop} {g : β → α} : Det fun K => ∃ r, p r ∧ K (g r) := fun K hk => by
  obtain ⟨r, h1, h2⟩ := hk
  exact ⟨g r, fun K' hk' => ⟨r, h1, hk'⟩, h2⟩
theorem det_map {α β : Type} {F : (α → Prop) → Prop} (h : Det F) (g : α → β) : Det fun K => F (fun x => K (g x)) := fun K hk => by
  obtain ⟨x, h1, h2⟩ := h _ hk
  exact ⟨g x, fun K' hk' => h1 _ hk', h2⟩

theorem det_load (H : List ABlk) (x : AV) (n : Nat) : Det (loadK H x n) := by
  intro K hk
  unfold loadK at hk ⊢
  split at hk
  · exact det_chk _ (fun _ => det_here _) K hk
  · split at hk
    · exact det_chk _ (fun _ => det_here _) K hk
    · exact hk.elim
  · split at hk
    · exact det_chk _ (fun _ => det_opt _ fun e _ => det_chk _ fun _ => det_here _) K hk
    · exact det_chk _ (fun _ => det_here _) K hk
    · exact hk.elim
  · exact hk.elim

theorem det_store (H : List ABlk) (x : AV) (vs : List AV) : Det (storeK H x vs) := by
  intro K hk
  unfold storeK at hk ⊢
  split at hk
  · split at hk
    · exact det_chk _ (fun _ => det_here _) K hk
    · exact hk.elim
  · split at hk
    · exact det_chk _ (fun _ => det_opt _ fun e _ => det_chk _ fun _ => det_opt _ fun ps _ => det_here _) K hk
    · exact det_chk _ (fun _ => det_here _) K hk
    · exact hk.elim
  · exact hk.elim

theorem det_shift (op : BinOp) (k : IntKind) (x y : Int) : Det (shiftK op k x y) := by
  intro K hk
  cases op <;> simp only [shiftK] at hk ⊢ <;> first | exact hk.elim | exact det_chk _ (fun _ => det_here _) K hk
theorem det_int (op : BinOp) (k : IntKind) (x y : Int) : Det (intK op k x y) := by
  intro K hk
  cases op <;> simp only [intK] at hk ⊢ <;> first | exact hk.elim | exact det_here _ K hk | exact det_chk _ (fun _ => det_here _) K hk

theorem det_bin (P : Program) (T : TTab) (op : BinOp) (t : TypeId) (xo yo : Operand) (x y : AV) : Det (binK P T op t xo yo x y) := by
  intro K hk
  unfold binK at hk ⊢
  split at hk
  · split at hk
    · exact det_shift _ _ _ _ K hk
    · exact det_shift _ _ _ _ K hk
    · exact det_chk _ (fun _ => det_int _ _ _ _) K hk
  · split at hk
    · exact det_here _ K hk
    · exact det_here _ K hk
    · obtain ⟨r, h1, h2, h3⟩ := hk
      exact ⟨r, fun K' hk' => ⟨r, h1, h2, hk'⟩, h3⟩
  · split at hk
    · exact det_here _ K hk
    · exact det_here _ K hk
    · exact hk.elim
  · refine det_opt _ (fun vs _ => det_opt _ fun vs' _ => ?_) K hk
    intro K hk
    obtain ⟨r, h1, h2, h3⟩ := hk
    exact ⟨r, fun K' hk' => ⟨r, h1, h2, hk'⟩, h3⟩
  · split at hk
    · split at hk
      · exact det_here _ K hk
      · exact det_chk _ (fun _ => det_here _) K hk
    · split at hk
      · exact det_here _ K hk
      · exact det_chk _ (fun _ => det_here _) K hk
    · exact hk.elim
  · exact hk.elim

theorem det_binV (P : Program) (T : TTab) (op : BinOp) (t : TypeId) (xo yo : Operand) (x y : AV) (hy : (match yo with | .const (.slice none 0 0) => false | _ => true) = true) : Det (binV P T op t xo yo x y) := by
  intro K hk
  unfold binV at hk ⊢
  split at hk
  · simp at hy
  · exact det_bin _ _ _ _ _ _ _ _ K hk

theorem det_un (op : UnOp) (x : AV) : Det (unK op x) := by
  intro K hk
  unfold unK at hk ⊢
  split at hk
  · exact det_here _ K hk
  · exact det_here _ K hk
  · exact hk.elim

theorem det_slice (sz : Nat) (x : AV) (lo hi : Option AV) : Det (sliceK sz x lo hi) := by
  intro K hk
  unfold sliceK at hk ⊢
  split at hk
  · exact det_chk _ (fun _ => det_opt _ fun l _ => det_opt _ fun h _ => det_and _ (det_here _)) K hk
  · exact det_chk _ (fun _ => det_opt _ fun l _ => det_opt _ fun h _ => det_and _ (det_here _)) K hk
  · exact det_opt _ (fun l _ => det_opt _ fun h _ => det_and _ (det_here _)) K hk
  · exact hk.elim

theorem det_addOff (x : AV) (n : Nat) : Det (addOff x n) := by
  intro K hk
  unfold addOff at hk ⊢
  split at hk
  · exact det_here _ K hk
  · exact det_here _ K hk
  · exact det_here _ K hk
  · exact hk.elim

theorem det_index (d : TD) (sz : Nat) (x i : AV) : Det (indexK d sz x i) := by
  intro K hk
  unfold indexK at hk ⊢
  split at hk
  · split at hk
    · exact det_chk _ (fun _ => det_and _ (det_opt _ fun e _ => det_here _)) K hk
    · exact det_chk _ (fun _ => det_and _ (det_here _)) K hk
    · exact det_and _ (det_here _) K hk
    · exact det_and _ (det_here _) K hk
    · exact det_chk _ (fun _ => det_and _ (det_here _)) K hk
    · exact hk.elim
  · exact hk.elim

theorem det_len (x : AV) : Det (lenK x) := by
  intro K hk
  unfold lenK at hk ⊢
  split at hk
  · exact det_here _ K hk
  · exact det_here _ K hk
  · exact det_here _ K hk
  · exact hk.elim

theorem det_lenT (d : TD) (x : AV) : Det (lenT d x) := by
  intro K hk
  unfold lenT at hk ⊢
  split at hk
  · exact det_len _ K hk
  · split at hk
    · exact det_here _ K hk
    · exact hk.elim
  · exact det_here _ K hk
  · exact hk.elim

theorem det_append (H : List ABlk) (e : TypeId) (ti : TI) (s x : AV) : Det fun K : AV × List ABlk → Prop => appendK H e ti s x fun u H' => K (u, H') := by
  intro K hk
  unfold appendK at hk ⊢
  refine det_opt _ (F := fun ys K => _) (fun ys _ => ?_) K hk
  intro K hk
  split at hk
  · exact det_and _ (det_here _) K hk
  · split at hk
    · exact det_chk _ (fun _ => det_and _ (det_and _ (det_here _))) K hk
    · exact hk.elim
  · exact hk.elim

theorem det_clear (H : List ABlk) (ti : TI) (x : AV) : Det (clearK H ti x) := by
  intro K hk
  unfold clearK at hk ⊢
  split at hk
  · split at hk
    · exact det_chk _ (fun _ => det_and _ (det_here _)) K hk
    · exact hk.elim
  · exact det_here _ K hk
  · exact hk.elim

theorem det_indexV (ei : TI) (N : Nat) (d : TD) (x i : AV) : Det (indexV ei N d x i) := by
  intro K hk
  unfold indexV at hk ⊢
  split at hk
  · exact det_and _ (det_chk _ fun _ => det_here _) K hk
  · exact hk.elim

theorem det_indexS (x i : AV) : Det (indexS x i) := by
  intro K hk
  unfold indexS at hk ⊢
  split at hk
  · exact det_and _ (det_opt _ fun _ _ => det_here _) K hk
  · exact hk.elim

theorem det_mapPut (T : TTab) (t : TypeId) (H : List ABlk) (m k v : AV) : Det (mapPutK T t H m k v) := by
  intro K hk
  unfold mapPutK at hk ⊢
  split at hk
  · refine det_opt _ (F := fun v K => _) (fun v _ => ?_) K hk
    refine det_opt _ (F := fun ti K => _) (fun ti _ => ?_)
    intro K hk
    split at hk
    · refine det_opt _ (F := fun ki K => _) (fun ki _ => ?_) K hk
      refine det_chk _ (F := fun K => _) (fun _ => ?_)
      intro K hk
      split at hk
      · exact det_opt _ (fun _ _ => det_here _) K hk
      · exact hk.elim
    · exact hk.elim
  · exact hk.elim

theorem det_mapGet (P : Program) (T : TTab) (t : TypeId) (ok : Bool) (H : List ABlk) (m k : AV) : Det (mapGetK P T t ok H m k) := by
  intro K hk
  unfold mapGetK at hk ⊢
  split at hk
  · refine det_opt _ (F := fun ti K => _) (fun ti _ => ?_) K hk
    intro K hk
    split at hk
    · refine det_opt _ (F := fun ki K => _) (fun ki _ => ?_) K hk
      refine det_opt _ (F := fun ei K => _) (fun ei _ => ?_)
      refine det_chk _ (F := fun K => _) (fun _ => ?_)
      intro K hk
      split at hk
      · refine det_opt _ (F := fun r K => _) (fun r _ => ?_) K hk
        intro K hk
        split at hk
        · exact det_chk _ (fun _ => det_here _) K hk
        · obtain ⟨i, v, h1, h2, h3, h4⟩ := hk
          exact ⟨_, fun K' hk' => ⟨i, v, h1, h2, h3, hk'⟩, h4⟩
      · exact hk.elim
    · exact hk.elim
  · exact hk.elim

theorem det_conv (s d : TI) (u : AV) (H : List ABlk) (T : TTab) : Det fun K : AV × List ABlk → Prop => convK s d u H T fun u H' => K (u, H') := by
  intro K hk
  unfold convK at hk ⊢
  split at hk
  · exact det_here _ K hk
  · refine det_opt _ (F := fun ei K => _) (fun ei _ => ?_) K hk
    intro K hk
    split at hk
    · refine det_chk _ (F := fun K => _) (fun _ => ?_) K hk
      refine det_opt _ (F := fun ys K => _) (fun ys _ => ?_)
      intro K hk
      obtain ⟨bs, h1, h2⟩ := hk
      exact ⟨_, fun K' hk' => ⟨bs, h1, hk'⟩, h2⟩
    · exact hk.elim
  · exact hk.elim

theorem det_on1 {α : Type} (us : List AV) {F : AV → (α → Prop) → Prop} (h : ∀ x, Det (F x)) : Det fun K => on1 us fun x => F x K := by
  intro K hk
  unfold on1 at hk ⊢
  split at hk
  · exact h _ K hk
  · exact hk.elim
theorem det_on2 {α : Type} (us : List AV) {F : AV → AV → (α → Prop) → Prop} (h : ∀ x y, Det (F x y)) : Det fun K => on2 us fun x y => F x y K := by
  intro K hk
  unfold on2 at hk ⊢
  split at hk
  · exact h _ _ K hk
  · exact hk.elim
theorem det_on3 {α : Type} (us : List AV) {F : AV → AV → AV → (α → Prop) → Prop} (h : ∀ x y z, Det (F x y z)) : Det fun K => on3 us fun x y z => F x y z K := by
  intro K hk
  unfold on3 at hk ⊢
  split at hk
  · exact h _ _ _ K hk
  · exact hk.elim
theorem det_onC {α : Type} (us : List AV) {F : AV → List AV → (α → Prop) → Prop} (h : ∀ x r, Det (F x r)) : Det fun K => onC us fun x r => F x r K := by
  intro K hk
  unfold onC at hk ⊢
  split at hk
  · exact h _ _ K hk
  · exact hk.elim

theorem det_minmax (mx : Bool) (x y : AV) : Det (minmaxK mx x y) := by
  intro K hk
  unfold minmaxK at hk ⊢
  split at hk
  · exact det_here _ K hk
  · exact hk.elim


/-- Calls that come to one answer. -/
structure DetC (C : CallA) : Prop where
  fn : ∀ f args H, Det fun K : AV × List ABlk → Prop => C.fn f args H fun u H' => K (u, H')
  yld : ∀ b args H, Det fun K : AV × List ABlk → Prop => C.yld b args H fun u H' => K (u, H')

theorem det_callee {C : CallA} (hC : DetC C) (f : AV) (us : List AV) (H : List ABlk) : Det fun K : AV × List ABlk → Prop => calleeK C f us H fun u H' => K (u, H') := by
  intro K hk
  unfold calleeK at hk ⊢
  split at hk
  · exact hC.fn _ _ _ K hk
  · exact hC.fn _ _ _ K hk
  · exact hC.yld _ _ _ K hk
  · exact hC.fn _ _ _ K hk
  · exact hk.elim

theorem det_builtin (T : TTab) (b : Builtin) (ts : List TypeId) (xs : List AV) (H : List ABlk) : Det fun K : AV × List ABlk → Prop => builtinK T b ts xs H fun u H' => K (u, H') := by
  intro K hk
  unfold builtinK at hk ⊢
  split at hk
  · split at hk
    · exact det_opt _ (fun ti _ => det_map (det_lenT _ _) (fun u => (u, H))) K hk
    · exact hk.elim
  · split at hk
    · refine det_chk _ (F := fun K => _) (fun _ => ?_) K hk
      refine det_opt _ (F := fun ti K => _) (fun ti _ => ?_)
      intro K hk
      split at hk
      · exact det_opt _ (fun ei _ => det_chk _ fun _ => det_append _ _ _ _ _) K hk
      · exact hk.elim
    · exact hk.elim
  · exact det_map (det_minmax _ _ _) (fun u => (u, H)) K hk
  · exact det_map (det_minmax _ _ _) (fun u => (u, H)) K hk
  · split at hk
    · refine det_opt _ (F := fun ti K => _) (fun ti _ => ?_) K hk
      intro K hk
      split at hk
      · exact det_opt _ (fun ei _ => det_chk _ fun _ => det_map (det_clear _ _ _) (fun H' => (AV.top, H'))) K hk
      · exact hk.elim
    · exact hk.elim
  · exact hk.elim

theorem det_opV {C : CallA} (hC : DetC C) (H : List ABlk) (o : Op) (us : List AV) (ho : detK o = true) : Det fun K : AV × List ABlk → Prop => opV P T C H (fun u H' => K (u, H')) o us := by
  intro K hk
  cases o <;> simp only [opV] at hk ⊢ <;> try exact hk.elim
  case move x => exact det_on1 us (fun x => det_here (x, H)) K hk
  case assign x => exact det_on1 us (fun x => det_here (x, H)) K hk
  case pick c x y =>
    refine det_on3 us (F := fun c x y K => _) (fun c x y => ?_) K hk
    intro K hk
    split at hk
    · exact det_here _ K hk
    · exact hk.elim
  case alloc t => exact det_opt _ (fun ti _ => det_here _) K hk
  case box t x => exact det_on1 us (fun x => det_opt _ fun l _ => det_here _) K hk
  case build t ps =>
    refine det_opt _ (F := fun ti K => _) (fun ti _ => ?_) K hk
    intro K hk
    split at hk
    · exact det_opt _ (fun pl _ => det_opt _ fun l _ => det_here _) K hk
    · exact det_opt _ (fun pl _ => det_opt _ fun l _ => det_here _) K hk
    · exact hk.elim
  case buildSlice t n ps =>
    refine det_opt _ (F := fun ti K => _) (fun ti _ => ?_) K hk
    intro K hk
    split at hk
    · exact det_opt _ (fun ei _ => det_chk _ fun _ => det_opt _ fun l _ => det_here _) K hk
    · exact hk.elim
  case load t x => exact det_on1 us (fun a => det_opt _ fun ti _ => det_chk _ fun _ => det_map (det_load _ _ _) (fun us => (mkVal ti.d us, H))) K hk
  case store t p x => exact det_on2 us (fun a x => det_opt _ fun ti _ => det_opt _ fun vs _ => det_chk _ fun _ => det_map (det_store _ _ _) (fun H' => (AV.top, H'))) K hk
  case binOp op t x y yt => exact det_on2 us (fun a b => det_map (det_binV _ _ _ _ _ _ _ _ ho) (fun v => (AV.p (.raw v), H))) K hk
  case unOp op t x => exact det_on1 us (fun a => det_map (det_un _ _) (fun v => (AV.p (.raw v), H))) K hk
  case convert s d x => exact det_on1 us (fun a => det_opt _ fun s _ => det_opt _ fun d _ => det_conv _ _ _ _ _) K hk
  case makeFunc fn first caps =>
    split at hk
    · exact det_here _ K hk
    · exact det_chk _ (fun _ => det_here _) K hk
  case makeMap t r => exact det_chk _ (fun _ => det_here _) K hk
  case makeSlice t l c =>
    refine det_on2 us (F := fun l c K => _) (fun l c => ?_) K hk
    refine det_opt _ (F := fun ti K => _) (fun ti _ => ?_)
    intro K hk
    split at hk
    · refine det_opt _ (F := fun ei K => _) (fun ei _ => ?_) K hk
      refine det_chk _ (F := fun K => _) (fun _ => ?_)
      intro K hk
      split at hk
      · exact det_and _ (det_here _) K hk
      · exact hk.elim
    · exact hk.elim
  case slice t x lo hi mx =>
    refine det_onC us (F := fun x r K => _) (fun x r => ?_) K hk
    refine det_chk _ (F := fun K => _) (fun _ => ?_)
    refine det_opt _ (F := fun ti K => _) (fun ti _ => ?_)
    intro K hk
    split at hk
    · exact det_opt _ (fun ei _ => det_map (det_slice _ _ _ _) (fun u => (u, H))) K hk
    · split at hk
      · exact det_opt _ (fun l _ => det_opt _ fun h _ => det_and _ (det_here _)) K hk
      · exact hk.elim
    · exact hk.elim
  case fieldAddr s x f =>
    refine det_on1 us (F := fun x K => _) (fun x => ?_) K hk
    refine det_opt _ (F := fun ti K => _) (fun ti _ => ?_)
    intro K hk
    split at hk
    · exact det_opt _ (fun p _ => det_opt _ fun fi _ => det_chk _ fun _ => det_map (det_addOff _ _) (fun u => (u, H))) K hk
    · exact hk.elim
  case field s x f =>
    refine det_on1 us (F := fun x K => _) (fun x => ?_) K hk
    refine det_opt _ (F := fun ti K => _) (fun ti _ => ?_)
    intro K hk
    split at hk
    · refine det_opt _ (F := fun p K => _) (fun p _ => ?_) K hk
      refine det_opt _ (F := fun fi K => _) (fun fi _ => ?_)
      intro K hk
      split at hk
      · exact det_chk _ (fun _ => det_here _) K hk
      · exact hk.elim
    · exact hk.elim
  case indexAddr t x i =>
    refine det_on2 us (F := fun x i K => _) (fun x i => ?_) K hk
    refine det_opt _ (F := fun ti K => _) (fun ti _ => ?_)
    intro K hk
    split at hk
    · exact det_opt _ (fun ei _ => det_map (det_index _ _ _ _) (fun u => (u, H))) K hk
    · exact det_opt _ (fun ei _ => det_map (det_index _ _ _ _) (fun u => (u, H))) K hk
    · exact hk.elim
  case index t x i =>
    refine det_on2 us (F := fun x i K => _) (fun x i => ?_) K hk
    refine det_opt _ (F := fun ti K => _) (fun ti _ => ?_)
    intro K hk
    split at hk
    · exact det_opt _ (fun ei _ => det_map (det_indexV _ _ _ _ _) (fun u => (u, H))) K hk
    · exact det_map (det_indexS _ _) (fun u => (u, H)) K hk
    · exact hk.elim
  case extract x i =>
    refine det_on1 us (F := fun x K => _) (fun x => ?_) K hk
    intro K hk
    split at hk
    · exact det_opt _ (fun u _ => det_here _) K hk
    · exact hk.elim
  case nilCheck x => exact det_on1 us (fun x => det_chk _ fun _ => det_here _) K hk
  case lookup t m k ok => exact det_on2 us (fun m k => det_map (det_mapGet _ _ _ _ _ _ _) (fun u => (u, H))) K hk
  case insert t m k v => exact det_on3 us (fun m k v => det_map (det_mapPut _ _ _ _ _ _) (fun H' => (AV.top, H'))) K hk
  case mapUpdate t m k v => exact det_on3 us (fun m k v => det_map (det_mapPut _ _ _ _ _ _) (fun H' => (AV.top, H'))) K hk
  case call c =>
    split at hk
    · exact det_onC us (fun f r => det_callee hC _ _ _) K hk
    · exact det_builtin _ _ _ _ _ K hk
    · exact hk.elim

end
end Go.Proofs.Ytolefphdldmlkaa.AL
