/- The abstract layer, part u: what a law's arguments read as; the call's end as the row asks. -/
import Derived.Test.YtolefphdldmlkaaBLs
import Derived.WalkKit
import Derived.ProofKit
import Derived.OpenShut
import Derived.ChangeOld
import Derived.Below
import Derived.SizedLaws
import Derived.Deep.Slices
import Derived.Lib.SmallJoins
namespace Go.Proofs.Ytolefphdldmlkaa.AL
open Go Go.RowKit Go.ChangeShapes Go.WideShapes Go.ChangeAt Go.Deep

/-- A contract at closed arguments, as the rows ask it: what was there stays. -/
theorem af_calls {P : Program} {f : FuncId} {args : List AV} {r : Value} {W : World} {vals : Array Value} (h : AF P f args [] (Pure (.p (.raw r)) [])) (hn : vals.size = args.length)
    (ha : ∀ i u, args[i]? = some u → ARep W (· < W.heap.size) (fun _ => none) u (vals.getD i undef)) : Calls P f vals W fun e W' => e = .returned r ∧ Below W.heap.size W W' := by
  have hs : SimH W (· < W.heap.size) (fun _ => none) [] := ⟨fun b k hb => by simp at hb, fun b b' B hb => by obtain ⟨k, hk, _⟩ := hb; simp at hk, fun B hB => hB, fun _ _ => rfl, fun b B hb => by simp at hb⟩
  refine (h.2 W _ _ vals hn ha hs).mono ?_
  rintro e W' ⟨v, r', H', I', ι', rfl, ⟨rfl, rfl⟩, hr, hs', hx⟩
  rw [rep_raw hr]
  refine ⟨rfl, ⟨hx.ext.os, hx.ext.tape, hx.ext.output, hx.ext.size, fun k hk => hx.ext.frame k hk ?_⟩⟩
  rintro ⟨b, hb, _⟩
  obtain ⟨k', hk', _⟩ := hb
  simp at hk'

section
variable {H : Type} {enc : TypeId × Value → H} {P : Program} {W : World} {spare : Nat → Bool} {held : Bool}

theorem len_le_maxLen {n : Nat} (h : n ≤ maxLen) : n ≤ 9223372036854775807 := by
  have : maxLen = 9223372036854775807 := by decide
  omega

/-- A slice whose elements' cells read as they should. -/
theorem rep_slice {t e : TypeId} {v : Value} {d : DataW H} {ps : List MemPlace} {r : Reach} {b0 : Nat} {ι : Nat → Option Nat} (ht : P.underlying t = some (.slice e)) (hval : Value.okWide P W r b0 t v) (h : DataW.Trod enc P W 0 spare held t v d ps)
    {α : Type} [Inhabited α] (pv : α → List PV) (sz : Nat) (hsz : P.cellsOf e = sz) (h0 : 0 < sz)
    (hel : ∀ (n : Nat) (cs : List Value) (x : DataW H × List MemPlace), DataW.trod enc P W 0 spare held n e cs = some x → ∃ a : α, (pv a).length = sz ∧ ∀ (i : Nat) (u : PV), (pv a)[i]? = some u → ∀ v : Value, cs[i]? = some v → PRep W (· < W.heap.size) u v) :
    ∃ l : List α, ARep W (· < W.heap.size) ι (.p (.sl sz (l.map pv))) v := by
  classical
  obtain ⟨a0, len, cap, rfl⟩ := okWide_slice ht hval
  obtain ⟨fuel, hf⟩ := h
  rcases open_slice ht hf with ⟨hcs, _⟩ | ⟨a, len', cap', m, n, D, Pl, hcs, _, hl, hm, hmm, _, hx⟩
  · simp [Value.cells] at hcs
    obtain ⟨rfl, rfl, rfl⟩ := hcs
    exact ⟨[], .p (PRep.sl sz [] none 0 (fun _ _ => undef) (by simp) (by simp) (.inl rfl) (fun j e i u h => by simp at h))⟩
  · simp [Value.cells] at hcs
    obtain ⟨rfl, rfl, rfl⟩ := hcs
    have hlm : len ≤ m := by rw [hmm]; split <;> omega
    have hone : ∀ i, ∃ x : α, i < len → (pv x).length = sz ∧ (∀ k, k < sz → ∃ v, W.cell? ((a.add (i * sz)).add k) = some v) ∧ ∀ (k : Nat) (u : PV) (v : Value), (pv x)[k]? = some u → W.cell? ((a.add (i * sz)).add k) = some v → PRep W (· < W.heap.size) u v := by
      intro i
      by_cases hi : i < len
      · obtain ⟨cs', h1, h2⟩ := hx i (by omega)
        rw [hsz] at h1
        obtain ⟨x, h3, h4⟩ := hel n cs' _ h2
        obtain ⟨_, hlen, hc⟩ := World.cells?_some h1
        refine ⟨x, fun _ => ⟨h3, fun k hk => ?_, fun k u v hu hv => ?_⟩⟩
        · exact ⟨cs'[k]'(by omega), by rw [hc k hk, List.getElem?_eq_getElem]⟩
        · have hk : k < sz := by rw [← h3]; exact (List.getElem?_eq_some_iff.1 hu).1
          exact h4 k u hu v (by rw [← hc k hk]; exact hv)
      · exact ⟨default, fun h => absurd h hi⟩
    let g : Nat → α := fun i => (hone i).choose
    have hg : ∀ i, i < len → (pv (g i)).length = sz ∧ (∀ k, k < sz → ∃ v, W.cell? ((a.add (i * sz)).add k) = some v) ∧ ∀ (k : Nat) (u : PV) (v : Value), (pv (g i))[k]? = some u → W.cell? ((a.add (i * sz)).add k) = some v → PRep W (· < W.heap.size) u v := fun i hi => (hone i).choose_spec hi
    clear_value g
    have hlen : (((List.range len).map g).map pv).length = len := by simp
    have hget : ∀ (j : Nat) (e : List PV), (((List.range len).map g).map pv)[j]? = some e → j < len ∧ e = pv (g j) := by
      intro j e hj
      have hjl : j < len := by rw [← hlen]; exact (List.getElem?_eq_some_iff.1 hj).1
      simp [hjl] at hj
      exact ⟨hjl, hj.symm⟩
    refine ⟨(List.range len).map g, .p ?_⟩
    have := PRep.sl (w := W) (I := (· < W.heap.size)) sz (((List.range len).map g).map pv) (some a) cap (fun j i => (W.cell? ((a.add (j * sz)).add i)).getD undef) (by omega) (by have := len_le_maxLen hm; omega) ?_ ?_
    · rw [hlen] at this; exact this
    · · rcases Nat.eq_zero_or_pos len with hz | hz
        · subst hz; exact .inl rfl
        · obtain ⟨v, hv⟩ := (hg 0 hz).2.1 0 h0
          obtain ⟨ab, ao, asp⟩ := a
          have hspot : asp = none := by simpa [Addr.add] using World.cell?_spot hv
          subst hspot
          refine .inr ⟨ab, ao, rfl, ?_, fun j e hj => ?_⟩
          · unfold World.cell? at hv
            split at hv
            · rename_i hb
              have := (Array.getElem?_eq_some_iff.1 hb).1
              simpa [Addr.add] using this
            · simp at hv
          · obtain ⟨hjl, rfl⟩ := hget j e hj
            refine ⟨(hg j hjl).1, fun i hi => ?_⟩
            obtain ⟨v, hv⟩ := (hg j hjl).2.1 i hi
            have e1 : (Addr.add ⟨ab, ao, none⟩ (j * sz)).add i = ⟨ab, ao + j * sz + i, none⟩ := by rw [add_plain, add_plain]
            rw [e1] at hv
            rw [hv]
            show some v = some ((W.cell? _).getD undef)
            rw [e1, hv]; rfl
    · intro j e i u hj hu
      obtain ⟨hjl, rfl⟩ := hget j e hj
      have hi : i < sz := by rw [← (hg j hjl).1]; exact (List.getElem?_eq_some_iff.1 hu).1
      obtain ⟨v, hv⟩ := (hg j hjl).2.1 i hi
      rw [hv]
      exact (hg j hjl).2.2 i u v hu hv
/-- The same, of a slice that stands in a cell. -/
theorem rep_sliceT {t e : TypeId} {fuel : Nat} {vs : List Value} {y : DataW H × List MemPlace} (ht : P.underlying t = some (.slice e)) (hf : DataW.trod enc P W 0 spare held fuel t vs = some y)
    {α : Type} [Inhabited α] (pv : α → List PV) (sz : Nat) (hsz : P.cellsOf e = sz) (h0 : 0 < sz)
    (hel : ∀ (n : Nat) (cs : List Value) (x : DataW H × List MemPlace), DataW.trod enc P W 0 spare held n e cs = some x → ∃ a : α, (pv a).length = sz ∧ ∀ (i : Nat) (u : PV), (pv a)[i]? = some u → ∀ v : Value, cs[i]? = some v → PRep W (· < W.heap.size) u v) :
    ∃ (l : List α) (v : Value), vs = [v] ∧ PRep W (· < W.heap.size) (.sl sz (l.map pv)) v := by
  classical
  rcases open_slice ht hf with ⟨hcs, _⟩ | ⟨a, len, cap, m, n, D, Pl, hcs, _, hl, hm, hmm, _, hx⟩
  · exact ⟨[], _, hcs, (PRep.sl sz [] none 0 (fun _ _ => undef) (by simp) (by simp) (.inl rfl) (fun j e i u h => by simp at h))⟩
  · have hlm : len ≤ m := by rw [hmm]; split <;> omega
    have hone : ∀ i, ∃ x : α, i < len → (pv x).length = sz ∧ (∀ k, k < sz → ∃ v, W.cell? ((a.add (i * sz)).add k) = some v) ∧ ∀ (k : Nat) (u : PV) (v : Value), (pv x)[k]? = some u → W.cell? ((a.add (i * sz)).add k) = some v → PRep W (· < W.heap.size) u v := by
      intro i
      by_cases hi : i < len
      · obtain ⟨cs', h1, h2⟩ := hx i (by omega)
        rw [hsz] at h1
        obtain ⟨x, h3, h4⟩ := hel n cs' _ h2
        obtain ⟨_, hlen, hc⟩ := World.cells?_some h1
        refine ⟨x, fun _ => ⟨h3, fun k hk => ?_, fun k u v hu hv => ?_⟩⟩
        · exact ⟨cs'[k]'(by omega), by rw [hc k hk, List.getElem?_eq_getElem]⟩
        · have hk : k < sz := by rw [← h3]; exact (List.getElem?_eq_some_iff.1 hu).1
          exact h4 k u hu v (by rw [← hc k hk]; exact hv)
      · exact ⟨default, fun h => absurd h hi⟩
    let g : Nat → α := fun i => (hone i).choose
    have hg : ∀ i, i < len → (pv (g i)).length = sz ∧ (∀ k, k < sz → ∃ v, W.cell? ((a.add (i * sz)).add k) = some v) ∧ ∀ (k : Nat) (u : PV) (v : Value), (pv (g i))[k]? = some u → W.cell? ((a.add (i * sz)).add k) = some v → PRep W (· < W.heap.size) u v := fun i hi => (hone i).choose_spec hi
    clear_value g
    have hlen : (((List.range len).map g).map pv).length = len := by simp
    have hget : ∀ (j : Nat) (e : List PV), (((List.range len).map g).map pv)[j]? = some e → j < len ∧ e = pv (g j) := by
      intro j e hj
      have hjl : j < len := by rw [← hlen]; exact (List.getElem?_eq_some_iff.1 hj).1
      simp [hjl] at hj
      exact ⟨hjl, hj.symm⟩
    refine ⟨(List.range len).map g, _, hcs, ?_⟩
    have := PRep.sl (w := W) (I := (· < W.heap.size)) sz (((List.range len).map g).map pv) (some a) cap (fun j i => (W.cell? ((a.add (j * sz)).add i)).getD undef) (by omega) (by have := len_le_maxLen hm; omega) ?_ ?_
    · rw [hlen] at this; exact this
    · · rcases Nat.eq_zero_or_pos len with hz | hz
        · subst hz; exact .inl rfl
        · obtain ⟨v, hv⟩ := (hg 0 hz).2.1 0 h0
          obtain ⟨ab, ao, asp⟩ := a
          have hspot : asp = none := by simpa [Addr.add] using World.cell?_spot hv
          subst hspot
          refine .inr ⟨ab, ao, rfl, ?_, fun j e hj => ?_⟩
          · unfold World.cell? at hv
            split at hv
            · rename_i hb
              have := (Array.getElem?_eq_some_iff.1 hb).1
              simpa [Addr.add] using this
            · simp at hv
          · obtain ⟨hjl, rfl⟩ := hget j e hj
            refine ⟨(hg j hjl).1, fun i hi => ?_⟩
            obtain ⟨v, hv⟩ := (hg j hjl).2.1 i hi
            have e1 : (Addr.add ⟨ab, ao, none⟩ (j * sz)).add i = ⟨ab, ao + j * sz + i, none⟩ := by rw [add_plain, add_plain]
            rw [e1] at hv
            rw [hv]
            show some v = some ((W.cell? _).getD undef)
            rw [e1, hv]; rfl
    · intro j e i u hj hu
      obtain ⟨hjl, rfl⟩ := hget j e hj
      have hi : i < sz := by rw [← (hg j hjl).1]; exact (List.getElem?_eq_some_iff.1 hu).1
      obtain ⟨v, hv⟩ := (hg j hjl).2.1 i hi
      rw [hv]
      exact (hg j hjl).2.2 i u v hu hv
end
end Go.Proofs.Ytolefphdldmlkaa.AL
