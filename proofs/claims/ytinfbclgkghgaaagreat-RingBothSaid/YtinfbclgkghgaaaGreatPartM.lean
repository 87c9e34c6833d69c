/- A part of the proof. -/
import Derived.ProofKit
import Derived.OpenShut
import Derived.ChangeOld
import Derived.Below
import Derived.SizedLaws
import Derived.Deep.Slices
import Derived.Lib.SmallJoins
import Derived.Laws.IdiomArrays
import Derived.Test.YtinfbclgkghgaaaGreatRows
import Derived.JoinedOf
import Derived.Test.YtinfbclgkghgaaaGreatPartL
/- The abstract layer, part u: what a law's arguments read as; the call's end as the row asks. -/
namespace Go.Proofs.YtinfbclgkghgaaaGreat.AL
open Go Go.RowKit Go.ChangeShapes Go.WideShapes Go.ChangeAt Go.Deep

/-- A contract at closed arguments, as the rows ask it: what was there stays. -/
theorem af_calls {P : Program} {f : FuncId} {args : List AV} {r : Value} {W : World} {vals : Array Value} (h : AF P f args [] (Pure (.p (.raw r)) [])) (hn : vals.size = args.length)
    (ha : ∀ i u, args[i]? = some u → ARep W (· < W.heap.size) (fun _ => none) u (vals.getD i undef)) : Calls P f vals W fun e W' => e = .returned r ∧ Below W.heap.size W W' := by
  have hs : SimH W (· < W.heap.size) (fun _ => none) [] := ⟨fun b k hb => by simp at hb, fun b b' B hb => by obtain ⟨k, hk, _⟩ := hb; simp at hk, fun B hB => hB, fun _ _ => rfl, fun b B hb => by simp at hb⟩
  refine (h.2 W _ _ vals hn ha hs).mono ?_
  rintro e W' ⟨v, r', H', I', ι', rfl, ⟨rfl, rfl⟩, hr, hs', hx⟩
  rw [rep_raw hr]
  refine ⟨rfl, ⟨hx.ext.os, hx.ext.tape, hx.ext.output, hx.ext.size, fun k hk => hx.ext.frame k hk ?_⟩⟩
  rintro ⟨b, hb, _⟩
  obtain ⟨k', hk', _⟩ := hb
  simp at hk'

section
variable {H : Type} {enc : TypeId × Value → H} {P : Program} {W : World} {spare : Nat → Bool} {held : Bool}

theorem len_le_maxLen {n : Nat} (h : n ≤ maxLen) : n ≤ 9223372036854775807 := by
  have : maxLen = 9223372036854775807 := by decide
  omega

/-- A slice whose elements' cells read as they should. -/
theorem rep_slice {t e : TypeId} {v : Value} {d : DataW H} {ps : List MemPlace} {r : Reach} {b0 : Nat} {ι : Nat → Option Nat} (ht : P.underlying t = some (.slice e)) (hval : Value.okWide P W r b0 t v) (h : DataW.Trod enc P W 0 spare held t v d ps)
    {α : Type} [Inhabited α] (pv : α → List PV) (sz : Nat) (hsz : P.cellsOf e = sz) (h0 : 0 < sz)
    (hel : ∀ (n : Nat) (cs : List Value) (x : DataW H × List MemPlace), DataW.trod enc P W 0 spare held n e cs = some x → ∃ a : α, (pv a).length = sz ∧ ∀ (i : Nat) (u : PV), (pv a)[i]? = some u → ∀ v : Value, cs[i]? = some v → PRep W (· < W.heap.size) u v) :
    ∃ l : List α, ARep W (· < W.heap.size) ι (.p (.sl sz (l.map pv))) v := by
  classical
  obtain ⟨a0, len, cap, rfl⟩ := okWide_slice ht hval
  obtain ⟨fuel, hf⟩ := h
  rcases open_slice ht hf with ⟨hcs, _⟩ | ⟨a, len', cap', m, n, D, Pl, hcs, _, hl, hm, hmm, _, hx⟩
  · simp [Value.cells] at hcs
    obtain ⟨rfl, rfl, rfl⟩ := hcs
    exact ⟨[], .p (PRep.sl sz [] none 0 (fun _ _ => undef) (by simp) (by simp) (.inl rfl) (fun j e i u h => by simp at h))⟩
  · simp [Value.cells] at hcs
    obtain ⟨rfl, rfl, rfl⟩ := hcs
    have hlm : len ≤ m := by rw [hmm]; split <;> omega
    have hone : ∀ i, ∃ x : α, i < len → (pv x).length = sz ∧ (∀ k, k < sz → ∃ v, W.cell? ((a.add (i * sz)).add k) = some v) ∧ ∀ (k : Nat) (u : PV) (v : Value), (pv x)[k]? = some u → W.cell? ((a.add (i * sz)).add k) = some v → PRep W (· < W.heap.size) u v := by
      intro i
      by_cases hi : i < len
      · obtain ⟨cs', h1, h2⟩ := hx i (by omega)
        rw [hsz] at h1
        obtain ⟨x, h3, h4⟩ := hel n cs' _ h2
        obtain ⟨_, hlen, hc⟩ := World.cells?_some h1
        refine ⟨x, fun _ => ⟨h3, fun k hk => ?_, fun k u v hu hv => ?_⟩⟩
        · exact ⟨cs'[k]'(by omega), by rw [hc k hk, List.getElem?_eq_getElem]⟩
        · have hk : k < sz := by rw [← h3]; exact (List.getElem?_eq_some_iff.1 hu).1
          exact h4 k u hu v (by rw [← hc k hk]; exact hv)
      · exact ⟨default, fun h => absurd h hi⟩
    let g : Nat → α := fun i => (hone i).choose
    have hg : ∀ i, i < len → (pv (g i)).length = sz ∧ (∀ k, k < sz → ∃ v, W.cell? ((a.add (i * sz)).add k) = some v) ∧ ∀ (k : Nat) (u : PV) (v : Value), (pv (g i))[k]? = some u → W.cell? ((a.add (i * sz)).add k) = some v → PRep W (· < W.heap.size) u v := fun i hi => (hone i).choose_spec hi
    clear_value g
    have hlen : (((List.range len).map g).map pv).length = len := by simp
    have hget : ∀ (j : Nat) (e : List PV), (((List.range len).map g).map pv)[j]? = some e → j < len ∧ e = pv (g j) := by
      intro j e hj
      have hjl : j < len := by rw [← hlen]; exact (List.getElem?_eq_some_iff.1 hj).1
      simp [hjl] at hj
      exact ⟨hjl, hj.symm⟩
    refine ⟨(List.range len).map g, .p ?_⟩
    have := PRep.sl (w := W) (I := (· < W.heap.size)) sz (((List.range len).map g).map pv) (some a) cap (fun j i => (W.cell? ((a.add (j * sz)).add i)).getD undef) (by omega) (by have := len_le_maxLen hm; omega) ?_ ?_
    · rw [hlen] at this; exact this
    · · rcases Nat.eq_zero_or_pos len with hz | hz
        · subst hz; exact .inl rfl
        · obtain ⟨v, hv⟩ := (hg 0 hz).2.1 0 h0
          obtain ⟨ab, ao, asp⟩ := a
          have hspot : asp = none := by simpa [Addr.add] using World.cell?_spot hv
          subst hspot
          refine .inr ⟨ab, ao, rfl, ?_, fun j e hj => ?_⟩
          · unfold World.cell? at hv
            split at hv
            · rename_i hb
              have := (Array.getElem?_eq_some_iff.1 hb).1
              simpa [Addr.add] using this
            · simp at hv
          · obtain ⟨hjl, rfl⟩ := hget j e hj
            refine ⟨(hg j hjl).1, fun i hi => ?_⟩
            obtain ⟨v, hv⟩ := (hg j hjl).2.1 i hi
            have e1 : (Addr.add ⟨ab, ao, none⟩ (j * sz)).add i = ⟨ab, ao + j * sz + i, none⟩ := by rw [add_plain, add_plain]
            rw [e1] at hv
            rw [hv]
            show some v = some ((W.cell? _).getD undef)
            rw [e1, hv]; rfl
    · intro j e i u hj hu
      obtain ⟨hjl, rfl⟩ := hget j e hj
      have hi : i < sz := by rw [← (hg j hjl).1]; exact (List.getElem?_eq_some_iff.1 hu).1
      obtain ⟨v, hv⟩ := (hg j hjl).2.1 i hi
      rw [hv]
      exact (hg j hjl).2.2 i u v hu hv
/-- The same, of a slice that stands in a cell. -/
theorem rep_sliceT {t e : TypeId} {fuel : Nat} {vs : List Value} {y : DataW H × List MemPlace} (ht : P.underlying t = some (.slice e)) (hf : DataW.trod enc P W 0 spare held fuel t vs = some y)
    {α : Type} [Inhabited α] (pv : α → List PV) (sz : Nat) (hsz : P.cellsOf e = sz) (h0 : 0 < sz)
    (hel : ∀ (n : Nat) (cs : List Value) (x : DataW H × List MemPlace), DataW.trod enc P W 0 spare held n e cs = some x → ∃ a : α, (pv a).length = sz ∧ ∀ (i : Nat) (u : PV), (pv a)[i]? = some u → ∀ v : Value, cs[i]? = some v → PRep W (· < W.heap.size) u v) :
    ∃ (l : List α) (v : Value), vs = [v] ∧ PRep W (· < W.heap.size) (.sl sz (l.map pv)) v := by
  classical
  rcases open_slice ht hf with ⟨hcs, _⟩ | ⟨a, len, cap, m, n, D, Pl, hcs, _, hl, hm, hmm, _, hx⟩
  · exact ⟨[], _, hcs, (PRep.sl sz [] none 0 (fun _ _ => undef) (by simp) (by simp) (.inl rfl) (fun j e i u h => by simp at h))⟩
  · have hlm : len ≤ m := by rw [hmm]; split <;> omega
    have hone : ∀ i, ∃ x : α, i < len → (pv x).length = sz ∧ (∀ k, k < sz → ∃ v, W.cell? ((a.add (i * sz)).add k) = some v) ∧ ∀ (k : Nat) (u : PV) (v : Value), (pv x)[k]? = some u → W.cell? ((a.add (i * sz)).add k) = some v → PRep W (· < W.heap.size) u v := by
      intro i
      by_cases hi : i < len
      · obtain ⟨cs', h1, h2⟩ := hx i (by omega)
        rw [hsz] at h1
        obtain ⟨x, h3, h4⟩ := hel n cs' _ h2
        obtain ⟨_, hlen, hc⟩ := World.cells?_some h1
        refine ⟨x, fun _ => ⟨h3, fun k hk => ?_, fun k u v hu hv => ?_⟩⟩
        · exact ⟨cs'[k]'(by omega), by rw [hc k hk, List.getElem?_eq_getElem]⟩
        · have hk : k < sz := by rw [← h3]; exact (List.getElem?_eq_some_iff.1 hu).1
          exact h4 k u hu v (by rw [← hc k hk]; exact hv)
      · exact ⟨default, fun h => absurd h hi⟩
    let g : Nat → α := fun i => (hone i).choose
    have hg : ∀ i, i < len → (pv (g i)).length = sz ∧ (∀ k, k < sz → ∃ v, W.cell? ((a.add (i * sz)).add k) = some v) ∧ ∀ (k : Nat) (u : PV) (v : Value), (pv (g i))[k]? = some u → W.cell? ((a.add (i * sz)).add k) = some v → PRep W (· < W.heap.size) u v := fun i hi => (hone i).choose_spec hi
    clear_value g
    have hlen : (((List.range len).map g).map pv).length = len := by simp
    have hget : ∀ (j : Nat) (e : List PV), (((List.range len).map g).map pv)[j]? = some e → j < len ∧ e = pv (g j) := by
      intro j e hj
      have hjl : j < len := by rw [← hlen]; exact (List.getElem?_eq_some_iff.1 hj).1
      simp [hjl] at hj
      exact ⟨hjl, hj.symm⟩
    refine ⟨(List.range len).map g, _, hcs, ?_⟩
    have := PRep.sl (w := W) (I := (· < W.heap.size)) sz (((List.range len).map g).map pv) (some a) cap (fun j i => (W.cell? ((a.add (j * sz)).add i)).getD undef) (by omega) (by have := len_le_maxLen hm; omega) ?_ ?_
    · rw [hlen] at this; exact this
    · · rcases Nat.eq_zero_or_pos len with hz | hz
        · subst hz; exact .inl rfl
        · obtain ⟨v, hv⟩ := (hg 0 hz).2.1 0 h0
          obtain ⟨ab, ao, asp⟩ := a
          have hspot : asp = none := by simpa [Addr.add] using World.cell?_spot hv
          subst hspot
          refine .inr ⟨ab, ao, rfl, ?_, fun j e hj => ?_⟩
          · unfold World.cell? at hv
            split at hv
            · rename_i hb
              have := (Array.getElem?_eq_some_iff.1 hb).1
              simpa [Addr.add] using this
            · simp at hv
          · obtain ⟨hjl, rfl⟩ := hget j e hj
            refine ⟨(hg j hjl).1, fun i hi => ?_⟩
            obtain ⟨v, hv⟩ := (hg j hjl).2.1 i hi
            have e1 : (Addr.add ⟨ab, ao, none⟩ (j * sz)).add i = ⟨ab, ao + j * sz + i, none⟩ := by rw [add_plain, add_plain]
            rw [e1] at hv
            rw [hv]
            show some v = some ((W.cell? _).getD undef)
            rw [e1, hv]; rfl
    · intro j e i u hj hu
      obtain ⟨hjl, rfl⟩ := hget j e hj
      have hi : i < sz := by rw [← (hg j hjl).1]; exact (List.getElem?_eq_some_iff.1 hu).1
      obtain ⟨v, hv⟩ := (hg j hjl).2.1 i hi
      rw [hv]
      exact (hg j hjl).2.2 i u v hu hv
end
end Go.Proofs.YtinfbclgkghgaaaGreat.AL

/- What a geometry, a piece and bytes read as (seat rd). -/
namespace Go.Proofs.YtinfbclgkghgaaaGreat.AL
open Go Go.RowKit Go.ChangeShapes Go.WideShapes Go.ChangeAt Go.Deep Go.Proofs

theorem raw_int {W : World} {I : Nat → Prop} (k : IntKind) (n : Int) : PRep W I (.raw (.int k n)) (.int k n) := .raw _ rfl
theorem raw_bool {W : World} {I : Nat → Prop} (b : Bool) : PRep W I (.raw (.bool b)) (.bool b) := .raw _ rfl
theorem rep_int {W : World} {I : Nat → Prop} {ι : Nat → Option Nat} (n : Int) : ARep W I ι (i64 n) (.int .i64 n) := .p (.raw _ rfl)
section
variable {H : Type} {enc : TypeId × Value → H} {W : World} {spare : Nat → Bool} {held : Bool}

theorem u8_of {n : Int} (h : (Lit.int .u8 n).wf = true) : ∃ b : UInt8, n = (b.toNat : Int) := by
  have h2 : 0 ≤ n ∧ n < 256 := by
    simp [Lit.wf] at h
    have h3 : IntKind.u8.min = 0 := rfl
    have h4 : IntKind.u8.max = 255 := rfl
    omega
  refine ⟨UInt8.ofNat n.toNat, ?_⟩
  rw [UInt8.toNat_ofNat']
  omega

theorem c3 : Tryz.prog.cellsOf 3 = 1 := by kernel_rfl
theorem c5 : Tryz.prog.cellsOf 5 = 1 := by kernel_rfl
theorem c23 : Tryz.prog.cellsOf 23 = 4 := by kernel_rfl
theorem c24 : Tryz.prog.cellsOf 24 = 1 := by kernel_rfl
set_option maxRecDepth 20000 in
theorem geo_cells (n : Nat) (cs : List Value) (x : DataW H × List MemPlace) (h : DataW.trod enc Tryz.prog W 0 spare held n 23 cs = some x) : ∃ g : GeoV, cs = [.int .i64 g.w, .int .i64 g.s, .int .i64 g.k, .int .i64 g.m] := by
  obtain ⟨xs, m, _, rfl, hl, hlen, hf⟩ := DataW.trod_struct Tryz.underlying23 h
  rw [c23] at hl
  have h0 := hf 0 _ rfl
  have h1 := hf 1 _ rfl
  have h2 := hf 2 _ rfl
  have h3 := hf 3 _ rfl
  match xs, hlen with
  | [y0, y1, y2, y3], _ =>
    match cs, hl with
    | [v0, v1, v2, v3], _ =>
      simp [c3] at h0 h1 h2 h3
      obtain ⟨a0, e0, _⟩ := DataW.trod_int Tryz.underlying3 h0
      obtain ⟨a1, e1, _⟩ := DataW.trod_int Tryz.underlying3 h1
      obtain ⟨a2, e2, _⟩ := DataW.trod_int Tryz.underlying3 h2
      obtain ⟨a3, e3, _⟩ := DataW.trod_int Tryz.underlying3 h3
      simp at e0 e1 e2 e3
      exact ⟨⟨a0, a1, a2, a3⟩, by rw [e0, e1, e2, e3]⟩

set_option maxRecDepth 20000 in
theorem geo_rep {v : Value} {d : DataW H} {ps : List MemPlace} {r : Reach} {b0 : Nat} {ι : Nat → Option Nat}
    (hval : Value.okWide Tryz.prog W r b0 23 v) (h : DataW.Trod enc Tryz.prog W 0 spare held 23 v d ps) : ∃ g : GeoV, ARep W (· < W.heap.size) ι g.av v := by
  obtain ⟨cs, rfl, hsz⟩ := okWide_struct Tryz.underlying23 hval
  obtain ⟨n, hn⟩ := h
  obtain ⟨g, hcs⟩ := geo_cells n _ _ hn
  have : cs = [Value.int .i64 g.w, .int .i64 g.s, .int .i64 g.k, .int .i64 g.m].toArray := by
    cases cs; simpa [Value.cells] using hcs
  subst this
  refine ⟨g, .agg _ _ rfl fun i u hu => ?_⟩
  match i, hu with
  | 0, hu => cases hu; exact rep_int _
  | 1, hu => cases hu; exact rep_int _
  | 2, hu => cases hu; exact rep_int _
  | 3, hu => cases hu; exact rep_int _
  | i + 4, hu => cases hu

theorem byte_el (n : Nat) (cs : List Value) (x : DataW H × List MemPlace) (hx : DataW.trod enc Tryz.prog W 0 spare held n 5 cs = some x) : ∃ b : UInt8, ([u8 b] : List PV).length = 1 ∧ ∀ (i : Nat) (u : PV), ([u8 b] : List PV)[i]? = some u → ∀ v : Value, cs[i]? = some v → PRep W (· < W.heap.size) u v := by
  obtain ⟨a, e, _, w⟩ := DataW.trod_int Tryz.underlying5 hx
  obtain ⟨b, rfl⟩ := u8_of w
  refine ⟨b, rfl, fun i u hu v hv => ?_⟩
  rw [e] at hv
  match i, hu, hv with
  | 0, hu, hv => simp at hu hv; subst hu; subst hv; exact raw_int _ _
  | i + 1, hu, hv => simp at hu
end
end Go.Proofs.YtinfbclgkghgaaaGreat.AL

/- What a list of bytes reads as (seat rd). -/
namespace Go.Proofs.YtinfbclgkghgaaaGreat.AL
open Go Go.RowKit Go.ChangeShapes Go.WideShapes Go.ChangeAt Go.Deep Go.Proofs
section
variable {H : Type} {enc : TypeId × Value → H} {W : World} {spare : Nat → Bool} {held : Bool}
theorem list_el (n : Nat) (cs : List Value) (x : DataW H × List MemPlace) (hx : DataW.trod enc Tryz.prog W 0 spare held n 24 cs = some x) : ∃ b : Bytes, ([bP b] : List PV).length = 1 ∧ ∀ (i : Nat) (u : PV), ([bP b] : List PV)[i]? = some u → ∀ v : Value, cs[i]? = some v → PRep W (· < W.heap.size) u v := by
  obtain ⟨l, v, hv, hp⟩ := rep_sliceT Tryz.underlying24 hx (fun b : UInt8 => [u8 b]) 1 c5 (by decide) byte_el
  refine ⟨l, rfl, fun i u hu w hw => ?_⟩
  rw [hv] at hw
  match i, hu, hw with
  | 0, hu, hw => simp at hu hw; subst hu; subst hw; exact hp
  | i + 1, hu, hw => simp at hu
set_option maxRecDepth 20000 in
theorem lists_rep {v : Value} {d : DataW H} {ps : List MemPlace} {r : Reach} {b0 : Nat} {ι : Nat → Option Nat}
    (hval : Value.okWide Tryz.prog W r b0 37 v) (h : DataW.Trod enc Tryz.prog W 0 spare held 37 v d ps) : ∃ l : List Bytes, ARep W (· < W.heap.size) ι (.p (.sl 1 (catX l))) v :=
  rep_slice Tryz.underlying37 hval h (fun b : Bytes => [bP b]) 1 c24 (by decide) list_el
end
end Go.Proofs.YtinfbclgkghgaaaGreat.AL

/- The layer 11 (ring), plain: what is told of a log of several epochs. -/
namespace Go.Proofs.YtinfbclgkghgaaaGreat.AL
open Go Go.Proofs Go.Proofs.YtinfbclgkghgaaaGreat.AL.Crc

def secO (vol : Int) (g : GeoV) (m : Int) (k : Nat) : Option Pc → Bytes
  | none => freeS vol (addrB g m k).toNat
  | some p => (p.sector vol g m).1
/-- What stands in the slots of both mirrors. -/
structure SlotsP (vol : Int) (g : GeoV) (A B : Nat → Option Pc) (cs : List Cell) : Prop where
  a : ∀ k : Nat, (k : Int) < g.w → cs[(addrB g 0 k).toNat]? = some (fine (secO vol g 0 k (A k)))
  b : ∀ k : Nat, (k : Int) < g.w → cs[(addrB g 1 k).toNat]? = some (fine (secO vol g 1 k (B k)))
def MayO (e : Int) (A : Nat → Option Pc) : Prop := ∀ k p, A k = some p → p.may = true ∧ p.seq = (k : Int) ∧ p.epoch ≤ e
structure ChainE (vol : Int) (g : GeoV) (P : List Pc) : Prop where
  may : ∀ (i : Nat) (p : Pc), P[i]? = some p → p.may = true ∧ p.seq = (i : Int) ∧ p.chain = sumAt vol g 0 P i
  nxt : ∀ (i : Nat) (p q : Pc), P[i]? = some p → P[i + 1]? = some q → p.epoch ≤ q.epoch ∧ (p.epoch = q.epoch → q.frm = p.frm) ∧ (p.epoch < q.epoch → q.frm = q.seq)
structure TellsE (A B : Nat → Option Pc) (P : List Pc) : Prop where
  one : ∀ (i : Nat) (p : Pc), P[i]? = some p → A i = some p ∧ ∀ q, B i = some q → q = p ∨ q.epoch < p.epoch
  stop : ∀ q, A P.length = some q ∨ B P.length = some q → ∃ l, P.getLast? = some l ∧ q.epoch < l.epoch

theorem pick_E (S : RdS) (p : Pc) (hf : fitsS S p = true) {y : Option Pc} (hy : ∀ q, y = some q → q = p ∨ q.epoch < p.epoch) : pickS S (sort2 ([p] ++ y.toList)) = some p := by
  cases y with
  | none =>
    show pickS S [p] = _
    rw [find1, hf]
  | some q =>
    show pickS S (sort2 [p, q]) = _
    rw [sort2_eq, decide_eq_false (show ¬ q.epoch > p.epoch by rcases hy q rfl with rfl | h <;> omega)]
    show pickS S [p, q] = _
    rw [find2, hf]
theorem pick_no (S : RdS) {x y : Option Pc} (hx : ∀ q, x = some q → fitsS S q = false) (hy : ∀ q, y = some q → fitsS S q = false) : pickS S (sort2 (x.toList ++ y.toList)) = none := by
  cases x with
  | none =>
    cases y with
    | none => rfl
    | some q => show pickS S [q] = _; rw [find1, hy q rfl]
  | some p =>
    cases y with
    | none => show pickS S [p] = _; rw [find1, hx p rfl]
    | some q =>
      show pickS S (sort2 [p, q]) = _
      rw [sort2_eq]
      split
      · rw [find2, hy q rfl, hx p rfl]
      · rw [find2, hx p rfl, hy q rfl]
theorem sort2_empty {x y : Option Pc} (h : (sort2 (x.toList ++ y.toList)).isEmpty = true) : x = none ∧ y = none := by
  cases x with
  | none =>
    cases y with
    | none => exact ⟨rfl, rfl⟩
    | some q => exact absurd h (fun h : ([q] : List Pc).isEmpty = true => by simp at h)
  | some p =>
    cases y with
    | none => exact absurd h (fun h : ([p] : List Pc).isEmpty = true => by simp at h)
    | some q =>
      rw [show ((some p).toList ++ (some q).toList) = [p, q] from rfl, sort2_eq] at h
      split at h <;> simp at h

theorem goL_E {vol : Int} {g : GeoV} {A B : Nat → Option Pc} {P : List Pc} {a b : List Bytes} (hch : ChainE vol g P) (ht : TellsE A B P)
    (hA : ∀ k : Nat, (k : Int) < g.w → cand1 vol g 0 a k = (A k).toList) (hB : ∀ k : Nat, (k : Int) < g.w → cand1 vol g 1 b k = (B k).toList) (hcl : ∀ k : Nat, (k : Int) < g.w → A k = none → cleanB vol g a b ((k : Int).tmod g.w) = true) :
    ∀ (n i : Nat) (S : RdS), i ≤ P.length → (n : Int) = g.w - i → (P.length : Int) ≤ g.w → S.sum = sumAt vol g 0 P i → (i = 0 → S.some_ = false ∧ S.last.epoch = 0) → (∀ j p, i = j + 1 → P[j]? = some p → S.some_ = true ∧ S.last = p) →
      goL vol g a b n (i : Int) S = (withSums vol g (P.drop i), false)
  | 0, i, S, hi, hn, hP, _, _, _ => by
    rw [List.drop_eq_nil_of_le (by omega)]; rfl
  | n + 1, i, S, hi, hn, hP, hs, h0, h1 => by
    have hc : cands vol g a b i = sort2 ((A i).toList ++ (B i).toList) := by unfold cands; rw [hA i (by omega), hB i (by omega)]
    by_cases hlt : i < P.length
    · have hx := List.getElem?_eq_getElem hlt
      have hd := List.drop_eq_getElem_cons hlt
      generalize P[i] = p at hx hd
      obtain ⟨m1, m2, m5⟩ := hch.may i p hx
      obtain ⟨t1, t2⟩ := ht.one i p hx
      have hpe := (p.of_may m1).2.1.1
      have hf : fitsS S p = true := by
        unfold fitsS
        rw [m5, hs, show ((sumAt vol g 0 P i) != (sumAt vol g 0 P i)) = false by simp, Bool.false_or]
        cases i with
        | zero =>
          obtain ⟨q1, q2⟩ := h0 rfl
          rw [q1, q2, decide_eq_false (show ¬ p.epoch < 0 by omega)]; rfl
        | succ j =>
          have hy := List.getElem?_eq_getElem (show j < P.length by omega)
          generalize P[j] = o at hy
          obtain ⟨q1, q2⟩ := h1 j o rfl hy
          obtain ⟨n1, n2, n3⟩ := hch.nxt j o p hy hx
          rw [q1, q2, decide_eq_false (show ¬ p.epoch < o.epoch by omega)]
          show (match p.epoch == o.epoch with | true => p.frm == o.frm | false => p.frm == p.seq) = true
          by_cases he : o.epoch = p.epoch
          · rw [show (p.epoch == o.epoch) = true by rw [he]; simp]
            show (p.frm == o.frm) = true
            rw [n2 he]; simp
          · rw [show (p.epoch == o.epoch) = false from beq_eq_false_iff_ne.mpr (fun h => he h.symm)]
            show (p.frm == p.seq) = true
            rw [n3 (by omega)]; simp
      have hpk : pickS S (cands vol g a b i) = some p := by rw [hc, t1]; exact pick_E S p hf t2
      unfold goL
      rw [hpk]
      have ih := goL_E hch ht hA hB hcl n (i + 1) ⟨p, true, sumP vol g p, false⟩ (by omega) (by omega) hP (by have e : sumAt vol g 0 P (i + 1) = sumP vol g p := (by show (match P[i]? with | some p => sumP vol g p | none => 0) = _; rw [hx]); exact e.symm) (fun h => absurd h (by omega)) (fun j q hj hq => by
        have : j = i := by omega
        subst this
        rw [hx] at hq
        exact ⟨rfl, Option.some.inj hq⟩)
      rw [show ((i + 1 : Nat) : Int) = (i : Int) + 1 by omega] at ih
      simp only
      rw [ih, hd]; rfl
    · have hi2 : i = P.length := by omega
      have hno : ∀ q, A i = some q ∨ B i = some q → fitsS S q = false := by
        intro q hq
        rw [hi2] at hq
        obtain ⟨l, l1, l2⟩ := ht.stop q hq
        rw [List.getLast?_eq_getElem?] at l1
        obtain ⟨j, hj⟩ : ∃ j, i = j + 1 := by
          cases i with
          | zero =>
            rw [← hi2] at l1
            have : P = [] := List.length_eq_zero_iff.mp hi2.symm
            rw [this] at l1
            simp at l1
          | succ j => exact ⟨j, rfl⟩
        rw [show P.length - 1 = j by omega] at l1
        obtain ⟨_, q2⟩ := h1 j l hj l1
        unfold fitsS
        rw [q2, decide_eq_true l2, Bool.or_true]
      have hpk : pickS S (cands vol g a b i) = none := by rw [hc]; exact pick_no S (fun q h => hno q (.inl h)) fun q h => hno q (.inr h)
      unfold goL
      rw [hpk]
      have hd : P.drop i = [] := List.drop_eq_nil_of_le (by omega)
      rw [hd]
      show (([] : List (Pc × Int)), (cands vol g a b i).isEmpty && !cleanB vol g a b ((i : Int).tmod g.w)) = ([], false)
      cases he : (cands vol g a b i).isEmpty with
      | false => rfl
      | true =>
        rw [hc] at he
        rw [hcl i (by omega) (sort2_empty he).1]; rfl

/-- Transactions, and at the end one that is not whole. -/
structure TailP (T : List Pc) : Prop where
  pre : T = [] ∨ ∃ s, SegP s ∧ T <+: s ∧ T.length < s.length
theorem grpL_tail (vol : Int) (g : GeoV) {T : List Pc} (hT : TailP T) (f : Nat) (t : TailV) : grpL f (withSums vol g T) t = t := by
  rcases hT.pre with rfl | ⟨s, h1, h2, h3⟩
  · exact grpL_nil f t
  · cases T with
    | nil => exact grpL_nil f t
    | cons p r =>
      cases f with
      | zero => rfl
      | succ f =>
        obtain ⟨u, rfl⟩ := h2
        have hof := h1.2.2 p (by simp)
        show grpL (f + 1) ((p, sumP vol g p) :: withSums vol g r) t = t
        have hl : (withSums vol g r).length = r.length := by unfold withSums; rw [List.length_map]
        rw [List.length_cons] at h3
        rw [grpL_cons, hl, decide_eq_true (show p.of_ > ((r.length + 1 : Nat) : Int) by omega)]; rfl
theorem grpL_segsT (vol : Int) (g : GeoV) {T : List Pc} (hT : TailP T) : ∀ (Q : List (List Pc)) (f : Nat) (t : TailV), (∀ s ∈ Q, SegP s) → Q.flatten.length ≤ f →
    grpL f (withSums vol g (Q.flatten ++ T)) t = { t with txs := t.txs ++ Q.map catB, next := nxtP Q.flatten t.next, chain := sumL vol g Q.flatten t.chain }
  | [], f, t, _, _ => by
    show grpL f (withSums vol g T) t = _
    rw [grpL_tail vol g hT]
    obtain ⟨a, b, c, d⟩ := t
    simp [nxtP, sumL]
  | s :: Q, f, t, hQ, hf => by
    obtain ⟨h1, h2, h3⟩ := hQ s (by simp)
    rw [List.flatten_cons] at hf ⊢
    rw [List.length_append] at hf
    obtain ⟨p, r, rfl⟩ : ∃ p r, s = p :: r := by
      cases s with
      | nil => exact absurd rfl h1
      | cons p r => exact ⟨p, r, rfl⟩
    have hof := h3 p (by simp)
    rw [List.length_cons] at hf hof
    obtain ⟨f, rfl⟩ : ∃ k, f = k + 1 := ⟨f - 1, by omega⟩
    have hw : withSums vol g (p :: r ++ Q.flatten ++ T) = (p, sumP vol g p) :: withSums vol g (r ++ (Q.flatten ++ T)) := by rw [List.append_assoc]; rfl
    have hw2 : withSums vol g ((p :: r) ++ (Q.flatten ++ T)) = (p, sumP vol g p) :: withSums vol g (r ++ (Q.flatten ++ T)) := rfl
    have ht : ((p, sumP vol g p) :: withSums vol g (r ++ (Q.flatten ++ T))).take p.of_.toNat = withSums vol g (p :: r) := by
      rw [← hw2, with_take, hof, Int.toNat_natCast, show r.length + 1 = (p :: r).length from rfl, List.take_left]
    have hd : ((p, sumP vol g p) :: withSums vol g (r ++ (Q.flatten ++ T))).drop p.of_.toNat = withSums vol g (Q.flatten ++ T) := by
      rw [← hw2, with_drop, hof, Int.toNat_natCast, show r.length + 1 = (p :: r).length from rfl, List.drop_left]
    have hl : (withSums vol g (r ++ (Q.flatten ++ T))).length = r.length + (Q.flatten ++ T).length := by unfold withSums; rw [List.length_map, List.length_append]
    rw [hw, grpL_cons, ht, hd, lst_with, hl, decide_eq_false (show ¬ p.of_ > ((r.length + (Q.flatten ++ T).length + 1 : Nat) : Int) by omega)]
    have h2 : segOk p.of_ (p :: r) 0 = true := by rw [hof]; exact h2
    rw [h2]
    simp only [Bool.not_true, Bool.or_false]
    rw [grpL_segsT vol g hT Q f _ (fun s hs => hQ s (by simp [hs])) (by omega)]
    rw [nxtP_app, sumL_app, sms_last vol g (p :: r) (by simp) t.chain, lastR_seq (p :: r) (by simp) t.next]
    simp

/-- A log of several epochs. -/
structure StateP (vol : Int) (g : GeoV) (e : Int) (A B : Nat → Option Pc) (Q : List (List Pc)) (T : List Pc) (cs : List Cell) : Prop where
  slots : SlotsP vol g A B cs
  ma : MayO e A
  mb : MayO e B
  chain : ChainE vol g (Q.flatten ++ T)
  tells : TellsE A B (Q.flatten ++ T)
  len : ((Q.flatten ++ T).length : Int) ≤ g.w
  segs : ∀ s ∈ Q, SegP s
  tail : TailP T
theorem sumAt_le (vol : Int) (g : GeoV) (c0 : Int) (P r : List Pc) : sumAt vol g c0 (P ++ r) P.length = sumL vol g P c0 := by
  rw [sumAt_app _ _ _ _ _ (Nat.le_refl _)]
  unfold sumL
  rw [List.getLast?_eq_getElem?]
  cases h : P.length with
  | zero =>
    have : P = [] := List.length_eq_zero_iff.mp h
    subst this; rfl
  | succ n => rw [show n + 1 - 1 = n by omega]; rfl
theorem nxt_E {vol : Int} {g : GeoV} {P T : List Pc} (h : ChainE vol g (P ++ T)) : nxtP P 0 = (P.length : Int) := by
  unfold nxtP
  rw [List.getLast?_eq_getElem?]
  cases hl : P.length with
  | zero =>
    have : P = [] := List.length_eq_zero_iff.mp hl
    subst this; rfl
  | succ n =>
    have hx := List.getElem?_eq_getElem (show n < P.length by omega)
    generalize P[n] = p at hx
    have := (h.may n p (by rw [List.getElem?_append_left (by omega)]; exact hx)).2.1
    rw [show n + 1 - 1 = n by omega, hx]
    simp only; omega
/-- WHAT IS TOLD OF IT. -/
theorem state_told {vol : Int} {g : GeoV} {e : Int} {A B : Nat → Option Pc} {Q : List (List Pc)} {T : List Pc} {D : Dev} {b : Nat} (hg : g.may = true) (hv : wordB vol = true) (h : StateP vol g e A B Q T D.cells) (hD : CleanP D g.secs b) :
    ∃ ep, followB vol g (load0 D g).1 (load1 D g).1 0 0 = (⟨Q.map catB, (Q.flatten.length : Int), sumL vol g Q.flatten 0, ep⟩, 0) := by
  obtain ⟨l0, l1, _, _⟩ := load_P hg hD
  obtain ⟨g1, g2, _⟩ := g.of_may hg
  have hx : ∀ f : Nat → Bytes, ((((List.range g.w.toNat).map f).length : Nat) : Int) = g.w := fun f => by rw [List.length_map, List.length_range]; omega
  rw [l0, l1]
  have cell : ∀ (k : Nat) (m : Int) {s : Bytes}, D.cells[(addrB g m k).toNat]? = some (fine s) → cellB D (addrB g m k).toNat = s := fun k m s hs => by rw [cellB_cellS _ _ hs]; rfl
  have a : ∀ k : Nat, (k : Int) < g.w → atS ((List.range g.w.toNat).map (fun (i : Nat) => cellB D (addrB g 0 i).toNat)) k = secO vol g 0 k (A k) := fun k k1 => by
    rw [atS_map _ _ (by omega) (by omega), Int.toNat_natCast]
    exact cell k 0 (h.slots.a k k1)
  have b : ∀ k : Nat, (k : Int) < g.w → atS ((List.range g.w.toNat).map (fun (i : Nat) => cellB D (addrB g 1 i).toNat)) k = secO vol g 1 k (B k) := fun k k1 => by
    rw [atS_map _ _ (by omega) (by omega), Int.toNat_natCast]
    exact cell k 1 (h.slots.b k k1)
  have X := hx fun (i : Nat) => cellB D (addrB g 0 i).toNat
  have Y := hx fun (i : Nat) => cellB D (addrB g 1 i).toNat
  generalize (List.range g.w.toNat).map (fun (i : Nat) => cellB D (addrB g 0 i).toNat) = x at a X
  generalize (List.range g.w.toNat).map (fun (i : Nat) => cellB D (addrB g 1 i).toNat) = y at b Y
  have hsl : ∀ k : Nat, (k : Int) < g.w → (k : Int).tmod g.w = k := fun k k1 => by rw [Int.tmod_eq_emod_of_nonneg (by omega), Int.emod_eq_of_lt (by omega) (by omega)]
  have cd : ∀ (m : Int) (z : List Bytes) (C : Nat → Option Pc), (m = 0 ∨ m = 1) → MayO e C → (∀ k : Nat, (k : Int) < g.w → atS z k = secO vol g m k (C k)) → ∀ k : Nat, (k : Int) < g.w → cand1 vol g m z k = (C k).toList := by
    intro m z C hm hC hz k k1
    have hzk := hz k k1
    cases hk : C k with
    | none =>
      rw [hk] at hzk
      refine cand1_none ?_
      rw [hsl k k1, hzk]
      refine toldP_free hv ?_ _ _ _ _
      rcases hm with rfl | rfl
      · rw [addr0]; omega
      · rw [addr1]; omega
    | some p =>
      obtain ⟨p1, p2, _⟩ := hC k p hk
      rw [hk] at hzk
      have := cand1_one (a := z) p1 hg hv hm (by rw [p2, hsl k k1]; exact hzk)
      rw [p2] at this
      exact this
  have hok : logOk vol g x y 0 0 = true := by
    unfold logOk
    rw [hg, hv, X, Y]
    simp
    decide
  have t := goL_E h.chain h.tells (cd 0 x A (.inl rfl) h.ma a) (cd 1 y B (.inr rfl) h.mb b) (fun k k1 hk => by
    have hzk := a k k1
    rw [hk] at hzk
    unfold cleanB
    rw [hsl k k1, hzk]
    have : cleanM vol g 0 k (secO vol g 0 k none) = true := clean_free hv (by rw [addr0]; omega) (by rw [addr0]; omega)
    rw [this]; rfl)
    g.w.toNat 0 (rd0 0) (Nat.zero_le _) (by omega) h.len rfl (fun _ => ⟨rfl, rfl⟩) (fun j p hj => absurd hj (by omega))
  rw [List.drop_zero] at t
  have t : goL vol g x y g.w.toNat 0 (rd0 0) = (withSums vol g (Q.flatten ++ T), false) := t
  rw [follow_ref]
  unfold refB
  rw [hok, t]
  refine ⟨lastE (withSums vol g (Q.flatten ++ T)), ?_⟩
  show (groupB (withSums vol g (Q.flatten ++ T)) 0 0, (0 : Int)) = _
  unfold groupB
  rw [grpL_segsT vol g h.tail Q _ _ h.segs (by unfold withSums; rw [List.length_map, List.length_append]; omega)]
  rw [nxt_E h.chain]
  simp only [List.nil_append]
end Go.Proofs.YtinfbclgkghgaaaGreat.AL

/- The layer 11 (ring), plain: a life of a log, and the crash at its end. -/
namespace Go.Proofs.YtinfbclgkghgaaaGreat.AL
open Go Go.Proofs Go.Proofs.YtinfbclgkghgaaaGreat.AL.Crc

def updO (A : Nat → Option Pc) (k : Nat) (p : Pc) : Nat → Option Pc := fun j => if j = k then some p else A j
def overO (A : Nat → Option Pc) (n0 : Nat) (W : List Pc) : Nat → Option Pc := fun k => if n0 ≤ k then (match W[k - n0]? with | some p => some p | none => A k) else A k
theorem over_nil (A : Nat → Option Pc) (n0 : Nat) : overO A n0 [] = A := by
  funext k; unfold overO; simp
theorem over_snoc (A : Nat → Option Pc) (n0 : Nat) (W : List Pc) (p : Pc) : overO A n0 (W ++ [p]) = updO (overO A n0 W) (n0 + W.length) p := by
  funext k
  show (if n0 ≤ k then (match (W ++ [p])[k - n0]? with | some p => some p | none => A k) else A k) = if k = n0 + W.length then some p else if n0 ≤ k then (match W[k - n0]? with | some p => some p | none => A k) else A k
  by_cases h : n0 ≤ k
  · rw [if_pos h, if_pos h]
    by_cases e : k = n0 + W.length
    · rw [if_pos e, List.getElem?_append_right (by omega), show k - n0 - W.length = 0 by omega]; rfl
    · rw [if_neg e]
      by_cases h2 : k - n0 < W.length
      · rw [List.getElem?_append_left h2]
      · rw [List.getElem?_eq_none (show (W ++ [p]).length ≤ k - n0 by rw [List.length_append, List.length_singleton]; omega), List.getElem?_eq_none (show W.length ≤ k - n0 by omega)]
  · rw [if_neg h, if_neg (by omega), if_neg h]
theorem over_lt (A : Nat → Option Pc) {n0 k : Nat} (W : List Pc) (h : k < n0) : overO A n0 W k = A k := by unfold overO; rw [if_neg (by omega)]
theorem over_in (A : Nat → Option Pc) {n0 k : Nat} {W : List Pc} {p : Pc} (h : n0 ≤ k) (hp : W[k - n0]? = some p) : overO A n0 W k = some p := by unfold overO; rw [if_pos h, hp]
theorem over_out (A : Nat → Option Pc) {n0 k : Nat} {W : List Pc} (h : n0 + W.length ≤ k) : overO A n0 W k = A k := by unfold overO; rw [if_pos (by omega), List.getElem?_eq_none (by omega)]

theorem slots_up {R : Rg} (hg : R.g.may = true) {A B : Nat → Option Pc} {cs : List Cell} (h : SlotsP R.vol R.g A B cs) (hl : cs.length = R.g.secs) {p : Pc} {k : Nat} (hp : p.seq = (k : Int)) (hk : (k : Int) < R.g.w) :
    SlotsP R.vol R.g (updO A k p) B (putsC ((putsR R p).take 1) cs) ∧ SlotsP R.vol R.g (updO A k p) (updO B k p) (putsC (putsR R p) cs) := by
  obtain ⟨_, _, q⟩ := secs_le hg
  have hs : p.seq.tmod R.g.w = k := by rw [hp, Int.tmod_eq_emod_of_nonneg (by omega), Int.emod_eq_of_lt (by omega) (by omega)]
  have e1 : putsC ((putsR R p).take 1) cs = cs.set (addrB R.g 0 k).toNat (fine (p.sector R.vol R.g 0).1) := by
    show cs.set (addrB R.g 0 (p.seq.tmod R.g.w)).toNat _ = _
    rw [hs]
  have e2 : putsC (putsR R p) cs = (cs.set (addrB R.g 0 k).toNat (fine (p.sector R.vol R.g 0).1)).set (addrB R.g 1 k).toNat (fine (p.sector R.vol R.g 1).1) := by
    show (cs.set (addrB R.g 0 (p.seq.tmod R.g.w)).toNat _).set (addrB R.g 1 (p.seq.tmod R.g.w)).toNat _ = _
    rw [hs]
  rw [e1, e2]
  have a0 : ∀ j : Nat, (j : Int) < R.g.w → (cs.set (addrB R.g 0 k).toNat (fine (p.sector R.vol R.g 0).1))[(addrB R.g 0 j).toNat]? = some (fine (secO R.vol R.g 0 j (updO A k p j))) := fun j hj => by
    rw [List.getElem?_set, addr0, addr0]
    unfold updO
    by_cases e : j = k
    · rw [if_pos (by omega), if_pos (by omega), if_pos e]; rfl
    · rw [if_neg (by omega), if_neg e]
      have := h.a j hj
      rwa [addr0] at this
  have b0 : ∀ j : Nat, (j : Int) < R.g.w → (cs.set (addrB R.g 0 k).toNat (fine (p.sector R.vol R.g 0).1))[(addrB R.g 1 j).toNat]? = some (fine (secO R.vol R.g 1 j (B j))) := fun j hj => by
    rw [List.getElem?_set, if_neg (by rw [addr0, addr1]; omega)]
    exact h.b j hj
  refine ⟨⟨a0, b0⟩, ⟨fun j hj => ?_, fun j hj => ?_⟩⟩
  · rw [List.getElem?_set, if_neg (by rw [addr0, addr1]; omega)]
    exact a0 j hj
  · rw [List.getElem?_set]
    unfold updO
    by_cases e : j = k
    · rw [if_pos (by rw [e]), List.length_set, if_pos (by rw [addr1]; omega), if_pos e, e]; rfl
    · rw [if_neg (by rw [addr1, addr1]; omega), if_neg e]
      exact b0 j hj

theorem putR_live {R : Rg} (hR : R.Ok) {D : Dev} {b : Nat} (h : LiveP D R.g.secs b) {p : Pc} (hp : p.may = true) (keep : List Bool) :
    (∃ E, putR R D p = (0, (nxR R p, E)) ∧ LiveP E R.g.secs (b + 2) ∧ E.cells = putsC (putsR R p) D.cells) ∨
    ∃ E, putR R D p = (21, (R, E)) ∧ E.Ok (b + 2) ∧ ∃ j, j ≤ 2 ∧ CleanP (E.crashed keep) R.g.secs (b + 2) ∧ (E.crashed keep).cells = putsC ((putsR R p).take j) D.cells := by
  obtain ⟨s0, s1⟩ := slot_ok hR.g (p.of_may hp).1.1
  obtain ⟨_, _, q⟩ := secs_le hR.g
  have l0 := sector_len hp hR.g hR.vol (Int.le_refl 0) (by omega)
  have l1 := sector_len hp hR.g hR.vol (m := 1) (by omega) (by omega)
  have hq : ∀ q ∈ putsR R p, PutP R.g.secs q := by
    intro q hq
    unfold putsR at hq
    simp only [List.mem_cons, List.not_mem_nil, or_false] at hq
    rcases hq with rfl | rfl
    · exact ⟨by rw [addr0]; show (0 : Int) ≤ 4 + _; omega, by rw [addr0]; show 4 + _ < _; omega, l0⟩
    · exact ⟨by rw [addr1]; show (0 : Int) ≤ 4 + R.g.w + _; omega, by rw [addr1]; show 4 + R.g.w + _ < _; omega, l1⟩
  obtain ⟨c1, j, c2, c3, c4, _⟩ := crashP (putsR R p) hq h keep
  rcases liveP_each (putsR R p) 0 hq h with ⟨E, m', h1, h2, h3⟩ | ⟨E, m', _, _, _, _, h1, _⟩
  · have e : D.all9 (putsR R p) = (0, E) := by unfold Dev.all9; rw [h1]
    refine .inl ⟨E, ?_, h2, h3⟩
    unfold putR
    rw [e]; rfl
  · have e : D.all9 (putsR R p) = (21, E) := by unfold Dev.all9; rw [h1]
    rw [e] at c1 c3 c4
    refine .inr ⟨E, ?_, c1, j, c2, c3, c4⟩
    unfold putR
    rw [e]; rfl

/-- Pieces that go on behind others, in an epoch of their own. -/
def NewP (vol : Int) (g : GeoV) (e : Int) (P0 W : List Pc) : Prop := ∀ (i : Nat) (p : Pc), W[i]? = some p → p.may = true ∧ p.seq = ((P0.length + i : Nat) : Int) ∧ p.epoch = e ∧ p.frm = (P0.length : Int) ∧ p.chain = sumAt vol g 0 (P0 ++ W) (P0.length + i)
theorem NewP.snoc {vol : Int} {g : GeoV} {e : Int} {P0 W : List Pc} (h : NewP vol g e P0 W) {p : Pc} (h1 : p.may = true) (h2 : p.seq = ((P0.length + W.length : Nat) : Int)) (h3 : p.epoch = e) (h4 : p.frm = (P0.length : Int)) (h5 : p.chain = sumAt vol g 0 (P0 ++ W) (P0.length + W.length)) : NewP vol g e P0 (W ++ [p]) := by
  intro i q hq
  rw [← List.append_assoc]
  rw [List.getElem?_append] at hq
  by_cases c : i < W.length
  · rw [if_pos c] at hq
    rw [sumAt_app _ _ _ _ _ (by rw [List.length_append]; omega)]
    exact h i q hq
  · rw [if_neg c] at hq
    have hi : i = W.length := by
      have := (List.getElem?_eq_some_iff.1 hq).1
      rw [List.length_singleton] at this
      omega
    rw [hi, Nat.sub_self] at hq
    have hq : p = q := Option.some.inj hq
    rw [sumAt_app _ _ _ _ _ (by rw [List.length_append]; omega), hi, ← hq]
    exact ⟨h1, h2, h3, h4, h5⟩
/-- A life of a log, as far as it went. -/
structure LifeP (vol : Int) (g : GeoV) (e : Int) (R : Rg) (D : Dev) (b : Nat) (A B : Nat → Option Pc) (P0 W : List Pc) : Prop where
  ok : R.Ok
  rg : R.g = g
  rv : R.vol = vol
  re : R.epoch = e
  live : LiveP D g.secs (b + 2 * W.length)
  slots : SlotsP vol g (overO A P0.length W) (overO B P0.length W) D.cells
  new : NewP vol g e P0 W
  frm : R.frm = (P0.length : Int)
  start : R.start = 0
  next : R.next = ((P0.length + W.length : Nat) : Int)
  sum : R.chain = sumAt vol g 0 (P0 ++ W) (P0.length + W.length)
  len : ((P0.length + W.length : Nat) : Int) ≤ g.w
/-- What is there behind the crash. -/
structure EndP (vol : Int) (g : GeoV) (e : Int) (E : Dev) (keep : List Bool) (b : Nat) (A B : Nat → Option Pc) (P0 W1 W2 : List Pc) : Prop where
  ok : E.Ok b
  clean : CleanP (E.crashed keep) g.secs b
  slots : SlotsP vol g (overO A P0.length W1) (overO B P0.length W2) (E.crashed keep).cells
  new : NewP vol g e P0 W1
  half : W1 = W2 ∨ ∃ p, W1 = W2 ++ [p]
  len : ((P0.length + W1.length : Nat) : Int) ≤ g.w

theorem LifeP.snoc {vol : Int} {g : GeoV} {e : Int} {R : Rg} {D : Dev} {b : Nat} {A B : Nat → Option Pc} {P0 W : List Pc} (h : LifeP vol g e R D b A B P0 W) (keep : List Bool) {i n : Int} {x : Bytes} (hp : (pcR R i n x).may = true) (hw : ((P0.length + W.length : Nat) : Int) < g.w) :
    (∃ E, putR R D (pcR R i n x) = (0, (nxR R (pcR R i n x), E)) ∧ LifeP vol g e (nxR R (pcR R i n x)) E b A B P0 (W ++ [pcR R i n x])) ∨
    ∃ E W1 W2, putR R D (pcR R i n x) = (21, (R, E)) ∧ EndP vol g e E keep (b + 2 * W.length + 2) A B P0 W1 W2 ∧ (W1 = W ∨ W1 = W ++ [pcR R i n x]) := by
  have hW := sumP_word R.vol R.g (pcR R i n x)
  have hq : (pcR R i n x).seq = R.next ∧ (pcR R i n x).epoch = R.epoch ∧ (pcR R i n x).frm = R.frm ∧ (pcR R i n x).chain = R.chain := ⟨rfl, rfl, rfl, rfl⟩
  obtain ⟨o, rfl, rfl, rfl, live, slots, new, frm, start, next, sum, len⟩ := h
  have hput := putR_live o live hp keep
  generalize pcR R i n x = p at hp hput hW hq
  obtain ⟨q1, q2, q3, q4⟩ := hq
  obtain ⟨o1, o2, o3, o4, o5, o6, o7⟩ := o
  obtain ⟨g1, g2, _⟩ := R.g.of_may o1
  have hseq : p.seq = ((P0.length + W.length : Nat) : Int) := by rw [q1, next]
  obtain ⟨u1, u2⟩ := slots_up o1 slots live.len hseq hw
  rw [← over_snoc] at u1 u2
  rw [← over_snoc] at u2
  have nw := new.snoc hp hseq q2 (q3.trans frm) (q4.trans sum)
  have lw : ((P0.length + (W ++ [p]).length : Nat) : Int) ≤ R.g.w := by rw [List.length_append, List.length_singleton]; omega
  rcases hput with ⟨E, e1, e2, e3⟩ | ⟨E, e1, e2, j, j2, e3, e4⟩
  · refine .inl ⟨E, e1, ⟨⟨o1, o2, o3, ⟨o4.1, ?_⟩, ⟨o5.1, ?_⟩, ?_, hW⟩, rfl, rfl, rfl, ?_, ?_, nw, frm, start, ?_, ?_, lw⟩⟩
    · show R.frm ≤ R.next + 1; omega
    · show R.start ≤ R.next + 1; omega
    · show R.next + 1 ≤ _; omega
    · rw [List.length_append, List.length_singleton, show b + 2 * (W.length + 1) = b + 2 * W.length + 2 by omega]; exact e2
    · rw [e3]; exact u2
    · show R.next + 1 = _
      rw [List.length_append, List.length_singleton, next]; omega
    · show sumP R.vol R.g p = _
      rw [← List.append_assoc, ← sumAt_snoc R.vol R.g 0 (P0 ++ W) p]
      congr 1
      rw [List.length_append, List.length_append, List.length_append]; omega
  · right
    have hj : j = 0 ∨ j = 1 ∨ j = 2 := by omega
    rcases hj with rfl | rfl | rfl
    · exact ⟨E, W, W, e1, ⟨e2, e3, by rw [e4]; exact slots, new, .inl rfl, by omega⟩, .inl rfl⟩
    · exact ⟨E, W ++ [p], W, e1, ⟨e2, e3, by rw [e4]; exact u1, nw, .inr ⟨p, rfl⟩, lw⟩, .inr rfl⟩
    · exact ⟨E, W ++ [p], W ++ [p], e1, ⟨e2, e3, by rw [e4]; exact u2, nw, .inl rfl, lw⟩, .inr rfl⟩
theorem EndP.mono {vol : Int} {g : GeoV} {e : Int} {E : Dev} {keep : List Bool} {b c : Nat} {A B : Nat → Option Pc} {P0 W1 W2 : List Pc} (h : EndP vol g e E keep b A B P0 W1 W2) (hc : b ≤ c) : EndP vol g e E keep c A B P0 W1 W2 :=
  ⟨h.ok.mono hc, h.clean.mono hc, h.slots, h.new, h.half, h.len⟩

theorem appK_L {vol : Int} {g : GeoV} {e : Int} {b : Nat} {A B : Nat → Option Pc} {P0 : List Pc} (keep : List Bool) (n : Int) (hn : n ≤ 64) : ∀ (l : List Bytes) (i : Int) (R : Rg) (D : Dev) (W : List Pc), LifeP vol g e R D b A B P0 W → 0 ≤ i → i + l.length ≤ n → (∀ s ∈ l, s.length ≤ 200) → ((P0.length + W.length + l.length : Nat) : Int) ≤ g.w →
    (∃ E, appK n l i R D = (0, (advR n l i R, E)) ∧ LifeP vol g e (advR n l i R) E b A B P0 (W ++ mkP n l i R)) ∨
    ∃ R' E W1 W2 a, appK n l i R D = (21, (R', E)) ∧ EndP vol g e E keep (b + 2 * g.w.toNat) A B P0 W1 W2 ∧ W1 = W ++ (mkP n l i R).take a
  | [], i, R, D, W, h, _, _, _, _ => .inl ⟨D, rfl, by rw [show mkP n [] i R = [] from rfl, List.append_nil]; exact h⟩
  | x :: r, i, R, D, W, h, h0, hi, hl, hw => by
    rw [List.length_cons] at hi hw
    have hp := pcR_may h.ok (i := i) (n := n) (b := x) h0 (by omega) hn (hl x (by simp))
    have unf : ∀ z, putR R D (pcR R i n x) = z → appK n (x :: r) i R D = match z.1 != 0 with | true => z | false => appK n r (i + 1) z.2.1 z.2.2 := fun z hz => by
      show (match (putR R D (pcR R i n x)).1 != 0 with
        | true => putR R D (pcR R i n x)
        | false => appK n r (i + 1) (putR R D (pcR R i n x)).2.1 (putR R D (pcR R i n x)).2.2) = _
      rw [hz]
    rcases h.snoc keep hp (by omega) with ⟨E, e1, e2⟩ | ⟨E, W1, W2, e1, e2, e3⟩
    · have u := unf _ e1
      have u : appK n (x :: r) i R D = appK n r (i + 1) (nxR R (pcR R i n x)) E := u
      rcases appK_L keep n hn r (i + 1) (nxR R (pcR R i n x)) E (W ++ [pcR R i n x]) e2 (by omega) (by omega) (fun s hs => hl s (by simp [hs])) (by rw [List.length_append, List.length_singleton]; omega) with ⟨F, f1, f2⟩ | ⟨R', F, W1, W2, a, f1, f2, f3⟩
      · refine .inl ⟨F, u.trans f1, ?_⟩
        rw [List.append_assoc] at f2
        exact f2
      · refine .inr ⟨R', F, W1, W2, a + 1, u.trans f1, f2, ?_⟩
        rw [f3, List.append_assoc]; rfl
    · have u := unf _ e1
      have u : appK n (x :: r) i R D = (21, (R, E)) := u
      have e2 := e2.mono (c := b + 2 * g.w.toNat) (by omega)
      rcases e3 with e3 | e3
      · exact .inr ⟨R, E, W1, W2, 0, u, e2, by rw [e3, List.take_zero, List.append_nil]⟩
      · exact .inr ⟨R, E, W1, W2, 1, u, e2, by rw [e3]; rfl⟩

theorem append_L {vol : Int} {g : GeoV} {e : Int} {b : Nat} {A B : Nat → Option Pc} {P0 W : List Pc} {R : Rg} {D : Dev} (h : LifeP vol g e R D b A B P0 W) (keep : List Bool) (x : Bytes) :
    (((R.append D x).1 = 2 ∨ (R.append D x).1 = 4) ∧ (R.append D x).2 = (R, D)) ∨
    (∃ R' E s, R.append D x = (0, (R', E)) ∧ SegP s ∧ catB s = x ∧ LifeP vol g e R' E b A B P0 (W ++ s)) ∨
    ∃ R' E W1 W2 s a, R.append D x = (21, (R', E)) ∧ SegP s ∧ catB s = x ∧ EndP vol g e E keep (b + 2 * g.w.toNat) A B P0 W1 W2 ∧ W1 = W ++ s.take a := by
  have hn := h.next
  have hs := h.start
  have hg := h.rg
  obtain ⟨g1, g2, _⟩ := R.g.of_may h.ok.g
  by_cases h64 : (splitB x).length > 64
  · left
    have ea : R.append D x = (2, (R, D)) := by unfold Rg.append; rw [decide_eq_true h64]
    rw [ea]; exact ⟨.inl rfl, rfl⟩
  · by_cases hf : R.next + (splitB x).length - R.start > R.g.w ∨ R.next + ((splitB x).length : Int) > 4294967295
    · left
      have ea : R.append D x = (4, (R, D)) := by
        unfold Rg.append; rw [decide_eq_false h64]
        simp only
        rw [show (decide (R.next + ((splitB x).length : Int) - R.start > R.g.w) || decide (R.next + ((splitB x).length : Int) > 4294967295)) = true by rw [Bool.or_eq_true, decide_eq_true_eq, decide_eq_true_eq]; exact hf]
      rw [ea]; exact ⟨.inr rfl, rfl⟩
    · right
      have ea : R.append D x = appK (splitB x).length (splitB x) 0 R D := by
        unfold Rg.append
        rw [decide_eq_false h64]
        simp only
        rw [decide_eq_false (show ¬ R.next + (splitB x).length - R.start > R.g.w by omega), decide_eq_false (show ¬ R.next + ((splitB x).length : Int) > 4294967295 by omega)]; rfl
      obtain ⟨t1, t2⟩ := tx_seg x R
      rw [hg] at hf
      rcases appK_L keep (splitB x).length (by omega) (splitB x) 0 R D W h (Int.le_refl _) (by omega) (splitB_all x) (by omega) with ⟨E, f1, f2⟩ | ⟨R', E, W1, W2, a, f1, f2, f3⟩
      · exact .inl ⟨_, E, _, ea.trans f1, t1, t2, f2⟩
      · exact .inr ⟨R', E, W1, W2, _, a, ea.trans f1, t1, t2, f2, f3⟩

theorem aps_L {vol : Int} {g : GeoV} {e : Int} {b : Nat} {A B : Nat → Option Pc} {P0 : List Pc} (keep : List Bool) : ∀ (l out : List Bytes) (R : Rg) (D : Dev) (Q : List (List Pc)), LifeP vol g e R D b A B P0 Q.flatten → (∀ s ∈ Q, SegP s) → out = Q.map catB →
    (∃ (R' : Rg) (E : Dev) (Q' : List (List Pc)), apsA l out R D = ((Q'.map catB, true), (R', E)) ∧ LifeP vol g e R' E b A B P0 Q'.flatten ∧ (∀ s ∈ Q', SegP s)) ∨
    ∃ (R' : Rg) (E : Dev) (Q' : List (List Pc)) (W1 W2 s : List Pc) (a : Nat), apsA l out R D = ((Q'.map catB, false), (R', E)) ∧ (∀ s ∈ Q', SegP s) ∧ SegP s ∧ catB s ∈ l ∧ EndP vol g e E keep (b + 2 * g.w.toNat) A B P0 W1 W2 ∧ W1 = Q'.flatten ++ s.take a
  | [], out, R, D, Q, h, hQ, ho => .inl ⟨R, D, Q, by rw [ho]; rfl, h, hQ⟩
  | x :: r, out, R, D, Q, h, hQ, ho => by
    have unf : ∀ z, R.append D x = z → apsA (x :: r) out R D = match (z.1 == 4) || (z.1 == 2) with
        | true => apsA r out z.2.1 z.2.2
        | false => match z.1 != 0 with
          | true => ((out, false), z.2)
          | false => apsA r (out ++ [x]) z.2.1 z.2.2 := fun z hz => by rw [← hz]; rfl
    rcases append_L h keep x with ⟨e1, e2⟩ | ⟨R1, E, s, e1, e2, e3, e4⟩ | ⟨R', E, W1, W2, s, a, e1, e2, e3, e4, e5⟩
    · have u : apsA (x :: r) out R D = apsA r out R D := by
        have u := unf _ rfl
        rcases e1 with e1 | e1 <;> rw [e1, e2] at u <;> exact u
      rw [u]
      rcases aps_L keep r out R D Q h hQ ho with ⟨R', E, Q', f⟩ | ⟨R', E, Q', W1, W2, s, a, f1, f2, f3, f4, f5⟩
      · exact .inl ⟨R', E, Q', f⟩
      · exact .inr ⟨R', E, Q', W1, W2, s, a, f1, f2, f3, List.mem_cons_of_mem _ f4, f5⟩
    · have u : apsA (x :: r) out R D = apsA r (out ++ [x]) R1 E := unf _ e1
      rw [u]
      rcases aps_L keep r (out ++ [x]) R1 E (Q ++ [s]) (by rw [List.flatten_append, show [s].flatten = s by simp]; exact e4) (fun y hy => by
          rw [List.mem_append, List.mem_singleton] at hy
          rcases hy with hy | rfl
          · exact hQ y hy
          · exact e2) (by rw [ho, List.map_append, ← e3]; rfl) with ⟨R', E, Q', f⟩ | ⟨R', E, Q', W1, W2, s, a, f1, f2, f3, f4, f5⟩
      · exact .inl ⟨R', E, Q', f⟩
      · exact .inr ⟨R', E, Q', W1, W2, s, a, f1, f2, f3, List.mem_cons_of_mem _ f4, f5⟩
    · have u : apsA (x :: r) out R D = ((out, false), (R', E)) := unf _ e1
      exact .inr ⟨R', E, Q, W1, W2, s, a, by rw [u, ho], hQ, e2, by rw [e3]; exact List.mem_cons_self .., e4, e5⟩
end Go.Proofs.YtinfbclgkghgaaaGreat.AL

/- The layer 11 (ring), plain: crash by crash. -/
namespace Go.Proofs.YtinfbclgkghgaaaGreat.AL
open Go Go.Proofs Go.Proofs.YtinfbclgkghgaaaGreat.AL.Crc

theorem take_le {α : Type} {a b : List α} (h : a = b ∨ ∃ p, a = b ++ [p]) : b.length ≤ a.length ∧ a.length ≤ b.length + 1 ∧ ∀ (i : Nat) (p : α), b[i]? = some p → a[i]? = some p := by
  rcases h with rfl | ⟨q, rfl⟩
  · exact ⟨Nat.le_refl _, Nat.le_succ _, fun _ _ h => h⟩
  · refine ⟨by rw [List.length_append, List.length_singleton]; omega, by rw [List.length_append, List.length_singleton]; exact Nat.le_refl _, fun i p h => ?_⟩
    rw [List.getElem?_append_left (List.getElem?_eq_some_iff.1 h).1]; exact h

theorem state_next {vol : Int} {g : GeoV} {e e' : Int} {A B : Nat → Option Pc} {Q Q1 : List (List Pc)} {T T1 W1 W2 : List Pc} {cs0 cs : List Cell} (h : StateP vol g e A B Q T cs0) (he : e < e') (hs : SlotsP vol g (overO A Q.flatten.length W1) (overO B Q.flatten.length W2) cs)
    (hn : NewP vol g e' Q.flatten W1) (hw : W1 = W2 ∨ ∃ p, W1 = W2 ++ [p]) (hl : ((Q.flatten.length + W1.length : Nat) : Int) ≤ g.w) (hW : W1 = Q1.flatten ++ T1) (h1 : ∀ s ∈ Q1, SegP s) (hT : TailP T1) (hne : W1 ≠ []) :
    StateP vol g e' (overO A Q.flatten.length W1) (overO B Q.flatten.length W2) (Q ++ Q1) T1 cs := by
  have hP : (Q ++ Q1).flatten ++ T1 = Q.flatten ++ W1 := by rw [List.flatten_append, List.append_assoc, ← hW]
  have hsegs : ∀ s ∈ Q ++ Q1, SegP s := fun s hs => by
    rw [List.mem_append] at hs
    rcases hs with hs | hs
    · exact h.segs s hs
    · exact h1 s hs
  obtain ⟨_, ma, mb, ch, te, _, _, _⟩ := h
  obtain ⟨t1, t2, t3⟩ := take_le hw
  have low : ∀ (i : Nat) (p : Pc), Q.flatten[i]? = some p → (Q.flatten ++ T)[i]? = some p := fun i p hi => by
    rw [List.getElem?_append_left (List.getElem?_eq_some_iff.1 hi).1]; exact hi
  have lt : ∀ {l : List Pc} {i : Nat} {p : Pc}, l[i]? = some p → i < l.length := fun hi => (List.getElem?_eq_some_iff.1 hi).1
  have lep : ∀ (i : Nat) (p : Pc), Q.flatten[i]? = some p → p.epoch ≤ e := fun i p hi => (ma i p (te.one i p (low i p hi)).1).2.2
  have cut : ∀ (i : Nat) (p : Pc), (Q.flatten ++ W1)[i]? = some p → (i < Q.flatten.length ∧ Q.flatten[i]? = some p) ∨ (Q.flatten.length ≤ i ∧ W1[i - Q.flatten.length]? = some p) := fun i p hi => by
    rw [List.getElem?_append] at hi
    split at hi
    · exact .inl ⟨by assumption, hi⟩
    · exact .inr ⟨by omega, hi⟩
  have over1 : ∀ (C : Nat → Option Pc) (W : List Pc), MayO e C → (∀ (i : Nat) (p : Pc), W[i]? = some p → W1[i]? = some p) → MayO e' (overO C Q.flatten.length W) := by
    intro C W hC hsub k p hk
    by_cases c : Q.flatten.length ≤ k
    · cases hx : W[k - Q.flatten.length]? with
      | some q =>
        rw [over_in C c hx] at hk
        obtain rfl := Option.some.inj hk
        obtain ⟨n1, n2, n3, _⟩ := hn _ _ (hsub _ _ hx)
        exact ⟨n1, by rw [n2]; congr 1; omega, by omega⟩
      | none =>
        rw [over_out C (by have := List.getElem?_eq_none_iff.1 hx; omega)] at hk
        obtain ⟨a, b, c⟩ := hC k p hk
        exact ⟨a, b, by omega⟩
    · rw [over_lt C W (by omega)] at hk
      obtain ⟨a, b, c⟩ := hC k p hk
      exact ⟨a, b, by omega⟩
  refine ⟨hs, over1 A W1 ma (fun _ _ h => h), over1 B W2 mb t3, ?_, ?_, by rw [hP, List.length_append]; exact hl, hsegs, hT⟩
  · rw [hP]
    refine ⟨fun i p hi => ?_, fun i p q hi hq => ?_⟩
    · rcases cut i p hi with ⟨c1, c2⟩ | ⟨c1, c2⟩
      · obtain ⟨m1, m2, m3⟩ := ch.may i p (low i p c2)
        refine ⟨m1, m2, ?_⟩
        rw [m3, sumAt_app _ _ _ _ _ (by omega), sumAt_app _ _ _ _ _ (by omega)]
      · obtain ⟨n1, n2, _, _, n5⟩ := hn _ _ c2
        rw [show Q.flatten.length + (i - Q.flatten.length) = i by omega] at n2 n5
        exact ⟨n1, n2, n5⟩
    · rcases cut i p hi with ⟨c1, c2⟩ | ⟨c1, c2⟩
      · rcases cut (i + 1) q hq with ⟨d1, d2⟩ | ⟨d1, d2⟩
        · exact ch.nxt i p q (low i p c2) (low (i + 1) q d2)
        · obtain ⟨n1, n2, n3, n4, n5⟩ := hn _ _ d2
          have := lep i p c2
          have hi0 : i + 1 = Q.flatten.length := by omega
          refine ⟨by omega, fun h => absurd h (by omega), fun _ => ?_⟩
          rw [n4, n2]
          congr 1
          omega
      · rcases cut (i + 1) q hq with ⟨d1, d2⟩ | ⟨d1, d2⟩
        · omega
        · obtain ⟨_, _, n3, n4, _⟩ := hn _ _ c2
          obtain ⟨_, _, k3, k4, _⟩ := hn _ _ d2
          exact ⟨by omega, fun _ => by rw [k4, n4], fun h => absurd h (by omega)⟩
  · rw [hP]
    refine ⟨fun i p hi => ?_, fun q hq => ?_⟩
    · rcases cut i p hi with ⟨c1, c2⟩ | ⟨c1, c2⟩
      · rw [over_lt A W1 c1, over_lt B W2 c1]
        exact te.one i p (low i p c2)
      · refine ⟨over_in A c1 c2, fun q hq => ?_⟩
        obtain ⟨_, _, n3, _⟩ := hn _ _ c2
        cases hx : W2[i - Q.flatten.length]? with
        | some r =>
          rw [over_in B c1 hx] at hq
          have := t3 _ _ hx
          rw [c2] at this
          rw [Option.some.inj hq] at this
          exact .inl (Option.some.inj this).symm
        | none =>
          rw [over_out B (by have := List.getElem?_eq_none_iff.1 hx; omega)] at hq
          exact .inr (by have := (mb i q hq).2.2; omega)
    · rw [List.length_append] at hq
      rw [over_out A (Nat.le_refl _), over_out B (by omega)] at hq
      have hqe : q.epoch ≤ e := by
        rcases hq with hq | hq
        · exact (ma _ q hq).2.2
        · exact (mb _ q hq).2.2
      obtain ⟨l, hx⟩ : ∃ l, W1.getLast? = some l := by
        cases hg : W1.getLast? with
        | none => rw [List.getLast?_eq_none_iff] at hg; exact absurd hg hne
        | some p => exact ⟨p, rfl⟩
      refine ⟨l, by rw [List.getLast?_append, hx]; rfl, ?_⟩
      rw [List.getLast?_eq_getElem?] at hx
      have := (hn _ _ hx).2.2.1
      omega

theorem segs_nil {Q : List (List Pc)} (hQ : ∀ s ∈ Q, SegP s) (h : Q.flatten = []) : Q = [] := by
  cases Q with
  | nil => rfl
  | cons s r =>
    rw [List.flatten_cons] at h
    exact absurd (List.append_eq_nil_iff.mp h).1 (hQ s (by simp)).1
theorem StateP.still {vol : Int} {g : GeoV} {e e' : Int} {A B : Nat → Option Pc} {Q : List (List Pc)} {T : List Pc} {cs0 cs : List Cell} (h : StateP vol g e A B Q T cs0) (he : e ≤ e') (hs : SlotsP vol g A B cs) : StateP vol g e' A B Q T cs :=
  ⟨hs, fun k p hk => by obtain ⟨a, b, c⟩ := h.ma k p hk; exact ⟨a, b, by omega⟩, fun k p hk => by obtain ⟨a, b, c⟩ := h.mb k p hk; exact ⟨a, b, by omega⟩, h.chain, h.tells, h.len, h.segs, h.tail⟩

/-- A LIFE AND ITS CRASH. -/
theorem life_P {vol : Int} {g : GeoV} {e : Int} {A B : Nat → Option Pc} {Q : List (List Pc)} {T : List Pc} {D : Dev} {b : Nat} (hg : g.may = true) (hv : wordB vol = true) (h : StateP vol g e A B Q T D.cells) (hD : CleanP D g.secs b) (h0 : 0 ≤ e) (h1 : e < 4294967295) (l : List Bytes) (die : Int) (keep : List Bool) :
    ∃ (out : List Bytes) (whole : Bool) (R' : Rg) (E : Dev), apsA l [] (newR vol g (e + 1) 0 (Q.flatten.length : Int) (sumL vol g Q.flatten 0)) (D.arm die) = ((out, whole), (R', E)) ∧ E.Ok (b + 2 * g.w.toNat) ∧ CleanP (E.crashed keep) g.secs (b + 2 * g.w.toNat) ∧ newOk vol g (e + 1) 0 (Q.flatten.length : Int) (sumL vol g Q.flatten 0) = true ∧
    ∃ (A' B' : Nat → Option Pc) (Q' : List (List Pc)) (T' : List Pc), StateP vol g (e + 1) A' B' Q' T' (E.crashed keep).cells ∧ (Q'.map catB = Q.map catB ++ out ∨ (whole = false ∧ ∃ x ∈ l, Q'.map catB = Q.map catB ++ out ++ [x])) := by
  obtain ⟨g1, g2, _⟩ := g.of_may hg
  have hlen := h.len
  rw [List.length_append] at hlen
  have hsum : wordB (sumL vol g Q.flatten 0) = true := by
    unfold sumL
    split
    · have := sumP_word vol g (by assumption)
      unfold wordB
      rw [Bool.and_eq_true, decide_eq_true_eq, decide_eq_true_eq]; exact this
    · decide
  have hok : newOk vol g (e + 1) 0 (Q.flatten.length : Int) (sumL vol g Q.flatten 0) = true := by
    unfold newOk
    simp only [List.all_cons, List.all_nil, Bool.and_true]
    rw [hg, hv, hsum, decide_eq_false (show ¬ (Q.flatten.length : Int) < 0 by omega), decide_eq_false (show ¬ (Q.flatten.length : Int) - 0 > g.w by omega)]
    unfold wordB
    rw [decide_eq_true (show 0 ≤ e + 1 by omega), decide_eq_true (show e + 1 ≤ 4294967295 by omega), decide_eq_true (show (0 : Int) ≤ (Q.flatten.length : Int) by omega), decide_eq_true (show (Q.flatten.length : Int) ≤ 4294967295 by omega)]
    rfl
  have L : LifeP vol g (e + 1) (newR vol g (e + 1) 0 (Q.flatten.length : Int) (sumL vol g Q.flatten 0)) (D.arm die) b A B Q.flatten (([] : List (List Pc)).flatten) := by
    refine ⟨newOk_ok hok, rfl, rfl, rfl, (hD.live.arm die).mono (by omega), ?_, fun i p hi => by simp at hi, rfl, rfl, by show (Q.flatten.length : Int) = _; simp, ?_, by show ((Q.flatten.length + 0 : Nat) : Int) ≤ g.w; omega⟩
    · show SlotsP vol g (overO A Q.flatten.length []) (overO B Q.flatten.length []) D.cells
      rw [over_nil, over_nil]; exact h.slots
    · show sumL vol g Q.flatten 0 = sumAt vol g 0 (Q.flatten ++ []) (Q.flatten.length + 0)
      rw [Nat.add_zero, sumAt_le]
  rcases aps_L keep l [] _ _ [] L (fun s hs => by simp at hs) rfl with ⟨R', E, Q', e1, e2, e3⟩ | ⟨R', E, Q', W1, W2, s, a, e1, e2, e3, e4, e5, e6⟩
  · have hle : Q'.flatten.length ≤ g.w.toNat := by have := e2.len; omega
    have hcr : E.crashed keep = { E with dead := false, armed := false, waits := [] } ∨ (E.crashed keep).cells = E.cells := .inr (by show crashC E.waits keep E.waits.length E.cells = _; rw [e2.live.waits]; rfl)
    have hcells : (E.crashed keep).cells = E.cells := by show crashC E.waits keep E.waits.length E.cells = _; rw [e2.live.waits]; rfl
    have hcl : CleanP (E.crashed keep) g.secs (b + 2 * g.w.toNat) := ⟨(e2.live.ok.mono (by omega)).crashed keep, rfl, rfl, rfl, by rw [hcells]; exact e2.live.len, by rw [hcells]; exact e2.live.well⟩
    refine ⟨_, _, R', E, e1, e2.live.ok.mono (by omega), hcl, hok, ?_⟩
    by_cases hn : Q'.flatten = []
    · have := segs_nil e3 hn
      subst this
      refine ⟨A, B, Q, T, h.still (by omega) ?_, .inl (by simp)⟩
      have s := e2.slots
      rw [hcells]
      rw [show ([] : List (List Pc)).flatten = [] from rfl, over_nil, over_nil] at s
      exact s
    · exact ⟨_, _, Q ++ Q', [], state_next h (by omega) (by rw [hcells]; exact e2.slots) e2.new (.inl rfl) e2.len (by rw [List.append_nil]) e3 ⟨.inl rfl⟩ hn, .inl (by rw [List.map_append])⟩
  · refine ⟨_, _, R', E, e1, e5.ok, e5.clean, hok, ?_⟩
    have sl := e5.slots
    have hh := e5.half
    by_cases hn : W1 = []
    · rw [hn] at e6 sl hh
      have hq : Q' = [] := segs_nil e2 (List.append_eq_nil_iff.mp e6.symm).1
      have hw2 : W2 = [] := by
        rcases hh with hh | ⟨p, hh⟩
        · exact hh.symm
        · exact absurd hh (by simp)
      rw [hw2, over_nil, over_nil] at sl
      exact ⟨A, B, Q, T, h.still (by omega) sl, .inl (by rw [hq]; simp)⟩
    · by_cases ha : s.length ≤ a
      · rw [List.take_of_length_le ha] at e6
        refine ⟨_, _, Q ++ (Q' ++ [s]), [], state_next h (by omega) sl e5.new hh e5.len (by rw [e6]; simp) (fun y hy => ?_) ⟨.inl rfl⟩ hn, .inr ⟨rfl, catB s, e4, by rw [List.map_append, List.map_append, List.append_assoc]; rfl⟩⟩
        rw [List.mem_append, List.mem_singleton] at hy
        rcases hy with hy | rfl
        · exact e2 y hy
        · exact e3
      · exact ⟨_, _, Q ++ Q', s.take a, state_next h (by omega) sl e5.new hh e5.len e6 e2 ⟨.inr ⟨s, e3, List.take_prefix _ _, by rw [List.length_take]; omega⟩⟩ hn, .inl (by rw [List.map_append])⟩
/-- The first state. -/
theorem state_new {vol : Int} {g : GeoV} (hg : g.may = true) (hv : wordB vol = true) : StateP vol g 0 (fun _ => none) (fun _ => none) [] [] (blankD vol g).cells ∧ CleanP (blankD vol g) g.secs g.secs := by
  obtain ⟨c, hc⟩ := blankP vol hv g hg
  obtain ⟨_, _, q⟩ := secs_le hg
  obtain ⟨g1, _⟩ := g.of_may hg
  refine ⟨⟨⟨fun k hk => hc _ (by rw [addr0]; omega), fun k hk => hc _ (by rw [addr1]; omega)⟩, fun k p h => absurd h (by simp), fun k p h => absurd h (by simp), ⟨fun i p h => absurd h (by simp), fun i p q h => absurd h (by simp)⟩, ⟨fun i p h => absurd h (by simp), fun q h => absurd h (by simp)⟩, by show ((0 : Nat) : Int) ≤ g.w; omega, fun s h => absurd h (by simp), ⟨.inl rfl⟩⟩, c⟩
end Go.Proofs.YtinfbclgkghgaaaGreat.AL

/- The law RingCrash: crash by crash the transactions that were appended are told, and the one on its way wholly or not at all. -/
namespace Go.Proofs.YtinfbclgkghgaaaGreat.AL
open Go Go.Proofs

def catY (l : List (List Bytes)) : List (List PV) := l.map fun x => [.sl 1 (catX x)]
theorem catY_len (l : List (List Bytes)) : (catY l).length = l.length := by simp [catY]
theorem catY_get {l : List (List Bytes)} {i : Nat} {x : List Bytes} (h : l[i]? = some x) : (catY l)[i]? = some [.sl 1 (catX x)] := by rw [catY, List.getElem?_map, h]; rfl
theorem catX_app2 (l r : List Bytes) : catX l ++ catX r = catX (l ++ r) := by simp [catX]
theorem state_small {vol : Int} {g : GeoV} {e : Int} {A B : Nat → Option Pc} {Q : List (List Pc)} {T : List Pc} {cs : List Cell} (hg : g.may = true) (h : StateP vol g e A B Q T cs) : (Q.map catB).length ≤ 512 ∧ Q.flatten.length ≤ 512 ∧ ∀ s ∈ Q.map catB, s.length ≤ 1000000 := by
  obtain ⟨g1, g2, _⟩ := g.of_may hg
  have hl := h.len
  rw [List.length_append] at hl
  have hf := flat_le h.segs
  refine ⟨by rw [List.length_map]; omega, by omega, fun s hs => ?_⟩
  rw [List.mem_map] at hs
  obtain ⟨q, hq, rfl⟩ := hs
  have h1 := catB_le (s := q) fun p hp => by
    obtain ⟨i, hi⟩ := List.getElem?_of_mem (List.mem_flatten.mpr ⟨q, hq, hp⟩)
    have hi : (Q.flatten ++ T)[i]? = some p := by rw [List.getElem?_append_left (List.getElem?_eq_some_iff.1 hi).1]; exact hi
    exact (p.of_may (h.chain.may i p hi).1).2.2.2.2.2.2.2.2.2
  have h2 := mem_flat_le hq
  omega

set_option maxHeartbeats 8000000 in
set_option maxRecDepth 20000 in
theorem ring_crash (g : GeoV) (lives : List (List Bytes)) (die : List Int) (keep : List Bool) : AF Tryz.prog f_law11_RingCrash [g.av, .p (.sl 1 (catY lives)), .p (.sl 1 (ix die)), .p (.sl 1 (kx keep))] [] (Pure (bl true) []) := by
  refine AF.mono (R := fun r H' => ∃ z, z = true ∧ r = bl z ∧ H' = []) ?_ (by rintro r H' ⟨b, rfl, rfl, rfl⟩; exact ⟨rfl, rfl⟩)
  have hyl := catY_len lives
  have hdl : (ix die).length = die.length := by unfold ix; rw [List.length_map]
  have hkl := kx_len keep
  refine af_body hT F_law11_RingCrash rfl rfl N_law11_RingCrash rfl ?_
  refine aw_cut ⟨⟨213, [(1, .p (.sl 1 (catY lives))), (2, .p (.sl 1 (ix die))), (3, .p (.sl 1 (kx keep))), (4, .p (.box g.pv))]⟩, []⟩ True (aw_region hT ?_) (fun _ => ?_)
  · exact ⟨Wk.trans (wk_boxL 0 g.pv rfl rfl) (wk_pick [] [1, 2, 3, 4] rfl), trivial⟩
  refine aw_seq (aw_region hT ?_)
  refine callP (af_at law11_awake _ rfl rfl) ?_
  cases hb : blankOk 7 g with
  | false =>
    refine aw_seq (aw_region hT ?_)
    refine callP (af_at (law11_Blank_no 7 g hb) _ rfl rfl) ?_
    refine aw_seq (aw_seq (aw_region hT ?_))
    refine aw_cond ?_
    refine aw_seq (aw_region hT ?_)
    refine aw_ret ?_
    exact retPick [] ⟨true, rfl, rfl, rfl⟩ rfl
  | true =>
  refine aw_seq (aw_region hT ?_)
  refine callP (law11_Blank 7 g hb) ?_
  generalize hD0 : blankD 7 g = D0
  refine aw_cut ⟨⟨213, [(1, .p (.sl 1 (catY lives))), (2, .p (.sl 1 (ix die))), (3, .p (.sl 1 (kx keep))), (4, .p (.box g.pv)), (10, .ref 0 0)]⟩, devH D0⟩ (lives.length ≤ 3 ∧ lives.length ≤ die.length ∧ keep.length ≤ 20) (aw_seq (aw_region hT ?_)) ?_
  · refine boolI (fun h => ?_) (fun h => ?_)
    · refine aw_cond ?_
      refine aw_seq (aw_region hT ?_)
      refine aw_ret ?_
      exact retPick [] ⟨true, rfl, rfl, rfl⟩ rfl
    have h1 := of_decide_eq_false (show decide ((((catY lives).length : Nat) : Int) > 3) = false from h)
    refine boolI (fun h => ?_) (fun h => ?_)
    · refine aw_cond ?_
      refine aw_seq (aw_region hT ?_)
      refine aw_ret ?_
      exact retPick [] ⟨true, rfl, rfl, rfl⟩ rfl
    have h2 := of_decide_eq_false (show decide ((((ix die).length : Nat) : Int) < (((catY lives).length : Nat) : Int)) = false from h)
    refine aw_cond (boolI (fun h => ?_) (fun h => ?_))
    · refine aw_seq (aw_region hT ?_)
      refine aw_ret ?_
      exact retPick [] ⟨true, rfl, rfl, rfl⟩ rfl
    have h3 := of_decide_eq_false (show decide ((((kx keep).length : Nat) : Int) > 20) = false from h)
    exact aw_skip ⟨wk_pick [0, 1, 2] [1, 2, 3, 4, 10] rfl, by omega, by omega, by omega⟩
  rintro ⟨hl3, hdie, hkeep⟩
  obtain ⟨hg, hw16⟩ := blankOk_may hb
  obtain ⟨g1, g2, _⟩ := g.of_may hg
  obtain ⟨_, hq2, _⟩ := secs_le hg
  obtain ⟨SP0, cP0⟩ := state_new hg (show wordB 7 = true by decide)
  rw [hD0] at SP0 cP0
  refine aw_cut ⟨⟨213, [(1, .p (.sl 1 (catY lives))), (2, .p (.sl 1 (ix die))), (3, .p (.sl 1 (kx keep))), (4, .p (.box g.pv)), (10, .ref 0 0), (11, .msl 3 1 0 0)]⟩, devH D0 ++ [.row t_s_u8 1 []]⟩ True (aw_region hT ?_) (fun _ => ?_)
  · exact ⟨Wk.trans (wk_phantom t_s_u8 1) (Wk.trans (wk_nil 11 3 1 0 rfl) (wk_pick [0, 1, 2, 3] [1, 2, 3, 4, 10, 11] rfl)), trivial⟩
  refine aw_seq (aw_region hT ?_)
  refine aw_seq (aw_region hT ?_)
  refine aw_cut ⟨⟨213, []⟩, []⟩ True (aw_seq (aw_region hT ?_)) (fun _ => ?_)
  · refine aw_block ?_
    refine aw_loopW (fun n st => ∃ (k : Nat) (j : Int) (D : Dev) (A B : Nat → Option Pc) (Q : List (List Pc)) (T : List Pc), n + k = lives.length ∧ j = k ∧ StateP 7 g k A B Q T D.cells ∧ CleanP D g.secs (g.secs + 32 * k) ∧ st = ⟨⟨213, [(1, .p (.sl 1 (catY lives))), (2, .p (.sl 1 (ix die))), (3, .p (.sl 1 (kx keep))), (4, .p (.box g.pv)), (10, .ref 0 0), (11, .msl 3 1 0 (catX (Q.map catB)).length), (12, i64 Q.flatten.length), (13, i64 (sumL 7 g Q.flatten 0)), (14, i64 j)]⟩, devH D ++ [.row t_s_u8 1 (catX (Q.map catB))]⟩) lives.length ⟨⟨213, _⟩, _⟩ (wk_pick [0, 1, 2, 3] [1, 2, 3, 4, 10, 11, 12, 13, 14] rfl) ⟨0, 0, D0, _, _, [], [], rfl, rfl, SP0, cP0, rfl⟩ ?_
    rintro n st ⟨k, j, D, A, B, Q, T, hnk, hj, SP, cP, rfl⟩
    refine aw_seq (aw_seq (aw_region hT ?_))
    refine aw_cond (boolI (fun h => ?_) (fun h => ?_))
    · have h := of_decide_eq_true (show decide (j < (((catY lives).length : Nat) : Int)) = true from h)
      refine aw_skip ?_
      have hk : k < lives.length := by omega
      have hx := List.getElem?_eq_getElem hk
      generalize lives[k] = life at hx
      have hd := List.getElem?_eq_getElem (show k < die.length by omega)
      generalize die[k] = dx at hd
      have hxp : (catY lives)[j.toNat]? = some [.sl 1 (catX life)] := by rw [hj, Int.toNat_natCast]; exact catY_get hx
      have hdp : (ix die)[j.toNat]? = some [.raw (.int .i64 dx)] := by rw [hj, Int.toNat_natCast]; exact ix_at hd
      obtain ⟨sm1, sm2, sm3⟩ := state_small hg SP
      obtain ⟨out, whole, R', E, e1, okE, cE, hok, A', B', Q', T', SP', hrel⟩ := life_P hg (show wordB 7 = true by decide) SP cP (by omega) (by omega) life dx keep
      obtain ⟨ep, hF⟩ := state_told hg (show wordB 7 = true by decide) SP' cE
      obtain ⟨sn1, sn2, sn3⟩ := state_small hg SP'
      have SP' : StateP 7 g ((k + 1 : Nat) : Int) A' B' Q' T' (E.crashed keep).cells := SP'
      have hje : IntKind.i64.wrap (j + 1) = (k : Int) + 1 := by rw [wrap64 _ (by omega) (by omega), hj]
      have wsm := law11_small life
      generalize hsm : fewB 12 1500 life = sm at wsm
      refine aw_cut2 (fun st => ∃ (D : Dev), StateP 7 g ((k + 1 : Nat) : Int) A' B' Q' T' D.cells ∧ CleanP D g.secs (g.secs + 32 * (k + 1)) ∧ st = ⟨⟨213, [(1, .p (.sl 1 (catY lives))), (2, .p (.sl 1 (ix die))), (3, .p (.sl 1 (kx keep))), (4, .p (.box g.pv)), (10, .ref 0 0), (11, .msl 3 1 0 (catX (Q'.map catB)).length), (12, i64 Q'.flatten.length), (13, i64 (sumL 7 g Q'.flatten 0)), (14, i64 j)]⟩, devH D ++ [.row t_s_u8 1 (catX (Q'.map catB))]⟩) (aw_block ?_) ?_
      · refine aw_seq (aw_region hT ?_)
        refine ⟨by omega, optI hxp ?_⟩
        refine callP (af_at wsm _ rfl rfl) ?_
        cases sm with
        | false =>
          refine aw_seq (aw_seq (aw_region hT ?_))
          refine aw_cond ?_
          refine aw_seq (aw_region hT ?_)
          refine aw_ret ?_
          exact retPick [] ⟨true, rfl, rfl, rfl⟩ rfl
        | true =>
        obtain ⟨hl12, hlb⟩ := small_all hsm
        have wN := ring_New D 7 g (k + 1) 0 Q.flatten.length (sumL 7 g Q.flatten 0) hok
        have okR := newOk_ok hok
        have wA := law11_appended _ (D.arm dx) life _ okR (cP.ok.arm dx) (by omega) (fun s hs => by have := hlb s hs; omega) (by omega)
        rw [e1] at wA
        generalize newR 7 g (k + 1) 0 Q.flatten.length (sumL 7 g Q.flatten 0) = R0 at wN wA
        clear e1 okR hok
        rw [← hje] at wN
        have wArm := disk_Arm D dx
        generalize D.arm dx = D1 at wA wArm
        have wC := disk_Crash E keep okE.at_ (by have := okE.wl; omega)
        obtain ⟨_, _, cL, eL⟩ := load_P hg cE
        have wL := ring_Load (E.crashed keep) g _ cE.ok (by omega) hg
        have hl0 := rdK_bytes cE.ok (atM g 0) g.w.toNat
        have hl1 := rdK_bytes (rdK_ok cE.ok (atM g 0) g.w.toNat) (atM g 1) g.w.toNat
        have hl0 : ∀ s ∈ (load0 (E.crashed keep) g).1, s.length ≤ 256 := hl0
        have hl1 : ∀ s ∈ (load1 (E.crashed keep) g).1, s.length ≤ 256 := hl1
        rw [← eL] at SP'
        generalize E.crashed keep = C at wC wL hF hl0 hl1 cL SP'
        clear cE eL
        generalize (load0 C g).1 = a at wL hF hl0
        generalize (load1 C g).2 = C4 at wL cL SP'
        generalize (load1 C g).1 = b at wL hF hl1
        have wF := ring_FollowM a b 7 g 0 0 (fun s hs => Nat.le_trans (hl0 s hs) (by omega)) (fun s hs => Nat.le_trans (hl1 s hs) (by omega))
        rw [hF] at wF
        clear hF hl0 hl1
        have cL : CleanP C4 g.secs (g.secs + 32 * (k + 1)) := cL.mono (by omega)
        generalize hT0 : Q.map catB = T0 at sm1 sm3 hrel ⊢
        generalize hTn : Q'.map catB = Tn at sn1 sn3 hrel wF ⊢
        generalize hn0 : Q.flatten.length = n0 at sm2 wN ⊢
        generalize hc0 : sumL 7 g Q.flatten 0 = c0 at wN ⊢
        generalize hn' : Q'.flatten.length = n' at sn2 wF ⊢
        generalize hc' : sumL 7 g Q'.flatten 0 = c' at wF ⊢
        have wF : AF Tryz.prog f_ring_Follow [.p (.sl 1 (catX a)), .p (.sl 1 (catX b)), i64 7, g.av, i64 0, i64 0] [] (Pure (.tup [.agg [.msl 0 1 0 (catX Tn).length, i64 n', i64 c', i64 ep], i64 0]) [.row t_s_u8 1 (catX Tn)]) := wF
        have wA : AFm Tryz.prog 3 f_law11_appended [.ref 2 0, .p (.sl 1 (catX life))] (rgH R0 D1) (Pure (.tup [.p (.sl 1 (catX out)), bl whole]) (rgH R' E)) := wA
        have hcT0 := catX_len T0
        have hcTn := catX_len Tn
        have hcout := catX_len out
        refine aw_cut ⟨⟨213, [(1, .p (.sl 1 (catY lives))), (2, .p (.sl 1 (ix die))), (3, .p (.sl 1 (kx keep))), (4, .p (.box g.pv)), (10, .ref 0 0), (11, .msl 3 1 0 (catX T0).length), (12, i64 n0), (13, i64 c0), (14, i64 j)]⟩, devH D ++ [.row t_s_u8 1 (catX T0)]⟩ True (aw_seq (aw_region hT ?_)) (fun _ => ?_)
        · refine ⟨by omega, optI hdp ?_⟩
          refine aw_cond (boolI (fun h => ?_) (fun h => ?_))
          · refine aw_seq (aw_region hT ?_)
            refine aw_ret ?_
            exact retPick [] ⟨true, rfl, rfl, rfl⟩ rfl
          · exact aw_skip ⟨wk_pick [0, 1, 2, 3] [1, 2, 3, 4, 10, 11, 12, 13, 14] rfl, trivial⟩
        refine aw_cut ⟨⟨213, [(1, .p (.sl 1 (catY lives))), (2, .p (.sl 1 (ix die))), (3, .p (.sl 1 (kx keep))), (4, .p (.box g.pv)), (10, .ref 0 0), (11, .msl 5 1 0 (catX T0).length), (14, i64 j), (16, .ref 2 0), (17, i64 0)]⟩, rgH R0 D ++ [.row t_s_u8 1 (catX T0)]⟩ True (aw_region hT ?_) (fun _ => ?_)
        · refine callP (af_in [0, 1, 2] wN rfl rfl rfl) ?_
          exact ⟨wk_pick [0, 4, 5, 6, 7, 3] [1, 2, 3, 4, 10, 11, 14, 16, 17] rfl, trivial⟩
        refine aw_cut ⟨⟨213, [(1, .p (.sl 1 (catY lives))), (2, .p (.sl 1 (ix die))), (3, .p (.sl 1 (kx keep))), (4, .p (.box g.pv)), (10, .ref 0 0), (11, .msl 5 1 0 (catX T0).length), (14, i64 j), (16, .ref 2 0), (17, i64 0)]⟩, rgH R0 D1 ++ [.row t_s_u8 1 (catX T0)]⟩ True (aw_region hT ?_) (fun _ => ?_)
        · refine ⟨by omega, optI hdp ?_⟩
          refine callP (af_in [0, 3, 4] wArm rfl rfl rfl) ?_
          exact ⟨wk_pick [0, 1, 2, 3, 4, 5] [1, 2, 3, 4, 10, 11, 14, 16, 17] rfl, trivial⟩
        refine aw_cut ⟨⟨213, [(1, .p (.sl 1 (catY lives))), (2, .p (.sl 1 (ix die))), (3, .p (.sl 1 (kx keep))), (4, .p (.box g.pv)), (10, .ref 0 0), (11, .msl 5 1 0 (catX T0).length), (14, i64 j), (17, i64 0), (18, .p (.sl 1 (catX out))), (19, bl whole)]⟩, rgH R' E ++ [.row t_s_u8 1 (catX T0)]⟩ True (aw_region hT ?_) (fun _ => ?_)
        · refine ⟨by omega, optI hxp ?_⟩
          refine callP (af_in [0, 1, 2, 3, 4] wA rfl rfl rfl) ?_
          exact ⟨wk_pick [0, 1, 2, 6, 7, 5] [1, 2, 3, 4, 10, 11, 14, 17, 18, 19] rfl, trivial⟩
        refine aw_cut ⟨⟨213, [(1, .p (.sl 1 (catY lives))), (2, .p (.sl 1 (ix die))), (3, .p (.sl 1 (kx keep))), (4, .p (.box g.pv)), (10, .ref 0 0), (11, .msl 3 1 0 (catX T0).length), (14, i64 j), (17, i64 0), (18, .p (.sl 1 (catX out))), (19, bl whole)]⟩, devH C ++ [.row t_s_u8 1 (catX T0)]⟩ True (aw_region hT ?_) (fun _ => ?_)
        · refine callP (af_in [0, 3, 4] wC rfl rfl rfl) ?_
          exact ⟨wk_pick [0, 6, 7, 5] [1, 2, 3, 4, 10, 11, 14, 17, 18, 19] rfl, trivial⟩
        have hol : out.length ≤ 512 := by
          rcases hrel with hr | ⟨_, x, _, hr⟩ <;> (rw [hr] at sn1; simp only [List.length_append] at sn1; omega)
        refine aw_cut2 (fun st => ∃ X, X = catX (T0 ++ out) ∧ st = ⟨⟨213, [(1, .p (.sl 1 (catY lives))), (2, .p (.sl 1 (ix die))), (3, .p (.sl 1 (kx keep))), (4, .p (.box g.pv)), (10, .ref 0 0), (11, .msl 3 1 0 X.length), (14, i64 j), (17, i64 0), (19, bl whole)]⟩, devH C ++ [.row t_s_u8 1 X]⟩) (aw_region hT ?_) ?_
        · refine ⟨rfl, ⟨?_, ?_⟩, ?_⟩
          · show ((catX T0).length + (catX out).length) * 24 ≤ _
            omega
          · show (catX T0).length + (catX out).length ≤ _
            omega
          · exact ⟨_, wk_pick [0, 1, 2, 4] [1, 2, 3, 4, 10, 11, 14, 17, 19] rfl, _, catX_app2 T0 out, rfl⟩
        rintro _ ⟨X, hX, rfl⟩
        obtain ⟨all2, hall⟩ : ∃ z, z = T0 ++ out := ⟨_, rfl⟩
        rw [← hall] at hX hrel
        subst hX
        have hca := catX_len all2
        have hal : all2.length ≤ 1024 := by rw [hall, List.length_append]; omega
        refine aw_cut ⟨⟨213, [(1, .p (.sl 1 (catY lives))), (2, .p (.sl 1 (ix die))), (3, .p (.sl 1 (kx keep))), (4, .p (.box g.pv)), (10, .ref 0 0), (11, .msl 3 1 0 (catX all2).length), (14, i64 j), (17, i64 0), (19, bl whole), (20, .p (.sl 1 (catX a))), (21, .p (.sl 1 (catX b)))]⟩, devH C4 ++ [.row t_s_u8 1 (catX all2)]⟩ True (aw_region hT ?_) (fun _ => ?_)
        · refine callP (af_in [0, 1, 2] wL rfl rfl rfl) ?_
          exact ⟨wk_pick [0, 1, 2, 3] [1, 2, 3, 4, 10, 11, 14, 17, 19, 20, 21] rfl, trivial⟩
        refine aw_cut ⟨⟨213, [(1, .p (.sl 1 (catY lives))), (2, .p (.sl 1 (ix die))), (3, .p (.sl 1 (kx keep))), (4, .p (.box g.pv)), (10, .ref 0 0), (11, .msl 3 1 0 (catX all2).length), (14, i64 j), (17, i64 0), (19, bl whole), (22, .ref 5 0), (23, i64 0)]⟩, devH C4 ++ [.row t_s_u8 1 (catX all2), .row t_s_u8 1 (catX Tn), .cells t_api_Tail [.msl 4 1 0 (catX Tn).length, i64 n', i64 c', i64 ep]]⟩ True (aw_region hT ?_) (fun _ => ?_)
        · refine callP (af_lift wF _ rfl) ?_
          exact ⟨wk_pick [0, 1, 2, 3, 4, 5] [1, 2, 3, 4, 10, 11, 14, 17, 19, 22, 23] rfl, trivial⟩
        clear wF wL wC wA wArm wN
        have hTl : (Tn.length = all2.length ∧ Tn = all2) ∨ (whole = false ∧ Tn.length = all2.length + 1) := by
          rcases hrel with hr | ⟨hw, x, _, hr⟩
          · exact .inl ⟨by rw [hr], hr⟩
          · exact .inr ⟨hw, by rw [hr, List.length_append, List.length_singleton]⟩
        have hpre : ∀ (i : Nat) (x : Bytes), all2[i]? = some x → Tn[i]? = some x := by
          intro i x hi
          rcases hrel with hr | ⟨_, y, _, hr⟩
          · rw [hr]; exact hi
          · rw [hr, List.getElem?_append_left (List.getElem?_eq_some_iff.1 hi).1]; exact hi
        refine aw_cut ⟨⟨213, [(1, .p (.sl 1 (catY lives))), (2, .p (.sl 1 (ix die))), (3, .p (.sl 1 (kx keep))), (4, .p (.box g.pv)), (10, .ref 0 0), (11, .msl 3 1 0 (catX all2).length), (14, i64 j), (22, .ref 5 0)]⟩, devH C4 ++ [.row t_s_u8 1 (catX all2), .row t_s_u8 1 (catX Tn), .cells t_api_Tail [.msl 4 1 0 (catX Tn).length, i64 n', i64 c', i64 ep]]⟩ True (aw_seq (aw_region hT ?_)) (fun _ => ?_)
        · refine boolI (fun h => ?_) (fun h => ?_)
          · have h := of_decide_eq_true (show decide ((((catX Tn).length : Nat) : Int) < (((catX all2).length : Nat) : Int)) = true from h)
            omega
          refine boolI (fun h => ?_) (fun h => ?_)
          · have h := of_decide_eq_true (show decide ((((catX Tn).length : Nat) : Int) > IntKind.i64.wrap ((((catX all2).length : Nat) : Int) + 1)) = true from h)
            rw [wrap64 _ (by omega) (by omega)] at h
            omega
          refine boolI (fun h => ?_) (fun h => ?_)
          · have hw : whole = true := h
            refine aw_cond (boolI (fun h => ?_) (fun h => ?_))
            · have h : ((((catX Tn).length : Nat) : Int) != (((catX all2).length : Nat) : Int)) = true := h
              rw [bne_iff_ne] at h
              rcases hTl with ht | ⟨ht, _⟩
              · omega
              · rw [hw] at ht; exact absurd ht (by decide)
            · exact aw_skip ⟨wk_pick [0, 1, 2, 3, 4, 5] [1, 2, 3, 4, 10, 11, 14, 22] rfl, trivial⟩
          · refine aw_cond ?_
            exact aw_skip ⟨wk_pick [0, 1, 2, 3, 4, 5] [1, 2, 3, 4, 10, 11, 14, 22] rfl, trivial⟩
        refine aw_cut ⟨⟨213, [(1, .p (.sl 1 (catY lives))), (2, .p (.sl 1 (ix die))), (3, .p (.sl 1 (kx keep))), (4, .p (.box g.pv)), (10, .ref 0 0), (11, .msl 3 1 0 (catX all2).length), (14, i64 j), (22, .ref 5 0)]⟩, devH C4 ++ [.row t_s_u8 1 (catX all2), .row t_s_u8 1 (catX Tn), .cells t_api_Tail [.msl 4 1 0 (catX Tn).length, i64 n', i64 c', i64 ep]]⟩ True (aw_seq (aw_region hT ?_)) (fun _ => ?_)
        · refine aw_block ?_
          refine aw_loopW (fun n st => ∃ (i : Nat) (m : Int), n + i = all2.length ∧ m = i ∧ st = ⟨⟨213, [(1, .p (.sl 1 (catY lives))), (2, .p (.sl 1 (ix die))), (3, .p (.sl 1 (kx keep))), (4, .p (.box g.pv)), (10, .ref 0 0), (11, .msl 3 1 0 (catX all2).length), (14, i64 j), (22, .ref 5 0), (24, i64 m)]⟩, devH C4 ++ [.row t_s_u8 1 (catX all2), .row t_s_u8 1 (catX Tn), .cells t_api_Tail [.msl 4 1 0 (catX Tn).length, i64 n', i64 c', i64 ep]]⟩) all2.length ⟨⟨213, _⟩, _⟩ (wk_pick [0, 1, 2, 3, 4, 5] [1, 2, 3, 4, 10, 11, 14, 22, 24] rfl) ⟨0, 0, rfl, rfl, rfl⟩ ?_
          rintro n2 st ⟨i, m, hni, hm, rfl⟩
          refine aw_seq (aw_seq (aw_region hT ?_))
          refine aw_cond (boolI (fun h => ?_) (fun h => ?_))
          · have h := of_decide_eq_true (show decide (m < (((catX all2).length : Nat) : Int)) = true from h)
            refine aw_skip ?_
            have hy := List.getElem?_eq_getElem (show i < all2.length by omega)
            generalize all2[i] = y at hy
            have hyT := hpre i y hy
            have hyb := sn3 y (List.mem_of_getElem? hyT)
            have hyp : (catX all2)[0 + m.toNat]? = some [bP y] := by rw [hm, Int.toNat_natCast, Nat.zero_add]; exact catX_get hy
            have hyq : (catX Tn)[0 + m.toNat]? = some [bP y] := by rw [hm, Int.toNat_natCast, Nat.zero_add]; exact catX_get hyT
            have ws := ref04_Same y y hyb
            rw [beq_self_eq_true] at ws
            refine aw_cut ⟨⟨213, [(1, .p (.sl 1 (catY lives))), (2, .p (.sl 1 (ix die))), (3, .p (.sl 1 (kx keep))), (4, .p (.box g.pv)), (10, .ref 0 0), (11, .msl 3 1 0 (catX all2).length), (14, i64 j), (22, .ref 5 0), (24, i64 m)]⟩, devH C4 ++ [.row t_s_u8 1 (catX all2), .row t_s_u8 1 (catX Tn), .cells t_api_Tail [.msl 4 1 0 (catX Tn).length, i64 n', i64 c', i64 ep]]⟩ True (aw_block ?_) (fun _ => ?_)
            · refine aw_seq ?_
              refine aw_draw [] [] hT follows_mixed (by rfl) ?_
              refine ⟨⟨by omega, by omega⟩, ?_⟩
              refine optI hyq ?_
              refine ⟨⟨by omega, by omega⟩, ?_⟩
              refine optI hyp ?_
              refine ⟨_, af_at ws _ rfl rfl, ?_⟩
              refine aw_seq (aw_region hT ?_)
              refine aw_cond ?_
              exact aw_skip ⟨wk_pick [0, 1, 2, 3, 4, 5] [1, 2, 3, 4, 10, 11, 14, 22, 24] rfl, trivial⟩
            · refine aw_region hT ?_
              exact ⟨n2 - 1, by omega, _, wk_pick [0, 1, 2, 3, 4, 5] [1, 2, 3, 4, 10, 11, 14, 22, 24] rfl, i + 1, IntKind.i64.wrap (m + 1), by omega, by rw [wrap64 _ (by omega) (by omega)]; omega, rfl⟩
          · refine aw_exit ?_
            exact ⟨wk_pick [0, 1, 2, 3, 4, 5] [1, 2, 3, 4, 10, 11, 14, 22] rfl, trivial⟩
        refine aw_cut ⟨⟨213, [(1, .p (.sl 1 (catY lives))), (2, .p (.sl 1 (ix die))), (3, .p (.sl 1 (kx keep))), (4, .p (.box g.pv)), (10, .ref 0 0), (11, .msl 3 1 0 (catX all2).length), (14, i64 j), (22, .ref 5 0)]⟩, devH C4 ++ [.row t_s_u8 1 (catX all2), .row t_s_u8 1 (catX Tn), .cells t_api_Tail [.msl 4 1 0 (catX Tn).length, i64 n', i64 c', i64 ep]]⟩ True (aw_seq (aw_region hT ?_)) (fun _ => ?_)
        · refine aw_cond (boolI (fun h => ?_) (fun h => ?_))
          · have h := of_decide_eq_true (show decide ((((catX Tn).length : Nat) : Int) > (((catX all2).length : Nat) : Int)) = true from h)
            obtain ⟨x, hxl, hr⟩ : ∃ x, x ∈ life ∧ Tn = all2 ++ [x] := by
              rcases hrel with hr | ⟨_, x, h1, h2⟩
              · rw [hr] at h; omega
              · exact ⟨x, h1, h2⟩
            have hTx : Tn[all2.length]? = some x := by rw [hr, List.getElem?_append_right (Nat.le_refl _), Nat.sub_self]; rfl
            have hxb := sn3 x (List.mem_of_getElem? hTx)
            have hxq : (catX Tn)[0 + ((((catX all2).length : Nat) : Int)).toNat]? = some [bP x] := by rw [hca, Int.toNat_natCast, Nat.zero_add]; exact catX_get hTx
            have hlc := catX_len life
            obtain ⟨way, hway⟩ : ∃ way, way = life.any (fun y => x == y) := ⟨_, rfl⟩
            have hway2 : way = true := by rw [hway, List.any_eq_true]; exact ⟨x, hxl, by simp⟩
            refine aw_seq (aw_region hT ?_)
            refine aw_cut ⟨⟨213, [(1, .p (.sl 1 (catY lives))), (2, .p (.sl 1 (ix die))), (3, .p (.sl 1 (kx keep))), (4, .p (.box g.pv)), (10, .ref 0 0), (11, .msl 3 1 0 (catX all2).length), (14, i64 j), (22, .ref 5 0), (26, bl way)]⟩, devH C4 ++ [.row t_s_u8 1 (catX all2), .row t_s_u8 1 (catX Tn), .cells t_api_Tail [.msl 4 1 0 (catX Tn).length, i64 n', i64 c', i64 ep]]⟩ True (aw_seq (aw_region hT ?_)) (fun _ => ?_)
            · refine aw_block ?_
              refine aw_loopW (fun n st => ∃ (i : Nat) (m : Int) (c : Bool), n + i = life.length ∧ m = i ∧ c = (life.take i).any (fun y => x == y) ∧ st = ⟨⟨213, [(1, .p (.sl 1 (catY lives))), (2, .p (.sl 1 (ix die))), (3, .p (.sl 1 (kx keep))), (4, .p (.box g.pv)), (10, .ref 0 0), (11, .msl 3 1 0 (catX all2).length), (14, i64 j), (22, .ref 5 0), (26, bl c), (27, i64 m)]⟩, devH C4 ++ [.row t_s_u8 1 (catX all2), .row t_s_u8 1 (catX Tn), .cells t_api_Tail [.msl 4 1 0 (catX Tn).length, i64 n', i64 c', i64 ep]]⟩) life.length ⟨⟨213, _⟩, _⟩ (wk_pick [0, 1, 2, 3, 4, 5] [1, 2, 3, 4, 10, 11, 14, 22, 26, 27] rfl) ⟨0, 0, false, rfl, rfl, rfl, rfl⟩ ?_
              rintro n2 st ⟨i, m, c, hni, hm, hc, rfl⟩
              refine aw_seq (aw_seq (aw_region hT ?_))
              refine ⟨by omega, optI hxp ?_⟩
              refine aw_cond (boolI (fun h => ?_) (fun h => ?_))
              · have h := of_decide_eq_true (show decide (m < (((catX life).length : Nat) : Int)) = true from h)
                refine aw_skip ?_
                have hy := List.getElem?_eq_getElem (show i < life.length by omega)
                generalize life[i] = y at hy
                have hyp : (catX life)[m.toNat]? = some [bP y] := by rw [hm, Int.toNat_natCast]; exact catX_get hy
                have ws := ref04_Same x y hxb
                have hstep : (life.take (i + 1)).any (fun y => x == y) = (c || (x == y)) := by rw [hc, List.take_add_one, hy, List.any_append]; simp
                obtain ⟨e, he⟩ : ∃ e, e = (x == y) := ⟨_, rfl⟩
                rw [← he] at ws hstep
                refine aw_cut ⟨⟨213, [(1, .p (.sl 1 (catY lives))), (2, .p (.sl 1 (ix die))), (3, .p (.sl 1 (kx keep))), (4, .p (.box g.pv)), (10, .ref 0 0), (11, .msl 3 1 0 (catX all2).length), (14, i64 j), (22, .ref 5 0), (26, bl (c || e)), (27, i64 m)]⟩, devH C4 ++ [.row t_s_u8 1 (catX all2), .row t_s_u8 1 (catX Tn), .cells t_api_Tail [.msl 4 1 0 (catX Tn).length, i64 n', i64 c', i64 ep]]⟩ True (aw_block ?_) (fun _ => ?_)
                · refine aw_cut ⟨⟨213, [(1, .p (.sl 1 (catY lives))), (2, .p (.sl 1 (ix die))), (3, .p (.sl 1 (kx keep))), (4, .p (.box g.pv)), (10, .ref 0 0), (11, .msl 3 1 0 (catX all2).length), (14, i64 j), (22, .ref 5 0), (26, bl c), (27, i64 m), (28, bl e)]⟩, devH C4 ++ [.row t_s_u8 1 (catX all2), .row t_s_u8 1 (catX Tn), .cells t_api_Tail [.msl 4 1 0 (catX Tn).length, i64 n', i64 c', i64 ep]]⟩ True ?_ (fun _ => ?_)
                  · refine aw_draw [] [] hT follows_mixed (by rfl) ?_
                    refine ⟨⟨by omega, by omega⟩, ?_⟩
                    refine optI hxq ?_
                    refine ⟨by omega, optI hxp ?_⟩
                    refine ⟨by omega, optI hyp ?_⟩
                    refine ⟨_, af_at ws _ rfl rfl, ?_⟩
                    exact ⟨wk_pick [0, 1, 2, 3, 4, 5] [1, 2, 3, 4, 10, 11, 14, 22, 26, 27, 28] rfl, trivial⟩
                  refine aw_region hT ?_
                  refine boolI (fun h => ?_) (fun h => ?_)
                  · have h : c = true := h
                    rw [h]
                    exact ⟨wk_pick [0, 1, 2, 3, 4, 5] [1, 2, 3, 4, 10, 11, 14, 22, 26, 27] rfl, trivial⟩
                  · have h : c = false := h
                    rw [h]
                    exact ⟨wk_pick [0, 1, 2, 3, 4, 5] [1, 2, 3, 4, 10, 11, 14, 22, 26, 27] rfl, trivial⟩
                · refine aw_region hT ?_
                  exact ⟨n2 - 1, by omega, _, wk_pick [0, 1, 2, 3, 4, 5] [1, 2, 3, 4, 10, 11, 14, 22, 26, 27] rfl, i + 1, IntKind.i64.wrap (m + 1), c || e, by omega, by rw [wrap64 _ (by omega) (by omega)]; omega, hstep.symm, rfl⟩
              · have h := of_decide_eq_false (show decide (m < (((catX life).length : Nat) : Int)) = false from h)
                rw [List.take_of_length_le (by omega)] at hc
                rw [hway, ← hc]
                refine aw_exit ?_
                exact ⟨wk_pick [0, 1, 2, 3, 4, 5] [1, 2, 3, 4, 10, 11, 14, 22, 26] rfl, trivial⟩
            rw [hway2]
            refine aw_seq (aw_region hT ?_)
            refine aw_cond ?_
            exact aw_skip ⟨wk_pick [0, 1, 2, 3, 4, 5] [1, 2, 3, 4, 10, 11, 14, 22] rfl, trivial⟩
          · exact aw_skip ⟨wk_pick [0, 1, 2, 3, 4, 5] [1, 2, 3, 4, 10, 11, 14, 22] rfl, trivial⟩
        refine aw_seq (aw_region hT ?_)
        refine aw_seq (aw_region hT ?_)
        refine aw_region hT ?_
        exact ⟨_, wk_pick [0, 1, 2, 4] [1, 2, 3, 4, 10, 11, 12, 13, 14] rfl, C4, SP', cL, rfl⟩
      · rintro _ ⟨D2, SP2, cP2, rfl⟩
        refine aw_region hT ?_
        exact ⟨n - 1, by omega, _, wk_pick [0, 1, 2, 3] [1, 2, 3, 4, 10, 11, 12, 13, 14] rfl, k + 1, IntKind.i64.wrap (j + 1), D2, A', B', Q', T', by omega, by rw [hje]; omega, SP2, cP2, rfl⟩
    · refine aw_exit ?_
      exact ⟨wk_pick [] [] rfl, trivial⟩
  refine aw_seq (aw_region hT ?_)
  refine aw_ret ?_
  exact retPick [] ⟨true, rfl, rfl, rfl⟩ rfl
end Go.Proofs.YtinfbclgkghgaaaGreat.AL

/- What a fault and lists of numbers, of booleans and of lists of bytes read as (seat rd). -/
namespace Go.Proofs.YtinfbclgkghgaaaGreat.AL
open Go Go.RowKit Go.ChangeShapes Go.WideShapes Go.ChangeAt Go.Deep Go.Proofs
theorem rep_u8 {W : World} {I : Nat → Prop} {ι : Nat → Option Nat} (b : UInt8) : ARep W I ι (.p (u8 b)) (.int .u8 (b.toNat : Int)) := .p (.raw _ rfl)
section
variable {H : Type} {enc : TypeId × Value → H} {W : World} {spare : Nat → Bool} {held : Bool}
instance : Inhabited Flt := ⟨⟨0, 0, 0, 0, 0, 0, 0, 0, 0⟩⟩
def Flt.vals (f : Flt) : List Value := [.int .i64 f.kind, .int .i64 f.at_, .int .i64 f.off, .int .i64 f.n, .int .i64 f.to, .int .u8 (f.m0.toNat : Int), .int .u8 (f.m1.toNat : Int), .int .u8 (f.m2.toNat : Int), .int .u8 (f.m3.toNat : Int)]

theorem c4 : Tryz.prog.cellsOf 4 = 1 := by kernel_rfl
theorem c37 : Tryz.prog.cellsOf 37 = 1 := by kernel_rfl
theorem c43 : Tryz.prog.cellsOf 43 = 4 := by kernel_rfl
theorem c45 : Tryz.prog.cellsOf 45 = 9 := by kernel_rfl
set_option maxRecDepth 20000 in
theorem flt_cells (n : Nat) (cs : List Value) (x : DataW H × List MemPlace) (h : DataW.trod enc Tryz.prog W 0 spare held n 45 cs = some x) : ∃ f : Flt, cs = f.vals := by
  obtain ⟨xs, m, _, rfl, hl, hlen, hf⟩ := DataW.trod_struct Tryz.underlying45 h
  rw [c45] at hl
  have h0 := hf 0 _ rfl
  have h1 := hf 1 _ rfl
  have h2 := hf 2 _ rfl
  have h3 := hf 3 _ rfl
  have h4 := hf 4 _ rfl
  have h5 := hf 5 _ rfl
  match xs, hlen with
  | [y0, y1, y2, y3, y4, y5], _ =>
    match cs, hl with
    | [v0, v1, v2, v3, v4, v5, v6, v7, v8], _ =>
      simp [c3, c43] at h0 h1 h2 h3 h4 h5
      obtain ⟨a0, e0, _⟩ := DataW.trod_int Tryz.underlying3 h0
      obtain ⟨a1, e1, _⟩ := DataW.trod_int Tryz.underlying3 h1
      obtain ⟨a2, e2, _⟩ := DataW.trod_int Tryz.underlying3 h2
      obtain ⟨a3, e3, _⟩ := DataW.trod_int Tryz.underlying3 h3
      obtain ⟨a4, e4, _⟩ := DataW.trod_int Tryz.underlying3 h4
      obtain ⟨z0, z1, z2, z3, k, _, g0, g1, g2, g3⟩ := trod_array4 Tryz.underlying43 c5 h5
      obtain ⟨b0, f0, _, w0⟩ := DataW.trod_int Tryz.underlying5 g0
      obtain ⟨b1, f1, _, w1⟩ := DataW.trod_int Tryz.underlying5 g1
      obtain ⟨b2, f2, _, w2⟩ := DataW.trod_int Tryz.underlying5 g2
      obtain ⟨b3, f3, _, w3⟩ := DataW.trod_int Tryz.underlying5 g3
      obtain ⟨m0, rfl⟩ := u8_of w0
      obtain ⟨m1, rfl⟩ := u8_of w1
      obtain ⟨m2, rfl⟩ := u8_of w2
      obtain ⟨m3, rfl⟩ := u8_of w3
      simp at e0 e1 e2 e3 e4 f0 f1 f2 f3
      exact ⟨⟨a0, a1, a2, a3, a4, m0, m1, m2, m3⟩, by rw [e0, e1, e2, e3, e4, f0, f1, f2, f3]; rfl⟩

set_option maxRecDepth 20000 in
theorem flt_rep {v : Value} {d : DataW H} {ps : List MemPlace} {r : Reach} {b0 : Nat} {ι : Nat → Option Nat}
    (hval : Value.okWide Tryz.prog W r b0 45 v) (h : DataW.Trod enc Tryz.prog W 0 spare held 45 v d ps) : ∃ f : Flt, ARep W (· < W.heap.size) ι f.av v := by
  obtain ⟨cs, rfl, hsz⟩ := okWide_struct Tryz.underlying45 hval
  obtain ⟨n, hn⟩ := h
  obtain ⟨f, hcs⟩ := flt_cells n _ _ hn
  have : cs = f.vals.toArray := by
    cases cs; simpa [Value.cells] using hcs
  subst this
  refine ⟨f, .agg _ _ rfl fun i u hu => ?_⟩
  match i, hu with
  | 0, hu => cases hu; exact rep_int _
  | 1, hu => cases hu; exact rep_int _
  | 2, hu => cases hu; exact rep_int _
  | 3, hu => cases hu; exact rep_int _
  | 4, hu => cases hu; exact rep_int _
  | 5, hu => cases hu; exact rep_u8 _
  | 6, hu => cases hu; exact rep_u8 _
  | 7, hu => cases hu; exact rep_u8 _
  | 8, hu => cases hu; exact rep_u8 _
  | i + 9, hu => cases hu
set_option maxRecDepth 20000 in
theorem bools_rep {v : Value} {d : DataW H} {ps : List MemPlace} {r : Reach} {b0 : Nat} {ι : Nat → Option Nat}
    (hval : Value.okWide Tryz.prog W r b0 42 v) (h : DataW.Trod enc Tryz.prog W 0 spare held 42 v d ps) : ∃ l : List Bool, ARep W (· < W.heap.size) ι (.p (.sl 1 (kx l))) v :=
  rep_slice Tryz.underlying42 hval h (fun b : Bool => [PV.raw (.bool b)]) 1 c4 (by decide) fun n cs x hx => by
    obtain ⟨q, hq, _⟩ := DataW.trod_bool Tryz.underlying4 hx
    refine ⟨q, rfl, fun i u hu v hv => ?_⟩
    rw [hq] at hv
    match i, hu, hv with
    | 0, hu, hv => simp at hu hv; subst hu; subst hv; exact raw_bool _
    | i + 1, hu, hv => simp at hu

set_option maxRecDepth 20000 in
theorem ints_rep {v : Value} {d : DataW H} {ps : List MemPlace} {r : Reach} {b0 : Nat} {ι : Nat → Option Nat}
    (hval : Value.okWide Tryz.prog W r b0 53 v) (h : DataW.Trod enc Tryz.prog W 0 spare held 53 v d ps) : ∃ l : List Int, ARep W (· < W.heap.size) ι (.p (.sl 1 (ix l))) v :=
  rep_slice Tryz.underlying53 hval h (fun n : Int => [PV.raw (.int .i64 n)]) 1 c3 (by decide) fun n cs x hx => by
    obtain ⟨q, hq, _⟩ := DataW.trod_int Tryz.underlying3 hx
    refine ⟨q, rfl, fun i u hu v hv => ?_⟩
    rw [hq] at hv
    match i, hu, hv with
    | 0, hu, hv => simp at hu hv; subst hu; subst hv; exact raw_int _ _
    | i + 1, hu, hv => simp at hu
set_option maxRecDepth 20000 in
theorem lists2_rep {v : Value} {d : DataW H} {ps : List MemPlace} {r : Reach} {b0 : Nat} {ι : Nat → Option Nat}
    (hval : Value.okWide Tryz.prog W r b0 91 v) (h : DataW.Trod enc Tryz.prog W 0 spare held 91 v d ps) : ∃ l : List (List Bytes), ARep W (· < W.heap.size) ι (.p (.sl 1 (catY l))) v :=
  rep_slice Tryz.underlying91 hval h (fun b : List Bytes => [.sl 1 (catX b)]) 1 c37 (by decide) fun n cs x hx => by
    obtain ⟨l, v, hv, hp⟩ := rep_sliceT Tryz.underlying37 hx (fun b : Bytes => [bP b]) 1 c24 (by decide) list_el
    refine ⟨l, rfl, fun i u hu w hw => ?_⟩
    rw [hv] at hw
    match i, hu, hw with
    | 0, hu, hw => simp at hu hw; subst hu; subst hw; exact hp
    | i + 1, hu, hw => simp at hu
end
end Go.Proofs.YtinfbclgkghgaaaGreat.AL

/- The facts on the whole program (seat rd) that each row of the seat asks for. -/
namespace Go.Proofs.YtinfbclgkghgaaaGreat.AL
open Go Go.Proofs Go.Proofs.YtinfbclgkghgaaaGreat
theorem rdK2 : (mapsRowed Tryz.prog) = true := by kernel_rfl
theorem rdK6 : ((Tryz.prog.stops == [])) = true := by kernel_rfl
theorem rdK8 : ((Tryz.prog.stopKnobs == [])) = true := by kernel_rfl
theorem rdK22 : ((Rows.ringTellsRow.plainKeys == Tryz.prog.plainKeys)) = true := by kernel_rfl
theorem rdK24 : (Tryz.prog.stopsHeard) = true := by kernel_rfl
theorem rdK25 : (Tryz.prog.mayEnter) = true := by kernel_rfl
theorem rdK26 : ((Rows.ringTellsRow.lifted == Tryz.prog.liftsFinal)) = true := by kernel_rfl
theorem rdK27 : ((Tryz.prog.make == some Rows.ringTellsRow.make)) = true := by kernel_rfl
end Go.Proofs.YtinfbclgkghgaaaGreat.AL

/- The law RingBoth: where both sectors of a slot that is needed are damaged it is told so. -/
namespace Go.Proofs.YtinfbclgkghgaaaGreat.AL
open Go Go.Proofs

set_option maxHeartbeats 8000000 in
set_option maxRecDepth 20000 in
theorem ring_both (g : GeoV) (l : List Bytes) (which : Int) : AF Tryz.prog f_law11_RingBoth [g.av, .p (.sl 1 (catX l)), i64 which] [] (Pure (bl true) []) := by
  refine AF.mono (R := fun r H' => ∃ z, z = true ∧ r = bl z ∧ H' = []) ?_ (by rintro r H' ⟨b, rfl, rfl, rfl⟩; exact ⟨rfl, rfl⟩)
  have wsm := law11_small l
  generalize hsm : fewB 12 1500 l = sm at wsm
  refine af_body hT F_law11_RingBoth rfl rfl N_law11_RingBoth rfl ?_
  refine aw_cut ⟨⟨88, [(1, .p (.sl 1 (catX l))), (2, i64 which), (3, .p (.box g.pv))]⟩, []⟩ True (aw_region hT ?_) (fun _ => ?_)
  · exact ⟨Wk.trans (wk_boxL 0 g.pv rfl rfl) (wk_pick [] [1, 2, 3] rfl), trivial⟩
  refine aw_seq (aw_region hT ?_)
  refine callP (af_at law11_awake _ rfl rfl) ?_
  refine aw_seq (aw_region hT ?_)
  refine callP (af_at wsm _ rfl rfl) ?_
  cases hb : blankOk 7 g with
  | false =>
    refine aw_seq (aw_region hT ?_)
    refine callP (af_at (law11_Blank_no 7 g hb) _ rfl rfl) ?_
    cases sm with
    | false =>
      refine aw_seq (aw_seq (aw_region hT ?_))
      refine aw_cond ?_
      refine aw_seq (aw_region hT ?_)
      refine aw_ret ?_
      exact retPick [] ⟨true, rfl, rfl, rfl⟩ rfl
    | true =>
      refine aw_seq (aw_seq (aw_region hT ?_))
      refine aw_cond ?_
      refine aw_seq (aw_region hT ?_)
      refine aw_ret ?_
      exact retPick [] ⟨true, rfl, rfl, rfl⟩ rfl
  | true =>
  cases sm with
  | false =>
    refine aw_seq (aw_region hT ?_)
    refine callP (law11_Blank 7 g hb) ?_
    refine aw_seq (aw_seq (aw_region hT ?_))
    refine aw_cond ?_
    refine aw_seq (aw_region hT ?_)
    refine aw_ret ?_
    exact retPick [] ⟨true, rfl, rfl, rfl⟩ rfl
  | true =>
  refine aw_seq (aw_region hT ?_)
  refine callP (law11_Blank 7 g hb) ?_
  generalize hD0 : blankD 7 g = D0
  refine aw_cut ⟨⟨88, [(1, .p (.sl 1 (catX l))), (2, i64 which), (3, .p (.box g.pv)), (9, .ref 0 0)]⟩, devH D0⟩ (0 ≤ which) (aw_seq (aw_region hT ?_)) ?_
  · refine aw_cond (boolI (fun h => ?_) (fun h => ?_))
    · refine aw_seq (aw_region hT ?_)
      refine aw_ret ?_
      exact retPick [] ⟨true, rfl, rfl, rfl⟩ rfl
    · have h := of_decide_eq_false (show decide (which < 0) = false from h)
      exact aw_skip ⟨wk_pick [0, 1, 2] [1, 2, 3, 9] rfl, by omega⟩
  intro s0
  obtain ⟨hg, hw16⟩ := blankOk_may hb
  obtain ⟨g1, g2, _⟩ := g.of_may hg
  obtain ⟨hl12, hlb⟩ := small_all hsm
  obtain ⟨_, hq2, _⟩ := secs_le hg
  have hok : newOk 7 g 3 0 0 0 = true := by
    unfold newOk
    simp only [List.all_cons, List.all_nil, Bool.and_true]
    rw [hg, decide_eq_false (show ¬ (0 : Int) - 0 > g.w by omega)]
    rfl
  have L0 := logP_new hok
  rw [hD0] at L0
  have wN := ring_New D0 7 g 3 0 0 0 hok
  obtain ⟨R1, D1, b1, Q, e1, L1, hQ, i1, i2, i3, i4, i5⟩ := aps_P l [] _ D0 g.secs [] L0 (fun s hs => by simp at hs) rfl rfl
  have wA := law11_appended _ D0 l g.secs L0.ok L0.clean.ok (by omega) (fun s hs => by have := hlb s hs; omega) (by omega)
  rw [e1] at wA
  have i1 : R1.g = g := i1
  have i2 : R1.vol = 7 := i2
  have hbl := L1.len
  rw [i1] at hbl
  have hnx := L1.next
  have i5 : b1 + 2 * 0 = g.secs + 2 * Q.flatten.length := i5
  have wn := Ring_Next5 R1 D1
  rw [hnx, Int.zero_add] at wn
  have hboth := fun (w : Nat) (hw : w < Q.flatten.length) => both_P L1 (by decide) hw
  have hdok := L1.clean.ok
  generalize Q.map catB = T at wA
  generalize Q.flatten.length = N at wn hboth hbl i5
  clear L0 e1 L1 hQ hnx
  generalize newR 7 g 3 0 0 0 = R0 at wN wA
  refine aw_cut ⟨⟨88, [(1, .p (.sl 1 (catX l))), (2, i64 which), (3, .p (.box g.pv)), (9, .ref 0 0), (10, .ref 2 0)]⟩, rgH R0 D0⟩ True (aw_region hT ?_) (fun _ => ?_)
  · refine callP (af_in [0, 1, 2] wN rfl rfl rfl) ?_
    exact ⟨wk_pick [0, 3, 4, 5, 6] [1, 2, 3, 9, 10] rfl, trivial⟩
  refine aw_cut ⟨⟨88, [(2, i64 which), (3, .p (.box g.pv)), (9, .ref 0 0), (10, .ref 2 0)]⟩, rgH R1 D1⟩ True (aw_region hT ?_) (fun _ => ?_)
  · refine callP (af_in [0, 1, 2, 3, 4] wA rfl rfl rfl) ?_
    exact ⟨wk_pick [0, 1, 2, 5, 6] [2, 3, 9, 10] rfl, trivial⟩
  refine aw_cut ⟨⟨88, [(2, i64 which), (3, .p (.box g.pv)), (9, .ref 0 0), (10, .ref 2 0)]⟩, rgH R1 D1⟩ (which < N) (aw_seq (aw_region hT ?_)) (fun hwN => ?_)
  · refine callP (af_in [0, 1, 2, 3, 4] wn rfl rfl rfl) ?_
    refine aw_cond (boolI (fun h => ?_) (fun h => ?_))
    · refine aw_seq (aw_region hT ?_)
      refine aw_ret ?_
      exact retPick [] ⟨true, rfl, rfl, rfl⟩ rfl
    · have h := of_decide_eq_false (show decide (which ≥ (N : Int)) = false from h)
      exact aw_skip ⟨wk_pick [0, 1, 2, 3, 4] [2, 3, 9, 10] rfl, by omega⟩
  obtain ⟨E, F, f1, f2, f3, f4, hF⟩ := hboth which.toNat (by omega)
  rw [show ((which.toNat : Nat) : Int) = which by omega] at f1 f2
  rw [i1] at f2 f3 f4 hF
  rw [i2] at hF
  have v1 : IntKind.i64.wrap (4 + which) = 4 + which := wrap64 _ (by omega) (by omega)
  have v2 : IntKind.i64.wrap (IntKind.i64.wrap (4 + g.w) + which) = 4 + g.w + which := by rw [wrap64 (4 + g.w) (by omega) (by omega), wrap64 _ (by omega) (by omega)]
  have w1 := disk_Fault D1 (loseA (4 + which)) b1 hdok (by omega)
  rw [f1] at w1
  have w2 := disk_Fault E (blankA (4 + g.w + which)) (b1 + 1) f3.ok (by omega)
  rw [f2] at w2
  have w1 : AFm Tryz.prog 3 f_disk_Disk_Fault [.ref 0 0, .agg [i64 3, i64 (4 + which), i64 0, i64 0, i64 0, .p (u8 0), .p (u8 0), .p (u8 0), .p (u8 0)]] (devH D1) (Pure (i64 0) (devH E)) := w1
  have w2 : AFm Tryz.prog 3 f_disk_Disk_Fault [.ref 0 0, .agg [i64 2, i64 (4 + g.w + which), i64 0, i64 0, i64 0, .p (u8 0), .p (u8 0), .p (u8 0), .p (u8 0)]] (devH E) (Pure (i64 0) (devH F)) := w2
  rw [← v1] at w1
  rw [← v2] at w2
  have wL := ring_Load F g (b1 + 2) f4.ok (by omega) hg
  have hl0 := rdK_bytes f4.ok (atM g 0) g.w.toNat
  have hl1 := rdK_bytes (rdK_ok f4.ok (atM g 0) g.w.toNat) (atM g 1) g.w.toNat
  have hl0 : ∀ s ∈ (load0 F g).1, s.length ≤ 256 := hl0
  have hl1 : ∀ s ∈ (load1 F g).1, s.length ≤ 256 := hl1
  generalize (load0 F g).1 = a at wL hF hl0
  generalize (load1 F g).2 = E4 at wL
  generalize (load1 F g).1 = b at wL hF hl1
  have wF := ring_Follow a b 7 g 0 0 (fun s hs => Nat.le_trans (hl0 s hs) (by omega)) (fun s hs => Nat.le_trans (hl1 s hs) (by omega))
  rw [hF] at wF
  refine aw_cut ⟨⟨88, [(2, i64 which), (3, .p (.box g.pv)), (9, .ref 0 0)]⟩, rgH R1 E⟩ True (aw_region hT ?_) (fun _ => ?_)
  · refine callP (af_in [0, 3, 4] w1 rfl rfl rfl) ?_
    exact ⟨wk_pick [0, 1, 2, 3, 4] [2, 3, 9] rfl, trivial⟩
  refine aw_cut ⟨⟨88, [(3, .p (.box g.pv)), (9, .ref 0 0)]⟩, rgH R1 F⟩ True (aw_region hT ?_) (fun _ => ?_)
  · refine callP (af_in [0, 3, 4] w2 rfl rfl rfl) ?_
    exact ⟨wk_pick [0, 1, 2, 3, 4] [3, 9] rfl, trivial⟩
  refine aw_cut ⟨⟨88, [(3, .p (.box g.pv)), (12, .p (.sl 1 (catX a))), (13, .p (.sl 1 (catX b)))]⟩, []⟩ True (aw_region hT ?_) (fun _ => ?_)
  · refine callP (af_in [0, 3, 4] wL rfl rfl rfl) ?_
    exact ⟨wk_pick [] [3, 12, 13] rfl, trivial⟩
  have wF : AF Tryz.prog f_ring_Follow [.p (.sl 1 (catX a)), .p (.sl 1 (catX b)), i64 7, g.av, i64 0, i64 0] [] (Pure (.tup [.agg [.p (.sl 1 []), i64 0, i64 0, i64 0], i64 22]) []) := wF
  refine aw_seq (aw_region hT ?_)
  refine callP (af_at wF _ rfl rfl) ?_
  refine aw_seq (aw_region hT ?_)
  refine aw_ret ?_
  exact retPick [] ⟨true, rfl, rfl, rfl⟩ rfl
end Go.Proofs.YtinfbclgkghgaaaGreat.AL
