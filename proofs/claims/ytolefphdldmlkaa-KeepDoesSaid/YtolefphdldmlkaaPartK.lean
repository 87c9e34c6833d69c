/- A part of the proof. -/
import Derived.Test.YtolefphdldmlkaaPartJ
import Derived.Test.YtolefphdldmlkaaPartE
import Derived.WalkKit
import Derived.ProofKit
import Derived.OpenShut
import Derived.ChangeOld
import Derived.Below
import Derived.SizedLaws
import Derived.Deep.Slices
import Derived.Lib.SmallJoins
import Derived.Test.YtolefphdldmlkaaPartG
import Derived.Laws.IdiomArrays
/- The law KeepMends: a device of which no write goes wrong. -/
namespace Go.Proofs.Ytolefphdldmlkaa.AL
open Go Go.Proofs

structure Clean (D : Dev) (b : Nat) : Prop where
  ok : D.Ok b
  dead : D.dead = false
  armed : D.armed = false
  waits : D.waits = []
  len : D.cells.length = 8
  well : ∀ c ∈ D.cells, c.drop = 0 ∧ c.miss = []

theorem clean_new : Clean (Dev.new 8) 0 := ⟨ok_new 8 0, rfl, rfl, rfl, List.length_replicate, fun c hc => by rw [List.eq_of_mem_replicate hc]; exact ⟨rfl, rfl⟩⟩
theorem Clean.mono {D : Dev} {b b' : Nat} (h : Clean D b) (hb : b ≤ b') : Clean D b' := ⟨h.ok.mono hb, h.dead, h.armed, h.waits, h.len, h.well⟩
theorem Clean.crashed {D : Dev} {b : Nat} (h : Clean D b) : Clean (D.crashed []) b ∧ (D.crashed []).cells = D.cells := by
  have e : (D.crashed []).cells = D.cells := by
    show crashC D.waits [] D.waits.length D.cells = D.cells
    rw [h.waits]; rfl
  exact ⟨⟨h.ok.crashed [], rfl, rfl, rfl, by rw [e]; exact h.len, by rw [e]; exact h.well⟩, e⟩

/-- Is a sector as it should be? -/
def isGood (D : Dev) (T : Nat → Bytes) (k : Nat) : Bool := match D.cells[k]? with
  | some c => !c.lost && (c.s == T k)
  | none => false

theorem clean_read {D : Dev} {b : Nat} (h : Clean D b) {k : Nat} (hk : k ≤ 7) (T : Nat → Bytes) : ∃ s e, D.read k = ((s, e), D.count) ∧ Clean D.count b ∧ ((e == 0) && (s == T k)) = isGood D T k ∧ (e = 0 ∨ e = 20) := by
  obtain ⟨c, hc⟩ : ∃ c, D.cells[k]? = some c := ⟨_, List.getElem?_eq_getElem (by rw [h.len]; omega)⟩
  have hh : D.has k = true := has8 h.len (by omega) (by omega)
  have hr : D.readAt k = match c.lost with | true => (20, []) | false => (0, c.s) := by
    rw [readAt_eq]; unfold readIn
    rw [h.waits, Int.toNat_natCast, hc]; rfl
  have e : D.read k = (((D.readAt k).2, (D.readAt k).1), D.count) := by unfold Dev.read; rw [h.dead, hh]
  have cl : Clean D.count b := ⟨h.ok.count, h.dead, h.armed, h.waits, h.len, h.well⟩
  rw [e, hr]
  unfold isGood
  rw [hc]
  cases hl : c.lost with
  | true => exact ⟨[], 20, rfl, cl, by show false = (!c.lost && _); rw [hl]; rfl, .inr rfl⟩
  | false => exact ⟨c.s, 0, rfl, cl, by show (true && (c.s == T k)) = (!c.lost && (c.s == T k)); rw [hl]; rfl, .inl rfl⟩

theorem clean_once {D : Dev} {b : Nat} (h : Clean D b) {k : Nat} (hk : k ≤ 7) {s : Bytes} (hs : s.length = 256) :
    ∃ E, D.once k s = ((true, 0), E) ∧ Clean E (b + 1) ∧ E.cells = D.cells.set k ⟨s, false, 0, []⟩ := by
  obtain ⟨c, hc⟩ : ∃ c, D.cells[k]? = some c := ⟨_, List.getElem?_eq_getElem (by rw [h.len]; omega)⟩
  have hlt := (List.getElem?_eq_some_iff.1 hc).1
  obtain ⟨cd, cm⟩ := h.well c (List.mem_of_getElem? hc)
  have hh : D.has k = true := has8 h.len (by omega) (by omega)
  have hl : D.lives.dead = false := lives_dead h.dead h.armed
  have ok := (h.ok.write k s).flush
  have hput : D.lives.count.put k s = { D.lives.count with waits := [⟨k, s⟩] } := by
    unfold Dev.put
    rw [Int.toNat_natCast, show D.lives.count.cells[k]? = some c from hc]
    simp only
    rw [cd, cm]
    show { D.lives.count with waits := D.waits ++ [(⟨k, s⟩ : Wr)] } = _
    rw [h.waits]; rfl
  have e : D.write k s = (0, { D.lives.count with waits := [⟨k, s⟩] }) := by
    rw [← hput]
    unfold Dev.write
    rw [h.dead, hh, show ((s.length : Int) != 256) = false by rw [hs]; rfl, hl]
  have hl2 : Dev.dead (Dev.lives { D.lives.count with waits := [⟨k, s⟩] }) = false := lives_dead hl h.armed
  have ef : Dev.flush { D.lives.count with waits := [⟨k, s⟩] } = (0, (Dev.lives { D.lives.count with waits := [⟨k, s⟩] }).drain [true]) := by
    unfold Dev.flush
    rw [show Dev.dead { D.lives.count with waits := [⟨k, s⟩] } = false from hl, hl2]
  rw [e] at ok
  simp only at ok
  rw [ef] at ok
  have hcells : ((Dev.lives { D.lives.count with waits := [⟨k, s⟩] }).drain [true]).cells = D.cells.set k ⟨s, false, 0, []⟩ := by
    show doneL D.cells ⟨k, s⟩ = _
    rw [doneL_some (x := ⟨k, s⟩) (show D.cells[((k : Nat) : Int).toNat]? = some c by rw [Int.toNat_natCast]; exact hc)]
    show D.cells.set ((k : Nat) : Int).toNat { c with s := s, lost := false } = _
    rw [Int.toNat_natCast, cd, cm]
  have hwell : ∀ c ∈ D.cells.set k ⟨s, false, 0, []⟩, c.drop = 0 ∧ c.miss = [] := fun x hx => by
    rcases List.mem_or_eq_of_mem_set hx with hx | rfl
    · exact h.well x hx
    · exact ⟨rfl, rfl⟩
  have cE : Clean ((Dev.lives { D.lives.count with waits := [⟨k, s⟩] }).drain [true]) (b + 1) := ⟨ok, hl2, h.armed, rfl, by rw [hcells, List.length_set]; exact h.len, by rw [hcells]; exact hwell⟩
  have eo : D.once k s = ((Dev.lives { D.lives.count with waits := [⟨k, s⟩] }).drain [true]).hhas k s := by
    unfold Dev.once; rw [e]; simp only; rw [ef]; rfl
  generalize (Dev.lives { D.lives.count with waits := [⟨k, s⟩] }).drain [true] = E at cE hcells eo
  have hce : E.cells[((k : Nat) : Int).toNat]? = some ⟨s, false, 0, []⟩ := by rw [hcells, Int.toNat_natCast]; exact List.getElem?_set_self hlt
  refine ⟨E.count, ?_, ⟨cE.ok.count, cE.dead, cE.armed, cE.waits, cE.len, cE.well⟩, hcells⟩
  rw [eo, hhas_at cE.dead cE.waits (has8 cE.len (by omega) (by omega)) hce]
  simp

theorem clean_one {D : Dev} {b : Nat} (h : Clean D b) {k : Nat} (hk : k ≤ 7) {s : Bytes} (hs : s.length = 256) :
    ∃ E, D.one k s = (0, E) ∧ Clean E (b + 1) ∧ E.cells = D.cells.set k ⟨s, false, 0, []⟩ := by
  obtain ⟨E, h1, h2, h3⟩ := clean_once h hk hs
  refine ⟨E, ?_, h2, h3⟩
  show Dev.tryK 4 D k s = _
  unfold Dev.tryK
  rw [h1]; rfl

def mkPut (T : Nat → Bytes) (k : Nat) : Put9 := ⟨(k : Int), T k⟩
theorem good_set {D E : Dev} {T : Nat → Bytes} {k : Nat} (hk : k < D.cells.length) (he : E.cells = D.cells.set k ⟨T k, false, 0, []⟩) (j : Nat) : isGood E T j = (Nat.beq k j || isGood D T j) := by
  unfold isGood
  rw [he, List.getElem?_set]
  by_cases e : k = j
  · subst e
    rw [if_pos rfl, if_pos hk]; simp
  · rw [if_neg e]
    have : Nat.beq k j = false := by
      cases h : Nat.beq k j with
      | false => rfl
      | true => exact absurd (Nat.eq_of_beq_eq_true h) e
    rw [this, Bool.false_or]

theorem clean_all {T : Nat → Bytes} (hT : ∀ k, (T k).length = 256) : ∀ (ks : List Nat) {D : Dev} {b : Nat} (m : Int), (∀ k ∈ ks, k ≤ 7) → Clean D b →
    ∃ E m', eachK oneG (ks.map (mkPut T)) D m = (0, (E, m')) ∧ Clean E (b + ks.length) ∧ (∀ k, isGood D T k = true → isGood E T k = true) ∧ ∀ k ∈ ks, isGood E T k = true
  | [], D, b, m, _, h => ⟨D, m, rfl, h, fun _ h => h, fun k hk => by simp at hk⟩
  | k :: r, D, b, m, hks, h => by
    obtain ⟨E, h1, h2, h3⟩ := clean_one h (hks k (by simp)) (hT k)
    obtain ⟨F, m', g1, g2, g3, g4⟩ := clean_all hT r (more 0 m) (fun j hj => hks j (by simp [hj])) h2
    have hkl : k < D.cells.length := by rw [h.len]; have := hks k (by simp); omega
    have eg : oneG D m (mkPut T k).at_ (mkPut T k).s = (0, (E, more 0 m)) := by
      unfold oneG
      show ((D.one k (T k)).1, ((D.one k (T k)).2, more (D.one k (T k)).1 m)) = _
      rw [h1]
    refine ⟨F, m', ?_, by rw [List.length_cons, show b + (r.length + 1) = b + 1 + r.length by omega]; exact g2, fun j hj => g3 j ?_, fun j hj => ?_⟩
    · rw [List.map_cons, eachK_cons, eg]
      exact g1
    · rw [good_set hkl h3, hj, Bool.or_true]
    · rcases List.mem_cons.1 hj with rfl | hj
      · exact g3 j (by rw [good_set hkl h3]; simp)
      · exact g4 j hj

def badN (D : Dev) (T : Nat → Bytes) (ks : List Nat) : Nat := (ks.filter fun k => !isGood D T k).length
theorem badN_cons (D : Dev) (T : Nat → Bytes) (k : Nat) (r : List Nat) : badN D T (k :: r) = (match isGood D T k with | true => 0 | false => 1) + badN D T r := by
  unfold badN
  rw [List.filter_cons]
  cases isGood D T k with
  | true => simp
  | false => simp; omega
theorem badN_le (D : Dev) (T : Nat → Bytes) (ks : List Nat) : badN D T ks ≤ ks.length := List.length_filter_le _ _
theorem badN_congr {D E : Dev} {T : Nat → Bytes} {ks : List Nat} (h : ∀ k ∈ ks, isGood D T k = isGood E T k) : badN D T ks = badN E T ks := by
  unfold badN
  rw [List.filter_congr fun k hk => by rw [h k hk]]

theorem clean_mend {T : Nat → Bytes} (hT : ∀ k, (T k).length = 256) : ∀ (ks : List Nat) {D : Dev} {b : Nat} (m : Nat), (∀ k ∈ ks, k ≤ 7) → ks.Nodup → m + ks.length ≤ 1000 → Clean D b →
    ∃ E, eachK mendG (ks.map (mkPut T)) D m = (0, (E, ((m + badN D T ks : Nat) : Int))) ∧ Clean E (b + ks.length) ∧ (∀ k, isGood D T k = true → isGood E T k = true) ∧ ∀ k ∈ ks, isGood E T k = true
  | [], D, b, m, _, _, _, h => ⟨D, rfl, h, fun _ h => h, fun k hk => by simp at hk⟩
  | k :: r, D, b, m, hks, hnd, hm, h => by
    rw [List.nodup_cons] at hnd
    rw [List.length_cons] at hm
    have hk7 := hks k (by simp)
    have hkl : k < D.cells.length := by rw [h.len]; omega
    obtain ⟨c, hc⟩ : ∃ c, D.cells[k]? = some c := ⟨_, List.getElem?_eq_getElem hkl⟩
    have hh : D.hhas k (T k) = ((!c.lost && (c.s == T k), 0), D.count) := hhas_at h.dead h.waits (has8 h.len (by omega) (by omega)) (by rw [Int.toNat_natCast]; exact hc)
    have hg : isGood D T k = (!c.lost && (c.s == T k)) := by unfold isGood; rw [hc]
    have cc : Clean D.count b := ⟨h.ok.count, h.dead, h.armed, h.waits, h.len, h.well⟩
    have gc : ∀ j, isGood D.count T j = isGood D T j := fun j => rfl
    have em : mendG D m (mkPut T k).at_ (mkPut T k).s = (match isGood D T k with | true => (0, (D.count, (m : Int))) | false => oneG D.count m k (T k)) := by
      unfold mendG
      show (match (D.hhas k (T k)).1.1 || ((D.hhas k (T k)).1.2 != 0) with | true => ((D.hhas k (T k)).1.2, ((D.hhas k (T k)).2, (m : Int))) | false => oneG (D.hhas k (T k)).2 m k (T k)) = _
      rw [hh, hg]
      simp only [bne_self_int, Bool.or_false]
    cases hgk : isGood D T k with
    | true =>
      obtain ⟨F, g1, g2, g3, g4⟩ := clean_mend hT r m (fun j hj => hks j (by simp [hj])) hnd.2 (by omega) cc
      refine ⟨F, ?_, g2.mono (by rw [List.length_cons]; omega), fun j hj => g3 j hj, fun j hj => ?_⟩
      · rw [List.map_cons, eachK_cons, em, hgk, badN_cons, hgk]
        simp only
        rw [Nat.zero_add]
        exact g1
      · rcases List.mem_cons.1 hj with rfl | hj
        · exact g3 j hgk
        · exact g4 j hj
    | false =>
      obtain ⟨E, h1, h2, h3⟩ := clean_one cc hk7 (hT k)
      have hgs := good_set (D := D.count) (E := E) (T := T) hkl h3
      obtain ⟨F, g1, g2, g3, g4⟩ := clean_mend hT r (m + 1) (fun j hj => hks j (by simp [hj])) hnd.2 (by omega) h2
      have eo : oneG D.count (m : Int) k (T k) = (0, (E, ((m + 1 : Nat) : Int))) := by
        unfold oneG
        rw [h1]
        show (0, (E, IntKind.i64.wrap ((m : Int) + 1))) = _
        rw [wrap64 _ (by omega) (by omega)]; rfl
      refine ⟨F, ?_, by rw [List.length_cons, show b + (r.length + 1) = b + 1 + r.length by omega]; exact g2, fun j hj => g3 j (by rw [hgs, gc, hj, Bool.or_true]), fun j hj => ?_⟩
      · rw [List.map_cons, eachK_cons, em, hgk, badN_cons, hgk]
        simp only
        rw [eo]
        have hb : badN D T r = badN E T r := badN_congr fun j hj => by
          rw [hgs, gc]
          have : Nat.beq k j = false := by
            cases hh : Nat.beq k j with
            | false => rfl
            | true => exact absurd (Nat.eq_of_beq_eq_true hh ▸ hj) hnd.1
          rw [this, Bool.false_or]
        rw [hb, show m + (1 + badN E T r) = m + 1 + badN E T r by omega]
        exact g1
      · rcases List.mem_cons.1 hj with rfl | hj
        · exact g3 j (by rw [hgs]; simp)
        · exact g4 j hj

theorem clean_fault {D : Dev} {b : Nat} (h : Clean D b) {f : Flt} (hf : f.kind < 4) : Clean (D.fault f).2 (b + 1) := by
  have hok := h.ok.fault f
  have hlen := fault_len D f
  cases hm : D.may f == 0 with
  | false =>
    have e : (D.fault f).2 = D := by unfold Dev.fault; rw [hm]
    rw [e]; exact h.mono (by omega)
  | true =>
    have e : (D.fault f).2 = D.hurt f := by unfold Dev.fault; rw [hm]
    rw [e] at hok hlen ⊢
    have hs : D.settle f.at_ = D := by
      unfold Dev.settle; rw [h.waits]
      obtain ⟨c, w, ar, de, le, op⟩ := D
      have hw : w = [] := h.waits
      subst hw; rfl
    have up : ∀ g : Cell → Cell, (∀ c, (g c).drop = c.drop ∧ (g c).miss = c.miss) → ∀ c ∈ (D.upd f.at_ g).cells, c.drop = 0 ∧ c.miss = [] := fun g hg c hc => by
      have hc : c ∈ D.cells.modify f.at_.toNat g := hc
      obtain ⟨i, hi⟩ := List.getElem?_of_mem hc
      rw [List.getElem?_modify] at hi
      cases hx : D.cells[i]? with
      | none => rw [hx] at hi; simp at hi
      | some c0 =>
        rw [hx] at hi
        have h0 := h.well c0 (List.mem_of_getElem? hx)
        by_cases e : f.at_.toNat = i
        · simp [e] at hi; subst hi; exact ⟨(hg c0).1.trans h0.1, (hg c0).2.trans h0.2⟩
        · simp [e] at hi; subst hi; exact h0
    have hk : f.kind = 1 ∨ f.kind = 2 ∨ f.kind = 3 := by
      have := (may_ok (show D.may f = 0 by simpa using hm)).2.1
      omega
    have fin : ∀ g : Cell → Cell, (∀ c, (g c).drop = c.drop ∧ (g c).miss = c.miss) → D.hurt f = D.upd f.at_ g → Clean (D.hurt f) (b + 1) := fun g hg e2 => by
      refine ⟨hok, ?_, ?_, ?_, hlen.trans h.len, ?_⟩ <;> rw [e2]
      · exact h.dead
      · exact h.armed
      · exact h.waits
      · exact up g hg
    rcases hk with hk | hk | hk
    · exact fin (fun c => { c with s := rotB f c.s 4 }) (fun c => ⟨rfl, rfl⟩) (by unfold Dev.hurt; rw [if_pos hk, hs])
    · exact fin (fun c => { c with s := zeros, lost := false }) (fun c => ⟨rfl, rfl⟩) (by unfold Dev.hurt; rw [if_neg (by omega), if_pos hk, hs])
    · exact fin (fun c => { c with lost := true }) (fun c => ⟨rfl, rfl⟩) (by unfold Dev.hurt; rw [if_neg (by omega), if_neg (by omega), if_pos hk, hs])
end Go.Proofs.Ytolefphdldmlkaa.AL

/- The law KeepMends, walked. -/
namespace Go.Proofs.Ytolefphdldmlkaa.AL
open Go Go.Proofs

theorem u8_add (v : UInt8) (i : Nat) : IntKind.u8.wrap ((v.toNat : Int) + IntKind.u8.wrap (i : Int)) = ((v + UInt8.ofNat i).toNat : Int) := by
  rw [IntKind.wrap_u8, IntKind.wrap_u8, UInt8.toNat_add, UInt8.toNat_ofNat']
  omega

abbrev tgt (v : UInt8) (k : Nat) : Bytes := sect (v + UInt8.ofNat k)
def tgtP (v : UInt8) (i : Nat) : List Put9 := (List.range i).map (mkPut (tgt v))
theorem tgtP_len (v : UInt8) (i : Nat) : (tgtP v i).length = i := by simp [tgtP]
theorem tgtP_get {v : UInt8} {i n : Nat} (h : i < n) : (tgtP v n)[i]? = some (mkPut (tgt v) i) := by
  unfold tgtP; rw [List.getElem?_map, List.getElem?_range h]; rfl
theorem tgtP_snoc (v : UInt8) (i : Nat) : tgtP v (i + 1) = tgtP v i ++ [mkPut (tgt v) i] := by
  unfold tgtP; rw [List.range_succ, List.map_append]; rfl

theorem badN_range (D : Dev) (T : Nat → Bytes) (i : Nat) : badN D T (List.range (i + 1)) = badN D T (List.range i) + (match isGood D T i with | true => 0 | false => 1) := by
  unfold badN
  rw [List.range_succ, List.filter_append, List.length_append, List.filter_cons]
  cases isGood D T i <;> rfl

abbrev dvP (D : Dev) (L : List (List PV)) : List ABlk := [devC D 1 2, .row t_disk_cell 4 (cx D.cells), .row t_disk_write 2 (wx D.waits), .row 63 2 L]

set_option maxRecDepth 8000 in
set_option maxHeartbeats 2000000 in
theorem keep_mends (f : List Flt) (v : UInt8) : AF Try.prog f_law09_KeepMends [.p (.sl 9 (fx f)), .p (u8 v)] [] (Pure (bl true) []) := by
  refine af_body hT F_law09_KeepMends rfl rfl N_law09_KeepMends rfl ?_
  refine aw_seq (aw_region hT ?_)
  refine aw_seq (aw_region hT ?_)
  refine callP law09_awake ?_
  refine aw_cut ⟨⟨154, [(0, .p (.sl 9 (fx f))), (1, .p (u8 v))]⟩, []⟩ (f.length ≤ 30) (aw_seq (aw_region hT ?_)) ?_
  · refine aw_cond (boolI (fun h3 => ?_) (fun h3 => ?_))
    · refine aw_seq (aw_region hT ?_)
      refine aw_ret ?_
      exact retPick [] ⟨rfl, rfl⟩ rfl
    · have h3 : decide (((fx f).length : Int) > 30) = false := h3
      have h3 := of_decide_eq_false h3
      rw [fx_len] at h3
      exact aw_skip ⟨wk_pick [] [0, 1] rfl, by omega⟩
  intro hf
  have n1 := disk_New 8 (by omega) (by omega)
  have c0 := clean_new
  generalize Dev.new 8 = D0 at n1 c0
  have hT8 : ∀ k, (tgt v k).length = 256 := fun k => sect_len _
  refine aw_seq (aw_region hT ?_)
  refine callP n1 ?_
  refine aw_seq (aw_region hT ?_)
  refine aw_wk (Wk.trans (wk_phantom 63 2) (wk_nil 8 3 2 0 rfl)) ?_
  have hPd : ((px (tgtP v 8)).drop 0).take (px (tgtP v 8)).length = px (tgtP v 8) := by rw [List.drop_zero, List.take_length]
  have hw : Wk 0 ⟨⟨154, [(0, .p (.sl 9 (fx f))), (6, .ref 0 0), (8, .msl 3 2 0 (px (tgtP v 8)).length)]⟩, dvP D0 (px (tgtP v 8))⟩ ⟨⟨154, [(0, .p (.sl 9 (fx f))), (6, .ref 0 0), (8, .p (.sl 2 (px (tgtP v 8))))]⟩, devH D0⟩ := by
    refine Wk.trans (wk_frz1 8 3 rfl rfl (show 0 + (px (tgtP v 8)).length ≤ (px (tgtP v 8)).length by omega)) ?_
    show Wk _ ⟨⟨154, [(8, .p (.sl 2 (((px (tgtP v 8)).drop 0).take (px (tgtP v 8)).length))), (0, _), (6, _), (8, _)]⟩, _⟩ _
    rw [hPd]
    exact wk_pick [0, 1, 2] [0, 6, 8] rfl
  refine aw_cut ⟨⟨154, [(0, .p (.sl 9 (fx f))), (6, .ref 0 0), (8, .p (.sl 2 (px (tgtP v 8))))]⟩, devH D0⟩ True (aw_seq (aw_region hT ?_)) (fun _ => ?_)
  · refine aw_block ?_
    refine aw_loopW (fun n s => ∃ (i : Nat) (j : Int), n + i = 8 ∧ j = i ∧ s = ⟨⟨154, [(0, .p (.sl 9 (fx f))), (1, .p (u8 v)), (6, .ref 0 0), (8, .msl 3 2 0 (px (tgtP v i)).length), (9, i64 j)]⟩, dvP D0 (px (tgtP v i))⟩) 8 ⟨⟨154, _⟩, [_, _, _, _]⟩ (wk_pick [0, 1, 2, 3] [0, 1, 6, 8, 9] rfl) ⟨0, 0, rfl, rfl, rfl⟩ ?_
    rintro n s ⟨i, j, hni, rfl, rfl⟩
    have hLl := tgtP_len v i
    have hpl := px_len (tgtP v i)
    refine aw_seq (aw_seq (aw_region hT ?_))
    refine aw_cond (boolI (fun h => ?_) (fun h => ?_))
    · have h := of_decide_eq_true (show decide ((i : Int) < 8) = true from h)
      refine aw_skip ?_
      refine aw_cut ⟨⟨154, [(0, .p (.sl 9 (fx f))), (1, .p (u8 v)), (6, .ref 0 0), (8, .msl 3 2 0 (px (tgtP v (i + 1))).length), (9, i64 i)]⟩, dvP D0 (px (tgtP v (i + 1)))⟩ True (aw_block (aw_regionF (fun k => Nat.beq 8 k) hT ?_)) (fun _ => ?_)
      · have sv : AF Try.prog f_law06_Sector [.p (.raw (.int .u8 (IntKind.u8.wrap ((v.toNat : Int) + IntKind.u8.wrap (i : Int)))))] [] (Pure (bA (tgt v i)) []) := by rw [u8_add]; exact law06_Sector _
        refine callP (af_at sv _ rfl rfl) ?_
        refine ⟨⟨rfl, rfl⟩, ?_⟩
        refine ⟨rfl, ⟨?_, ?_⟩, ?_⟩
        · show ((px (tgtP v i)).length + 1) * 32 ≤ 140737488355328
          omega
        · show (px (tgtP v i)).length + 1 ≤ 140737488355328
          omega
        rw [tgtP_snoc, px_put]
        exact ⟨wk_pick [0, 1, 2, 4] [0, 1, 6, 8, 9] rfl, trivial⟩
      · refine aw_region hT ?_
        refine ⟨n - 1, by omega, _, wk_pick [0, 1, 2, 3] [0, 1, 6, 8, 9] rfl, i + 1, IntKind.i64.wrap ((i : Int) + 1), by omega, ?_, rfl⟩
        rw [wrap64 _ (by omega) (by omega)]; rfl
    · have h := of_decide_eq_false (show decide ((i : Int) < 8) = false from h)
      have hi : i = 8 := by omega
      subst hi
      refine aw_exit ?_
      exact ⟨Wk.trans (wk_pick [0, 1, 2, 3] [0, 6, 8] rfl) hw, trivial⟩
  have hP8 := tgtP_len v 8
  have hget : ∀ {k : Nat}, k < 8 → (px (tgtP v 8))[((k : Nat) : Int).toNat]? = some (mkPut (tgt v) k).pv := fun {k} hk => by rw [Int.toNat_natCast]; exact px_get (tgtP_get hk)
  -- all are written
  obtain ⟨D1, m1, e1, c1, _, gd1⟩ := clean_all hT8 (List.range 8) 0 (fun k hk => by have := List.mem_range.1 hk; omega) c0
  have wA := keep_All D0 (tgtP v 8) 0 c0.ok (by omega)
  have eA : D0.all9 (tgtP v 8) = (0, D1) := by unfold Dev.all9 tgtP; rw [e1]
  rw [eA] at wA
  replace c1 : Clean D1 8 := c1
  refine aw_cut ⟨⟨154, [(0, .p (.sl 9 (fx f))), (6, .ref 0 0), (8, .p (.sl 2 (px (tgtP v 8)))), (10, i64 0)]⟩, devH D1⟩ True (aw_region hT ?_) (fun _ => ?_)
  · refine callP (af_in [0, 1, 2] wA rfl rfl rfl) ?_
    exact ⟨wk_pick [0, 3, 4] [0, 6, 8, 10] rfl, trivial⟩
  -- what rots, is blanked, is lost
  refine aw_cut2 (fun s1 => ∃ D, Clean D 50 ∧ s1 = ⟨⟨154, [(6, .ref 0 0), (8, .p (.sl 2 (px (tgtP v 8)))), (10, i64 0)]⟩, devH D⟩) (aw_seq (aw_region hT ?_)) ?_
  · refine aw_block ?_
    refine aw_loopW (fun n s => ∃ (i : Nat) (j : Int) (D : Dev), n + i = f.length ∧ j = i ∧ Clean D (8 + i) ∧ s = ⟨⟨154, [(0, .p (.sl 9 (fx f))), (6, .ref 0 0), (8, .p (.sl 2 (px (tgtP v 8)))), (10, i64 0), (11, i64 j)]⟩, devH D⟩) f.length ⟨⟨154, _⟩, [_, _, _]⟩ (wk_pick [0, 1, 2] [0, 6, 8, 10, 11] rfl) ⟨0, 0, D1, rfl, rfl, c1, rfl⟩ ?_
    rintro n s ⟨i, j, D, hni, rfl, hD, rfl⟩
    refine aw_seq (aw_seq (aw_region hT ?_))
    refine aw_cond (boolI (fun h => ?_) (fun h => ?_))
    · have hi : i < f.length := by
        have := of_decide_eq_true (show decide ((i : Int) < ((fx f).length : Int)) = true from h)
        rw [fx_len] at this; omega
      have hx := List.getElem?_eq_getElem hi
      generalize f[i] = x at hx
      have hxp : (fx f)[((i : Nat) : Int).toNat]? = some x.pv := by rw [Int.toNat_natCast]; exact fx_get hx
      refine aw_skip ?_
      refine aw_cut2 (fun s1 => ∃ E, Clean E (8 + i + 1) ∧ s1 = ⟨⟨154, [(0, .p (.sl 9 (fx f))), (6, .ref 0 0), (8, .p (.sl 2 (px (tgtP v 8)))), (10, i64 0), (11, i64 i)]⟩, devH E⟩) (aw_block (aw_seq (aw_region hT ?_))) ?_
      · refine ⟨Int.natCast_nonneg _, optI hxp ?_⟩
        refine aw_cond (boolI (fun h4 => ?_) (fun h4 => ?_))
        · have h4 := of_decide_eq_true (show decide (x.kind < 4) = true from h4)
          have w := disk_Fault D x (8 + i) hD.ok (by omega)
          have q := clean_fault hD h4
          generalize D.fault x = Y at w q
          obtain ⟨y, E⟩ := Y
          refine aw_region hT ?_
          refine ⟨Int.natCast_nonneg _, optI hxp ?_⟩
          refine callP (af_in [0, 1, 2] w rfl rfl rfl) ?_
          exact ⟨_, wk_pick [0, 1, 2] [0, 6, 8, 10, 11] rfl, E, q, rfl⟩
        · exact aw_skip ⟨_, wk_pick [0, 1, 2] [0, 6, 8, 10, 11] rfl, D, hD.mono (by omega), rfl⟩
      · rintro _ ⟨E, q, rfl⟩
        refine aw_region hT ?_
        refine ⟨n - 1, by omega, _, wk_pick [0, 1, 2] [0, 6, 8, 10, 11] rfl, i + 1, IntKind.i64.wrap ((i : Int) + 1), E, by omega, ?_, q, rfl⟩
        rw [wrap64 _ (by omega) (by omega)]; rfl
    · refine aw_exit ?_
      exact ⟨_, wk_pick [0, 1, 2] [6, 8, 10] rfl, D, hD.mono (by omega), rfl⟩
  rintro _ ⟨D2, c2, rfl⟩
  -- how many are bad
  refine aw_seq (aw_region hT ?_)
  refine aw_cut2 (fun s1 => ∃ D, Clean D 50 ∧ badN D2 (tgt v) (List.range 8) = badN D (tgt v) (List.range 8) ∧ s1 = ⟨⟨154, [(6, .ref 0 0), (8, .p (.sl 2 (px (tgtP v 8)))), (10, i64 0), (12, i64 (badN D2 (tgt v) (List.range 8) : Nat))]⟩, devH D⟩) (aw_seq (aw_region hT ?_)) ?_
  · refine aw_block ?_
    refine aw_loopW (fun n s => ∃ (i : Nat) (j q : Int) (D : Dev), n + i = 8 ∧ j = i ∧ q = (badN D2 (tgt v) (List.range i) : Nat) ∧ Clean D 50 ∧ D.cells = D2.cells ∧ s = ⟨⟨154, [(6, .ref 0 0), (8, .p (.sl 2 (px (tgtP v 8)))), (10, i64 0), (12, i64 q), (13, i64 j)]⟩, devH D⟩) 8 ⟨⟨154, _⟩, [_, _, _]⟩ (wk_pick [0, 1, 2] [6, 8, 10, 12, 13] rfl) ⟨0, 0, 0, D2, rfl, rfl, rfl, c2, rfl, rfl⟩ ?_
    rintro n s ⟨i, j, q, D, hni, rfl, hq, hD, hDc, rfl⟩
    refine aw_seq (aw_seq (aw_region hT ?_))
    refine aw_cond (boolI (fun h => ?_) (fun h => ?_))
    · have h := of_decide_eq_true (show decide ((i : Int) < 8) = true from h)
      obtain ⟨x, e, er, cr, hg, he⟩ := clean_read hD (show i ≤ 7 by omega) (tgt v)
      have bigD := hD.ok.big (show 50 ≤ 1000000 by omega)
      have rd := disk_Read D i bigD.2.1 bigD.2.2.1 bigD.2.2.2
      have xl := read_len hD.ok i
      rw [er] at rd xl
      replace xl : x.length ≤ 256 := xl
      have hgg : isGood D (tgt v) i = isGood D2 (tgt v) i := by unfold isGood; rw [hDc]
      rw [hgg] at hg
      have hb := badN_range D2 (tgt v) i
      have hbl := badN_le D2 (tgt v) (List.range i)
      rw [List.length_range] at hbl
      have hDc2 : D.count.cells = D2.cells := hDc
      generalize D.count = E at rd cr hDc2
      have sm := ref04_Same x (tgt v i) (by omega)
      refine aw_skip ?_
      refine aw_cut ⟨⟨154, [(6, .ref 0 0), (8, .p (.sl 2 (px (tgtP v 8)))), (10, i64 0), (12, i64 (badN D2 (tgt v) (List.range (i + 1)) : Nat)), (13, i64 i)]⟩, devH E⟩ True (aw_block (aw_seq (aw_region hT ?_))) (fun _ => ?_)
      · refine callP (af_in [0, 1, 2] rd rfl rfl rfl) ?_
        refine aw_seq (aw_region hT ?_)
        refine ⟨Int.natCast_nonneg _, optI (hget (by omega)) ?_⟩
        refine callP (af_at sm _ rfl rfl) ?_
        have add : IntKind.i64.wrap (q + 1) = ((badN D2 (tgt v) (List.range i) + 1 : Nat) : Int) := by rw [hq, wrap64 _ (by omega) (by omega)]; rfl
        refine aw_seq (aw_region hT ?_)
        refine boolI (fun h1 => ?_) (fun h1 => ?_)
        · have h1 : (e != 0) = true := h1
          have hgf : isGood D2 (tgt v) i = false := by rw [← hg, show (e == 0) = false by simpa using h1]; rfl
          rw [hgf] at hb
          refine aw_cond ?_
          refine aw_region hT ?_
          rw [hb, ← add]
          exact ⟨wk_pick [0, 1, 2] [6, 8, 10, 12, 13] rfl, trivial⟩
        · have h1 : (e != 0) = false := h1
          have e0 : (e == 0) = true := by simpa using h1
          rw [e0, Bool.true_and] at hg
          refine aw_cond (boolI (fun h2 => ?_) (fun h2 => ?_))
          · have h2 : (!(x == tgt v i)) = true := h2
            have hgf : isGood D2 (tgt v) i = false := by rw [← hg]; simpa using h2
            rw [hgf] at hb
            refine aw_region hT ?_
            rw [hb, ← add]
            exact ⟨wk_pick [0, 1, 2] [6, 8, 10, 12, 13] rfl, trivial⟩
          · have h2 : (!(x == tgt v i)) = false := h2
            have hgf : isGood D2 (tgt v) i = true := by rw [← hg]; simpa using h2
            rw [hgf] at hb
            refine aw_skip ?_
            rw [hb, Nat.add_zero, ← hq]
            exact ⟨wk_pick [0, 1, 2] [6, 8, 10, 12, 13] rfl, trivial⟩
      · refine aw_region hT ?_
        refine ⟨n - 1, by omega, _, wk_pick [0, 1, 2] [6, 8, 10, 12, 13] rfl, i + 1, IntKind.i64.wrap ((i : Int) + 1), _, E, by omega, ?_, rfl, cr, hDc2, rfl⟩
        rw [wrap64 _ (by omega) (by omega)]; rfl
    · have h := of_decide_eq_false (show decide ((i : Int) < 8) = false from h)
      have hi : i = 8 := by omega
      subst hi hq
      refine aw_exit ?_
      exact ⟨_, wk_pick [0, 1, 2] [6, 8, 10, 12] rfl, D, hD, badN_congr (fun k _ => by unfold isGood; rw [hDc]), rfl⟩
  rintro _ ⟨D3, c3, hbad, rfl⟩
  have hbl := badN_le D2 (tgt v) (List.range 8)
  rw [List.length_range] at hbl
  -- all are mended
  obtain ⟨D4, e4, c4, _, gd4⟩ := clean_mend hT8 (List.range 8) 0 (fun k hk => by have := List.mem_range.1 hk; omega) List.nodup_range (by simp) c3
  have wM := keep_Mend D3 (tgtP v 8) 50 c3.ok (by omega)
  have eM : D3.mend9 (tgtP v 8) = ((((badN D2 (tgt v) (List.range 8) : Nat) : Int), 0), D4) := by
    show (((eachK mendG ((List.range 8).map (mkPut (tgt v))) D3 ((0 : Nat) : Int)).2.2, _), _) = _
    rw [e4, Nat.zero_add, ← hbad]
    show ((_, (eachK mendG ((List.range 8).map (mkPut (tgt v))) D3 ((0 : Nat) : Int)).1), (eachK mendG ((List.range 8).map (mkPut (tgt v))) D3 ((0 : Nat) : Int)).2.1) = _
    rw [e4]
  rw [eM] at wM
  replace c4 : Clean D4 58 := c4
  obtain ⟨c5, e5⟩ := c4.crashed
  have big4 := c4.ok.big (show 58 ≤ 1000000 by omega)
  have wC := disk_Crash D4 [] big4.1 big4.2.1
  have gd5 : ∀ k, k < 8 → isGood (D4.crashed []) (tgt v) k = true := fun k hk => by
    have := gd4 k (List.mem_range.2 hk)
    unfold isGood at this ⊢
    rw [e5]; exact this
  generalize D4.crashed [] = D5 at wC c5 gd5
  generalize badN D2 (tgt v) (List.range 8) = q at wM
  refine aw_cut ⟨⟨154, [(6, .ref 0 0), (8, .p (.sl 2 (px (tgtP v 8)))), (10, i64 0), (12, i64 (q : Nat)), (17, i64 (q : Nat)), (18, i64 0)]⟩, devH D4⟩ True (aw_region hT ?_) (fun _ => ?_)
  · refine callP (af_in [0, 1, 2] wM rfl rfl rfl) ?_
    exact ⟨wk_pick [0, 3, 4] [6, 8, 10, 12, 17, 18] rfl, trivial⟩
  refine aw_cut ⟨⟨154, [(6, .ref 0 0), (8, .p (.sl 2 (px (tgtP v 8)))), (10, i64 0), (12, i64 (q : Nat)), (17, i64 (q : Nat)), (18, i64 0)]⟩, devH D5⟩ True (aw_region hT ?_) (fun _ => ?_)
  · refine callP (af_args (af_in (args := [.ref 0 0, .p (.sl 1 (kx []))]) [0, 1, 2] wC rfl rfl rfl) ⟨.inl rfl, .inr ⟨rfl, 1, rfl⟩, trivial⟩) ?_
    exact ⟨wk_pick [0, 3, 4] [6, 8, 10, 12, 17, 18] rfl, trivial⟩
  refine aw_cut2 (fun s1 => ∃ D, Clean D 58 ∧ D.cells = D5.cells ∧ s1 = ⟨⟨154, [(6, .ref 0 0), (8, .p (.sl 2 (px (tgtP v 8)))), (10, i64 0), (12, i64 (q : Nat)), (17, i64 (q : Nat)), (18, i64 0)]⟩, devH D⟩) (aw_seq (aw_region hT ?_)) ?_
  · refine aw_block ?_
    refine aw_loopW (fun n s => ∃ (i : Nat) (j : Int) (D : Dev), n + i = 8 ∧ j = i ∧ Clean D 58 ∧ D.cells = D5.cells ∧ s = ⟨⟨154, [(6, .ref 0 0), (8, .p (.sl 2 (px (tgtP v 8)))), (10, i64 0), (12, i64 (q : Nat)), (17, i64 (q : Nat)), (18, i64 0), (19, i64 j)]⟩, devH D⟩) 8 ⟨⟨154, _⟩, [_, _, _]⟩ (wk_pick [0, 1, 2] [6, 8, 10, 12, 17, 18, 19] rfl) ⟨0, 0, D5, rfl, rfl, c5, rfl, rfl⟩ ?_
    rintro n s ⟨i, j, D, hni, rfl, hD, hDc, rfl⟩
    refine aw_seq (aw_seq (aw_region hT ?_))
    refine aw_cond (boolI (fun h => ?_) (fun h => ?_))
    · have h := of_decide_eq_true (show decide ((i : Int) < 8) = true from h)
      obtain ⟨x, e, er, cr, hg, he⟩ := clean_read hD (show i ≤ 7 by omega) (tgt v)
      have bigD := hD.ok.big (show 58 ≤ 1000000 by omega)
      have rd := disk_Read D i bigD.2.1 bigD.2.2.1 bigD.2.2.2
      have xl := read_len hD.ok i
      rw [er] at rd xl
      replace xl : x.length ≤ 256 := xl
      have hgg : isGood D (tgt v) i = true := by
        have := gd5 i (by omega)
        unfold isGood at this ⊢; rw [hDc]; exact this
      rw [hgg, Bool.and_eq_true] at hg
      obtain ⟨g0, g1⟩ := hg
      have hDc2 : D.count.cells = D5.cells := hDc
      generalize D.count = E at rd cr hDc2
      have sm := ref04_Same x (tgt v i) (by omega)
      rw [g1] at sm
      refine aw_skip ?_
      refine aw_cut ⟨⟨154, [(6, .ref 0 0), (8, .p (.sl 2 (px (tgtP v 8)))), (10, i64 0), (12, i64 (q : Nat)), (17, i64 (q : Nat)), (18, i64 0), (19, i64 i)]⟩, devH E⟩ True (aw_block (aw_seq (aw_region hT ?_))) (fun _ => ?_)
      · refine callP (af_in [0, 1, 2] rd rfl rfl rfl) ?_
        refine aw_seq (aw_region hT ?_)
        refine ⟨Int.natCast_nonneg _, optI (hget (by omega)) ?_⟩
        refine callP (af_at sm _ rfl rfl) ?_
        refine aw_seq (aw_region hT ?_)
        refine boolI (fun h1 => ?_) (fun h1 => ?_)
        · have h1 : (e != 0) = true := h1
          rw [show e = 0 by simpa using g0] at h1; simp at h1
        · refine aw_cond ?_
          refine aw_skip ?_
          exact ⟨wk_pick [0, 1, 2] [6, 8, 10, 12, 17, 18, 19] rfl, trivial⟩
      · refine aw_region hT ?_
        refine ⟨n - 1, by omega, _, wk_pick [0, 1, 2] [6, 8, 10, 12, 17, 18, 19] rfl, i + 1, IntKind.i64.wrap ((i : Int) + 1), E, by omega, ?_, cr, hDc2, rfl⟩
        rw [wrap64 _ (by omega) (by omega)]; rfl
    · refine aw_exit ?_
      exact ⟨_, wk_pick [0, 1, 2] [6, 8, 10, 12, 17, 18] rfl, D, hD, hDc, rfl⟩
  rintro _ ⟨D6, c6, hc6, rfl⟩
  obtain ⟨D7, e7, c7, _, _⟩ := clean_mend hT8 (List.range 8) 0 (fun k hk => by have := List.mem_range.1 hk; omega) List.nodup_range (by simp) c6
  have wM := keep_Mend D6 (tgtP v 8) 58 c6.ok (by omega)
  have hz : badN D6 (tgt v) (List.range 8) = 0 := by
    unfold badN
    rw [List.length_eq_zero_iff, List.filter_eq_nil_iff]
    intro k hk
    have := gd5 k (List.mem_range.1 hk)
    unfold isGood at this ⊢
    rw [hc6, this]; simp
  have eM : D6.mend9 (tgtP v 8) = ((0, 0), D7) := by
    show (((eachK mendG ((List.range 8).map (mkPut (tgt v))) D6 ((0 : Nat) : Int)).2.2, (eachK mendG ((List.range 8).map (mkPut (tgt v))) D6 ((0 : Nat) : Int)).1), (eachK mendG ((List.range 8).map (mkPut (tgt v))) D6 ((0 : Nat) : Int)).2.1) = _
    rw [e7, hz]; rfl
  rw [eM] at wM
  refine aw_cut ⟨⟨154, [(10, i64 0), (12, i64 (q : Nat)), (17, i64 (q : Nat)), (18, i64 0), (23, i64 0), (24, i64 0)]⟩, []⟩ True (aw_region hT ?_) (fun _ => ?_)
  · refine callP (af_in [0, 1, 2] wM rfl rfl rfl) ?_
    exact ⟨wk_pick [] [10, 12, 17, 18, 23, 24] rfl, trivial⟩
  refine aw_seq (aw_region hT ?_)
  refine boolI (fun h => ?_) (fun h => ?_)
  · refine aw_ret ?_
    exact retPick [] ⟨rfl, rfl⟩ rfl
  · have h : (((q : Nat) : Int) == ((q : Nat) : Int)) = false := h
    simp at h
end Go.Proofs.Ytolefphdldmlkaa.AL

/- The abstract layer, part u: what a law's arguments read as; the call's end as the row asks. -/
namespace Go.Proofs.Ytolefphdldmlkaa.AL
open Go Go.RowKit Go.ChangeShapes Go.WideShapes Go.ChangeAt Go.Deep

/-- A contract at closed arguments, as the rows ask it: what was there stays. -/
theorem af_calls {P : Program} {f : FuncId} {args : List AV} {r : Value} {W : World} {vals : Array Value} (h : AF P f args [] (Pure (.p (.raw r)) [])) (hn : vals.size = args.length)
    (ha : ∀ i u, args[i]? = some u → ARep W (· < W.heap.size) (fun _ => none) u (vals.getD i undef)) : Calls P f vals W fun e W' => e = .returned r ∧ Below W.heap.size W W' := by
  have hs : SimH W (· < W.heap.size) (fun _ => none) [] := ⟨fun b k hb => by simp at hb, fun b b' B hb => by obtain ⟨k, hk, _⟩ := hb; simp at hk, fun B hB => hB, fun _ _ => rfl, fun b B hb => by simp at hb⟩
  refine (h.2 W _ _ vals hn ha hs).mono ?_
  rintro e W' ⟨v, r', H', I', ι', rfl, ⟨rfl, rfl⟩, hr, hs', hx⟩
  rw [rep_raw hr]
  refine ⟨rfl, ⟨hx.ext.os, hx.ext.tape, hx.ext.output, hx.ext.size, fun k hk => hx.ext.frame k hk ?_⟩⟩
  rintro ⟨b, hb, _⟩
  obtain ⟨k', hk', _⟩ := hb
  simp at hk'

section
variable {H : Type} {enc : TypeId × Value → H} {P : Program} {W : World} {spare : Nat → Bool} {held : Bool}

theorem len_le_maxLen {n : Nat} (h : n ≤ maxLen) : n ≤ 9223372036854775807 := by
  have : maxLen = 9223372036854775807 := by decide
  omega

/-- A slice whose elements' cells read as they should. -/
theorem rep_slice {t e : TypeId} {v : Value} {d : DataW H} {ps : List MemPlace} {r : Reach} {b0 : Nat} {ι : Nat → Option Nat} (ht : P.underlying t = some (.slice e)) (hval : Value.okWide P W r b0 t v) (h : DataW.Trod enc P W 0 spare held t v d ps)
    {α : Type} [Inhabited α] (pv : α → List PV) (sz : Nat) (hsz : P.cellsOf e = sz) (h0 : 0 < sz)
    (hel : ∀ (n : Nat) (cs : List Value) (x : DataW H × List MemPlace), DataW.trod enc P W 0 spare held n e cs = some x → ∃ a : α, (pv a).length = sz ∧ ∀ (i : Nat) (u : PV), (pv a)[i]? = some u → ∀ v : Value, cs[i]? = some v → PRep W (· < W.heap.size) u v) :
    ∃ l : List α, ARep W (· < W.heap.size) ι (.p (.sl sz (l.map pv))) v := by
  classical
  obtain ⟨a0, len, cap, rfl⟩ := okWide_slice ht hval
  obtain ⟨fuel, hf⟩ := h
  rcases open_slice ht hf with ⟨hcs, _⟩ | ⟨a, len', cap', m, n, D, Pl, hcs, _, hl, hm, hmm, _, hx⟩
  · simp [Value.cells] at hcs
    obtain ⟨rfl, rfl, rfl⟩ := hcs
    exact ⟨[], .p (PRep.sl sz [] none 0 (fun _ _ => undef) (by simp) (by simp) (.inl rfl) (fun j e i u h => by simp at h))⟩
  · simp [Value.cells] at hcs
    obtain ⟨rfl, rfl, rfl⟩ := hcs
    have hlm : len ≤ m := by rw [hmm]; split <;> omega
    have hone : ∀ i, ∃ x : α, i < len → (pv x).length = sz ∧ (∀ k, k < sz → ∃ v, W.cell? ((a.add (i * sz)).add k) = some v) ∧ ∀ (k : Nat) (u : PV) (v : Value), (pv x)[k]? = some u → W.cell? ((a.add (i * sz)).add k) = some v → PRep W (· < W.heap.size) u v := by
      intro i
      by_cases hi : i < len
      · obtain ⟨cs', h1, h2⟩ := hx i (by omega)
        rw [hsz] at h1
        obtain ⟨x, h3, h4⟩ := hel n cs' _ h2
        obtain ⟨_, hlen, hc⟩ := World.cells?_some h1
        refine ⟨x, fun _ => ⟨h3, fun k hk => ?_, fun k u v hu hv => ?_⟩⟩
        · exact ⟨cs'[k]'(by omega), by rw [hc k hk, List.getElem?_eq_getElem]⟩
        · have hk : k < sz := by rw [← h3]; exact (List.getElem?_eq_some_iff.1 hu).1
          exact h4 k u hu v (by rw [← hc k hk]; exact hv)
      · exact ⟨default, fun h => absurd h hi⟩
    let g : Nat → α := fun i => (hone i).choose
    have hg : ∀ i, i < len → (pv (g i)).length = sz ∧ (∀ k, k < sz → ∃ v, W.cell? ((a.add (i * sz)).add k) = some v) ∧ ∀ (k : Nat) (u : PV) (v : Value), (pv (g i))[k]? = some u → W.cell? ((a.add (i * sz)).add k) = some v → PRep W (· < W.heap.size) u v := fun i hi => (hone i).choose_spec hi
    clear_value g
    have hlen : (((List.range len).map g).map pv).length = len := by simp
    have hget : ∀ (j : Nat) (e : List PV), (((List.range len).map g).map pv)[j]? = some e → j < len ∧ e = pv (g j) := by
      intro j e hj
      have hjl : j < len := by rw [← hlen]; exact (List.getElem?_eq_some_iff.1 hj).1
      simp [hjl] at hj
      exact ⟨hjl, hj.symm⟩
    refine ⟨(List.range len).map g, .p ?_⟩
    have := PRep.sl (w := W) (I := (· < W.heap.size)) sz (((List.range len).map g).map pv) (some a) cap (fun j i => (W.cell? ((a.add (j * sz)).add i)).getD undef) (by omega) (by have := len_le_maxLen hm; omega) ?_ ?_
    · rw [hlen] at this; exact this
    · · rcases Nat.eq_zero_or_pos len with hz | hz
        · subst hz; exact .inl rfl
        · obtain ⟨v, hv⟩ := (hg 0 hz).2.1 0 h0
          obtain ⟨ab, ao, asp⟩ := a
          have hspot : asp = none := by simpa [Addr.add] using World.cell?_spot hv
          subst hspot
          refine .inr ⟨ab, ao, rfl, ?_, fun j e hj => ?_⟩
          · unfold World.cell? at hv
            split at hv
            · rename_i hb
              have := (Array.getElem?_eq_some_iff.1 hb).1
              simpa [Addr.add] using this
            · simp at hv
          · obtain ⟨hjl, rfl⟩ := hget j e hj
            refine ⟨(hg j hjl).1, fun i hi => ?_⟩
            obtain ⟨v, hv⟩ := (hg j hjl).2.1 i hi
            have e1 : (Addr.add ⟨ab, ao, none⟩ (j * sz)).add i = ⟨ab, ao + j * sz + i, none⟩ := by rw [add_plain, add_plain]
            rw [e1] at hv
            rw [hv]
            show some v = some ((W.cell? _).getD undef)
            rw [e1, hv]; rfl
    · intro j e i u hj hu
      obtain ⟨hjl, rfl⟩ := hget j e hj
      have hi : i < sz := by rw [← (hg j hjl).1]; exact (List.getElem?_eq_some_iff.1 hu).1
      obtain ⟨v, hv⟩ := (hg j hjl).2.1 i hi
      rw [hv]
      exact (hg j hjl).2.2 i u v hu hv
/-- The same, of a slice that stands in a cell. -/
theorem rep_sliceT {t e : TypeId} {fuel : Nat} {vs : List Value} {y : DataW H × List MemPlace} (ht : P.underlying t = some (.slice e)) (hf : DataW.trod enc P W 0 spare held fuel t vs = some y)
    {α : Type} [Inhabited α] (pv : α → List PV) (sz : Nat) (hsz : P.cellsOf e = sz) (h0 : 0 < sz)
    (hel : ∀ (n : Nat) (cs : List Value) (x : DataW H × List MemPlace), DataW.trod enc P W 0 spare held n e cs = some x → ∃ a : α, (pv a).length = sz ∧ ∀ (i : Nat) (u : PV), (pv a)[i]? = some u → ∀ v : Value, cs[i]? = some v → PRep W (· < W.heap.size) u v) :
    ∃ (l : List α) (v : Value), vs = [v] ∧ PRep W (· < W.heap.size) (.sl sz (l.map pv)) v := by
  classical
  rcases open_slice ht hf with ⟨hcs, _⟩ | ⟨a, len, cap, m, n, D, Pl, hcs, _, hl, hm, hmm, _, hx⟩
  · exact ⟨[], _, hcs, (PRep.sl sz [] none 0 (fun _ _ => undef) (by simp) (by simp) (.inl rfl) (fun j e i u h => by simp at h))⟩
  · have hlm : len ≤ m := by rw [hmm]; split <;> omega
    have hone : ∀ i, ∃ x : α, i < len → (pv x).length = sz ∧ (∀ k, k < sz → ∃ v, W.cell? ((a.add (i * sz)).add k) = some v) ∧ ∀ (k : Nat) (u : PV) (v : Value), (pv x)[k]? = some u → W.cell? ((a.add (i * sz)).add k) = some v → PRep W (· < W.heap.size) u v := by
      intro i
      by_cases hi : i < len
      · obtain ⟨cs', h1, h2⟩ := hx i (by omega)
        rw [hsz] at h1
        obtain ⟨x, h3, h4⟩ := hel n cs' _ h2
        obtain ⟨_, hlen, hc⟩ := World.cells?_some h1
        refine ⟨x, fun _ => ⟨h3, fun k hk => ?_, fun k u v hu hv => ?_⟩⟩
        · exact ⟨cs'[k]'(by omega), by rw [hc k hk, List.getElem?_eq_getElem]⟩
        · have hk : k < sz := by rw [← h3]; exact (List.getElem?_eq_some_iff.1 hu).1
          exact h4 k u hu v (by rw [← hc k hk]; exact hv)
      · exact ⟨default, fun h => absurd h hi⟩
    let g : Nat → α := fun i => (hone i).choose
    have hg : ∀ i, i < len → (pv (g i)).length = sz ∧ (∀ k, k < sz → ∃ v, W.cell? ((a.add (i * sz)).add k) = some v) ∧ ∀ (k : Nat) (u : PV) (v : Value), (pv (g i))[k]? = some u → W.cell? ((a.add (i * sz)).add k) = some v → PRep W (· < W.heap.size) u v := fun i hi => (hone i).choose_spec hi
    clear_value g
    have hlen : (((List.range len).map g).map pv).length = len := by simp
    have hget : ∀ (j : Nat) (e : List PV), (((List.range len).map g).map pv)[j]? = some e → j < len ∧ e = pv (g j) := by
      intro j e hj
      have hjl : j < len := by rw [← hlen]; exact (List.getElem?_eq_some_iff.1 hj).1
      simp [hjl] at hj
      exact ⟨hjl, hj.symm⟩
    refine ⟨(List.range len).map g, _, hcs, ?_⟩
    have := PRep.sl (w := W) (I := (· < W.heap.size)) sz (((List.range len).map g).map pv) (some a) cap (fun j i => (W.cell? ((a.add (j * sz)).add i)).getD undef) (by omega) (by have := len_le_maxLen hm; omega) ?_ ?_
    · rw [hlen] at this; exact this
    · · rcases Nat.eq_zero_or_pos len with hz | hz
        · subst hz; exact .inl rfl
        · obtain ⟨v, hv⟩ := (hg 0 hz).2.1 0 h0
          obtain ⟨ab, ao, asp⟩ := a
          have hspot : asp = none := by simpa [Addr.add] using World.cell?_spot hv
          subst hspot
          refine .inr ⟨ab, ao, rfl, ?_, fun j e hj => ?_⟩
          · unfold World.cell? at hv
            split at hv
            · rename_i hb
              have := (Array.getElem?_eq_some_iff.1 hb).1
              simpa [Addr.add] using this
            · simp at hv
          · obtain ⟨hjl, rfl⟩ := hget j e hj
            refine ⟨(hg j hjl).1, fun i hi => ?_⟩
            obtain ⟨v, hv⟩ := (hg j hjl).2.1 i hi
            have e1 : (Addr.add ⟨ab, ao, none⟩ (j * sz)).add i = ⟨ab, ao + j * sz + i, none⟩ := by rw [add_plain, add_plain]
            rw [e1] at hv
            rw [hv]
            show some v = some ((W.cell? _).getD undef)
            rw [e1, hv]; rfl
    · intro j e i u hj hu
      obtain ⟨hjl, rfl⟩ := hget j e hj
      have hi : i < sz := by rw [← (hg j hjl).1]; exact (List.getElem?_eq_some_iff.1 hu).1
      obtain ⟨v, hv⟩ := (hg j hjl).2.1 i hi
      rw [hv]
      exact (hg j hjl).2.2 i u v hu hv
end
end Go.Proofs.Ytolefphdldmlkaa.AL

/- What a list of calls reads as. -/
namespace Go.Proofs.Ytolefphdldmlkaa.AL
open Go Go.RowKit Go.ChangeShapes Go.WideShapes Go.ChangeAt Go.Deep Go.Proofs

theorem raw_int {W : World} {I : Nat → Prop} (k : IntKind) (n : Int) : PRep W I (.raw (.int k n)) (.int k n) := .raw _ rfl
theorem raw_bool {W : World} {I : Nat → Prop} (b : Bool) : PRep W I (.raw (.bool b)) (.bool b) := .raw _ rfl
theorem rep_int {W : World} {I : Nat → Prop} {ι : Nat → Option Nat} (n : Int) : ARep W I ι (i64 n) (.int .i64 n) := .p (.raw _ rfl)
theorem rep_u8 {W : World} {I : Nat → Prop} {ι : Nat → Option Nat} (b : UInt8) : ARep W I ι (.p (u8 b)) (.int .u8 (b.toNat : Int)) := .p (.raw _ rfl)

section
variable {H : Type} {enc : TypeId × Value → H} {W : World} {spare : Nat → Bool} {held : Bool}

theorem u8_of {n : Int} (h : (Lit.int .u8 n).wf = true) : ∃ b : UInt8, n = (b.toNat : Int) := by
  have h2 : 0 ≤ n ∧ n < 256 := by
    simp [Lit.wf] at h
    have h3 : IntKind.u8.min = 0 := rfl
    have h4 : IntKind.u8.max = 255 := rfl
    omega
  refine ⟨UInt8.ofNat n.toNat, ?_⟩
  rw [UInt8.toNat_ofNat']
  omega

instance : Inhabited Flt := ⟨⟨0, 0, 0, 0, 0, 0, 0, 0, 0⟩⟩
instance : Inhabited Op06 := ⟨⟨0, 0, 0, false, default, []⟩⟩

def Flt.vals (f : Flt) : List Value := [.int .i64 f.kind, .int .i64 f.at_, .int .i64 f.off, .int .i64 f.n, .int .i64 f.to, .int .u8 (f.m0.toNat : Int), .int .u8 (f.m1.toNat : Int), .int .u8 (f.m2.toNat : Int), .int .u8 (f.m3.toNat : Int)]

theorem c3 : Try.prog.cellsOf 3 = 1 := by kernel_rfl
theorem c4 : Try.prog.cellsOf 4 = 1 := by kernel_rfl
theorem c5 : Try.prog.cellsOf 5 = 1 := by kernel_rfl
theorem c29 : Try.prog.cellsOf 29 = 4 := by kernel_rfl
theorem c31 : Try.prog.cellsOf 31 = 9 := by kernel_rfl
theorem c32 : Try.prog.cellsOf 32 = 1 := by kernel_rfl
theorem c34 : Try.prog.cellsOf 34 = 14 := by kernel_rfl

set_option maxRecDepth 20000 in
theorem flt_cells (n : Nat) (cs : List Value) (x : DataW H × List MemPlace) (h : DataW.trod enc Try.prog W 0 spare held n 31 cs = some x) : ∃ f : Flt, cs = f.vals := by
  obtain ⟨xs, m, _, rfl, hl, hlen, hf⟩ := DataW.trod_struct Try.underlying31 h
  rw [c31] at hl
  have h0 := hf 0 _ rfl
  have h1 := hf 1 _ rfl
  have h2 := hf 2 _ rfl
  have h3 := hf 3 _ rfl
  have h4 := hf 4 _ rfl
  have h5 := hf 5 _ rfl
  match xs, hlen with
  | [y0, y1, y2, y3, y4, y5], _ =>
    match cs, hl with
    | [v0, v1, v2, v3, v4, v5, v6, v7, v8], _ =>
      simp [c3, c29] at h0 h1 h2 h3 h4 h5
      obtain ⟨a0, e0, _⟩ := DataW.trod_int Try.underlying3 h0
      obtain ⟨a1, e1, _⟩ := DataW.trod_int Try.underlying3 h1
      obtain ⟨a2, e2, _⟩ := DataW.trod_int Try.underlying3 h2
      obtain ⟨a3, e3, _⟩ := DataW.trod_int Try.underlying3 h3
      obtain ⟨a4, e4, _⟩ := DataW.trod_int Try.underlying3 h4
      obtain ⟨z0, z1, z2, z3, k, _, g0, g1, g2, g3⟩ := trod_array4 Try.underlying29 c5 h5
      obtain ⟨b0, f0, _, w0⟩ := DataW.trod_int Try.underlying5 g0
      obtain ⟨b1, f1, _, w1⟩ := DataW.trod_int Try.underlying5 g1
      obtain ⟨b2, f2, _, w2⟩ := DataW.trod_int Try.underlying5 g2
      obtain ⟨b3, f3, _, w3⟩ := DataW.trod_int Try.underlying5 g3
      obtain ⟨m0, rfl⟩ := u8_of w0
      obtain ⟨m1, rfl⟩ := u8_of w1
      obtain ⟨m2, rfl⟩ := u8_of w2
      obtain ⟨m3, rfl⟩ := u8_of w3
      simp at e0 e1 e2 e3 e4 f0 f1 f2 f3
      exact ⟨⟨a0, a1, a2, a3, a4, m0, m1, m2, m3⟩, by rw [e0, e1, e2, e3, e4, f0, f1, f2, f3]; rfl⟩

set_option maxRecDepth 20000 in
theorem op_cells (n : Nat) (cs : List Value) (x : DataW H × List MemPlace) (h : DataW.trod enc Try.prog W 0 spare held n 34 cs = some x) :
    ∃ o : Op06, ∃ v : Value, cs = [.int .i64 o.kind, .int .i64 o.at_, .int .u8 (o.b.toNat : Int), .bool o.short] ++ o.f.vals ++ [v] ∧ PRep W (· < W.heap.size) (.sl 1 (kx o.keep)) v := by
  obtain ⟨xs, m, _, rfl, hl, hlen, hf⟩ := DataW.trod_struct Try.underlying34 h
  rw [c34] at hl
  have h0 := hf 0 _ rfl
  have h1 := hf 1 _ rfl
  have h2 := hf 2 _ rfl
  have h3 := hf 3 _ rfl
  have h4 := hf 4 _ rfl
  have h5 := hf 5 _ rfl
  match xs, hlen with
  | [y0, y1, y2, y3, y4, y5], _ =>
    match cs, hl with
    | [v0, v1, v2, v3, v4, v5, v6, v7, v8, v9, v10, v11, v12, v13], _ =>
      simp [c3, c5, c4, c31, c32] at h0 h1 h2 h3 h4 h5
      obtain ⟨a0, e0, _⟩ := DataW.trod_int Try.underlying3 h0
      obtain ⟨a1, e1, _⟩ := DataW.trod_int Try.underlying3 h1
      obtain ⟨b0, e2, _, w0⟩ := DataW.trod_int Try.underlying5 h2
      obtain ⟨b, rfl⟩ := u8_of w0
      obtain ⟨s, e3, _⟩ := DataW.trod_bool Try.underlying4 h3
      obtain ⟨f, e4⟩ := flt_cells _ _ _ h4
      obtain ⟨keep, v, e5, hk⟩ := rep_sliceT Try.underlying32 h5 (fun b : Bool => [PV.raw (.bool b)]) 1 c4 (by decide) (fun n cs x hx => by
        obtain ⟨q, hq, _⟩ := DataW.trod_bool Try.underlying4 hx
        refine ⟨q, rfl, fun i u hu v hv => ?_⟩
        rw [hq] at hv
        match i, hu, hv with
        | 0, hu, hv => simp at hu hv; subst hu; subst hv; exact raw_bool _
        | i + 1, hu, hv => simp at hu)
      simp at e0 e1 e2 e3 e5
      refine ⟨⟨a0, a1, b, s, f, keep⟩, v, ?_, hk⟩
      show [v0, v1, v2, v3] ++ [v4, v5, v6, v7, v8, v9, v10, v11, v12] ++ [v13] = _
      rw [e0, e1, e2, e3, e4, e5]

set_option maxRecDepth 20000 in
theorem ops_rep {v : Value} {d : DataW H} {ps : List MemPlace} {r : Reach} {b0 : Nat} {ι : Nat → Option Nat}
    (hval : Value.okWide Try.prog W r b0 22 v) (h : DataW.Trod enc Try.prog W 0 spare held 22 v d ps) : ∃ l : List Op06, ARep W (· < W.heap.size) ι (.p (.sl 14 (opx l))) v :=
  rep_slice Try.underlying22 hval h Op06.pv 14 c34 (by decide) fun n cs x hx => by
    obtain ⟨o, w, rfl, hk⟩ := op_cells n cs x hx
    refine ⟨o, rfl, fun i u hu v hv => ?_⟩
    match i, hu, hv with
    | 0, hu, hv => cases hu; cases hv; exact raw_int _ _
    | 1, hu, hv => cases hu; cases hv; exact raw_int _ _
    | 2, hu, hv => cases hu; cases hv; exact raw_int _ _
    | 3, hu, hv => cases hu; cases hv; exact raw_bool _
    | 4, hu, hv => cases hu; cases hv; exact raw_int _ _
    | 5, hu, hv => cases hu; cases hv; exact raw_int _ _
    | 6, hu, hv => cases hu; cases hv; exact raw_int _ _
    | 7, hu, hv => cases hu; cases hv; exact raw_int _ _
    | 8, hu, hv => cases hu; cases hv; exact raw_int _ _
    | 9, hu, hv => cases hu; cases hv; exact raw_int _ _
    | 10, hu, hv => cases hu; cases hv; exact raw_int _ _
    | 11, hu, hv => cases hu; cases hv; exact raw_int _ _
    | 12, hu, hv => cases hu; cases hv; exact raw_int _ _
    | 13, hu, hv => cases hu; cases hv; exact hk
    | i + 14, hu, hv => cases hu

set_option maxRecDepth 20000 in
theorem bools_rep {v : Value} {d : DataW H} {ps : List MemPlace} {r : Reach} {b0 : Nat} {ι : Nat → Option Nat}
    (hval : Value.okWide Try.prog W r b0 32 v) (h : DataW.Trod enc Try.prog W 0 spare held 32 v d ps) : ∃ l : List Bool, ARep W (· < W.heap.size) ι (.p (.sl 1 (kx l))) v :=
  rep_slice Try.underlying32 hval h (fun b : Bool => [PV.raw (.bool b)]) 1 c4 (by decide) fun n cs x hx => by
    obtain ⟨q, hq, _⟩ := DataW.trod_bool Try.underlying4 hx
    refine ⟨q, rfl, fun i u hu v hv => ?_⟩
    rw [hq] at hv
    match i, hu, hv with
    | 0, hu, hv => simp at hu hv; subst hu; subst hv; exact raw_bool _
    | i + 1, hu, hv => simp at hu

set_option maxRecDepth 20000 in
theorem flt_rep {v : Value} {d : DataW H} {ps : List MemPlace} {r : Reach} {b0 : Nat} {ι : Nat → Option Nat}
    (hval : Value.okWide Try.prog W r b0 31 v) (h : DataW.Trod enc Try.prog W 0 spare held 31 v d ps) : ∃ f : Flt, ARep W (· < W.heap.size) ι f.av v := by
  obtain ⟨cs, rfl, hsz⟩ := okWide_struct Try.underlying31 hval
  obtain ⟨n, hn⟩ := h
  obtain ⟨f, hcs⟩ := flt_cells n _ _ hn
  have : cs = f.vals.toArray := by
    cases cs; simpa [Value.cells] using hcs
  subst this
  refine ⟨f, .agg _ _ rfl fun i u hu => ?_⟩
  match i, hu with
  | 0, hu => cases hu; exact rep_int _
  | 1, hu => cases hu; exact rep_int _
  | 2, hu => cases hu; exact rep_int _
  | 3, hu => cases hu; exact rep_int _
  | 4, hu => cases hu; exact rep_int _
  | 5, hu => cases hu; exact rep_u8 _
  | 6, hu => cases hu; exact rep_u8 _
  | 7, hu => cases hu; exact rep_u8 _
  | 8, hu => cases hu; exact rep_u8 _
  | i + 9, hu => cases hu
end
end Go.Proofs.Ytolefphdldmlkaa.AL

/- What lists of faults, of wants, of numbers read as. -/
namespace Go.Proofs.Ytolefphdldmlkaa.AL
open Go Go.RowKit Go.ChangeShapes Go.WideShapes Go.ChangeAt Go.Deep Go.Proofs

section
variable {H : Type} {enc : TypeId × Value → H} {W : World} {spare : Nat → Bool} {held : Bool}
instance : Inhabited Want := ⟨⟨0, 0⟩⟩
theorem c108 : Try.prog.cellsOf 108 = 2 := by kernel_rfl

set_option maxRecDepth 20000 in
theorem flts_rep {v : Value} {d : DataW H} {ps : List MemPlace} {r : Reach} {b0 : Nat} {ι : Nat → Option Nat}
    (hval : Value.okWide Try.prog W r b0 65 v) (h : DataW.Trod enc Try.prog W 0 spare held 65 v d ps) : ∃ l : List Flt, ARep W (· < W.heap.size) ι (.p (.sl 9 (fx l))) v :=
  rep_slice Try.underlying65 hval h Flt.pv 9 c31 (by decide) fun n cs x hx => by
    obtain ⟨f, rfl⟩ := flt_cells n cs x hx
    refine ⟨f, rfl, fun i u hu v hv => ?_⟩
    match i, hu, hv with
    | 0, hu, hv => cases hu; cases hv; exact raw_int _ _
    | 1, hu, hv => cases hu; cases hv; exact raw_int _ _
    | 2, hu, hv => cases hu; cases hv; exact raw_int _ _
    | 3, hu, hv => cases hu; cases hv; exact raw_int _ _
    | 4, hu, hv => cases hu; cases hv; exact raw_int _ _
    | 5, hu, hv => cases hu; cases hv; exact raw_int _ _
    | 6, hu, hv => cases hu; cases hv; exact raw_int _ _
    | 7, hu, hv => cases hu; cases hv; exact raw_int _ _
    | 8, hu, hv => cases hu; cases hv; exact raw_int _ _
    | i + 9, hu, hv => cases hu

set_option maxRecDepth 20000 in
theorem want_cells (n : Nat) (cs : List Value) (x : DataW H × List MemPlace) (h : DataW.trod enc Try.prog W 0 spare held n 108 cs = some x) : ∃ f : Want, cs = [.int .i64 f.at_, .int .u8 (f.b.toNat : Int)] := by
  obtain ⟨xs, m, _, rfl, hl, hlen, hf⟩ := DataW.trod_struct Try.underlying108 h
  rw [c108] at hl
  have h0 := hf 0 _ rfl
  have h1 := hf 1 _ rfl
  match xs, hlen with
  | [y0, y1], _ =>
    match cs, hl with
    | [v0, v1], _ =>
      simp [c3, c5] at h0 h1
      obtain ⟨a0, e0, _⟩ := DataW.trod_int Try.underlying3 h0
      obtain ⟨b0, e1, _, w0⟩ := DataW.trod_int Try.underlying5 h1
      obtain ⟨m0, rfl⟩ := u8_of w0
      simp at e0 e1
      exact ⟨⟨a0, m0⟩, by rw [e0, e1]⟩

set_option maxRecDepth 20000 in
theorem wants_rep {v : Value} {d : DataW H} {ps : List MemPlace} {r : Reach} {b0 : Nat} {ι : Nat → Option Nat}
    (hval : Value.okWide Try.prog W r b0 66 v) (h : DataW.Trod enc Try.prog W 0 spare held 66 v d ps) : ∃ l : List Want, ARep W (· < W.heap.size) ι (.p (.sl 2 (wnx l))) v :=
  rep_slice Try.underlying66 hval h Want.pv 2 c108 (by decide) fun n cs x hx => by
    obtain ⟨f, rfl⟩ := want_cells n cs x hx
    refine ⟨f, rfl, fun i u hu v hv => ?_⟩
    match i, hu, hv with
    | 0, hu, hv => cases hu; cases hv; exact raw_int _ _
    | 1, hu, hv => cases hu; cases hv; exact raw_int _ _
    | i + 2, hu, hv => cases hu

set_option maxRecDepth 20000 in
theorem ints_rep {v : Value} {d : DataW H} {ps : List MemPlace} {r : Reach} {b0 : Nat} {ι : Nat → Option Nat}
    (hval : Value.okWide Try.prog W r b0 60 v) (h : DataW.Trod enc Try.prog W 0 spare held 60 v d ps) : ∃ l : List Int, ARep W (· < W.heap.size) ι (.p (.sl 1 (ix l))) v :=
  rep_slice Try.underlying60 hval h (fun n : Int => [PV.raw (.int .i64 n)]) 1 c3 (by decide) fun n cs x hx => by
    obtain ⟨q, hq, _⟩ := DataW.trod_int Try.underlying3 hx
    refine ⟨q, rfl, fun i u hu v hv => ?_⟩
    rw [hq] at hv
    match i, hu, hv with
    | 0, hu, hv => simp at hu hv; subst hu; subst hv; exact raw_int _ _
    | i + 1, hu, hv => simp at hu
end
end Go.Proofs.Ytolefphdldmlkaa.AL
