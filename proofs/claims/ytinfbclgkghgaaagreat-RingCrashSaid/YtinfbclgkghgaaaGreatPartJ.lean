/- A part of the proof. -/
import Derived.Test.YtinfbclgkghgaaaGreatPartI
/- The layer 11 (ring): the reader: what fits, what is clean, what is told of a number. -/
namespace Go.Proofs.YtinfbclgkghgaaaGreat.AL
open Go Go.Proofs

structure RdS where
  last : Pc
  some_ : Bool
  sum : Int
  torn : Bool
abbrev rdC (vol : Int) (g : GeoV) (a b : List Bytes) (S : RdS) : ABlk := .cells t_ring_reader [i64 vol, i64 g.w, i64 g.s, i64 g.k, i64 g.m, .p (.sl 1 (catX a)), .p (.sl 1 (catX b)), i64 S.last.seq, i64 S.last.epoch, i64 S.last.frm, i64 S.last.chain, i64 S.last.index, i64 S.last.of_, bA S.last.b, bl S.some_, i64 S.sum, bl S.torn]
def fitsS (S : RdS) (p : Pc) : Bool := match p.chain != S.sum || decide (p.epoch < S.last.epoch) with
  | true => false
  | false => match !S.some_ with
    | true => true
    | false => match p.epoch == S.last.epoch with
      | true => p.frm == S.last.frm
      | false => p.frm == p.seq
def cleanM (vol : Int) (g : GeoV) (m slot : Int) (s : Bytes) : Bool := (openB s).2 == 0 && ((openB s).1.vol == vol && (openB s).1.addr == addrB g m slot)
def atS (a : List Bytes) (slot : Int) : Bytes := a.getD slot.toNat []
def cleanB (vol : Int) (g : GeoV) (a b : List Bytes) (slot : Int) : Bool := cleanM vol g 0 slot (atS a slot) || cleanM vol g 1 slot (atS b slot)
def cand1 (vol : Int) (g : GeoV) (m : Int) (a : List Bytes) (seq : Int) : List Pc := match (toldP (atS a (seq.tmod g.w)) vol g m (seq.tmod g.w)).2 && (toldP (atS a (seq.tmod g.w)) vol g m (seq.tmod g.w)).1.seq == seq with
  | true => [(toldP (atS a (seq.tmod g.w)) vol g m (seq.tmod g.w)).1]
  | false => []
def cands (vol : Int) (g : GeoV) (a b : List Bytes) (seq : Int) : List Pc := sort2 (cand1 vol g 0 a seq ++ cand1 vol g 1 b seq)
theorem cand1_len (vol : Int) (g : GeoV) (m : Int) (a : List Bytes) (seq : Int) : (cand1 vol g m a seq).length ≤ 1 := by
  unfold cand1; split <;> simp
theorem cand1_may {vol : Int} {g : GeoV} {m : Int} {a : List Bytes} {seq : Int} {p : Pc} (h : p ∈ cand1 vol g m a seq) : p.may = true ∧ p.seq = seq ∧ toldP (atS a (seq.tmod g.w)) vol g m (seq.tmod g.w) = (p, true) := by
  unfold cand1 at h
  generalize hY : toldP (atS a (seq.tmod g.w)) vol g m (seq.tmod g.w) = Y at h
  obtain ⟨q, t⟩ := Y
  cases hc : t && q.seq == seq with
  | false => rw [hc] at h; simp at h
  | true =>
    rw [hc] at h
    simp only [List.mem_singleton] at h
    subst h
    rw [Bool.and_eq_true] at hc
    have ht : t = true := hc.1
    subst ht
    exact ⟨(toldP_true hY).1.1, by simpa using hc.2, rfl⟩
theorem cands_may {vol : Int} {g : GeoV} {a b : List Bytes} {seq : Int} {p : Pc} (h : p ∈ cands vol g a b seq) : p.may = true ∧ p.seq = seq ∧ (toldP (atS a (seq.tmod g.w)) vol g 0 (seq.tmod g.w) = (p, true) ∨ toldP (atS b (seq.tmod g.w)) vol g 1 (seq.tmod g.w) = (p, true)) := by
  have hm : ∀ l : List Pc, p ∈ sort2 l → p ∈ l := by
    intro l hl
    match l, hl with
    | [], hl => exact hl
    | [x], hl => exact hl
    | [x, y], hl =>
      rw [sort2_eq] at hl
      split at hl
      · simp only [List.mem_cons, List.not_mem_nil, or_false] at hl ⊢; exact hl.symm
      · exact hl
    | _ :: _ :: _ :: _, hl => exact hl
  have h := hm _ h
  rw [List.mem_append] at h
  rcases h with h | h
  · obtain ⟨h1, h2, h3⟩ := cand1_may h; exact ⟨h1, h2, .inl h3⟩
  · obtain ⟨h1, h2, h3⟩ := cand1_may h; exact ⟨h1, h2, .inr h3⟩

set_option maxRecDepth 20000 in
theorem reader_fits (vol : Int) (g : GeoV) (a b : List Bytes) (S : RdS) (p : Pc) : AFm Tryz.prog 1 f_ring_reader_fits [.ref 0 0, p.av] [rdC vol g a b S] (Pure (bl (fitsS S p)) [rdC vol g a b S]) := by
  refine AFm.mono (R := fun r H' => ∃ z, z = fitsS S p ∧ r = bl z ∧ H' = [rdC vol g a b S]) ?_ (by rintro r H' ⟨b, rfl, rfl, rfl⟩; exact ⟨rfl, rfl⟩)
  obtain ⟨last, some_, sum, torn⟩ := S
  have eF : fitsS ⟨last, some_, sum, torn⟩ p = match p.chain != sum || decide (p.epoch < last.epoch) with
    | true => false
    | false => match !some_ with
      | true => true
      | false => match p.epoch == last.epoch with
        | true => p.frm == last.frm
        | false => p.frm == p.seq := rfl
  generalize fitsS ⟨last, some_, sum, torn⟩ p = Z at eF
  refine af_bodyM 1 hT F_ring_reader_fits rfl rfl N_ring_reader_fits rfl rfl ?_
  refine aw_seq (aw_region hT ?_)
  refine aw_wk (wk_boxL 1 p.pv rfl rfl) ?_
  refine aw_seq (aw_block ?_)
  refine aw_cut2 (fun s => ∃ c, c = (p.chain != sum || decide (p.epoch < last.epoch)) ∧ s = ⟨⟨49, [(0, .ref 0 0), (3, .p (.box p.pv)), (5, bl c)]⟩, [rdC vol g a b ⟨last, some_, sum, torn⟩]⟩) (aw_seq ?_) ?_
  · refine aw_draw [] [] hT follows_mixed (by rfl) ?_
    refine aw_cond (boolI (fun h => ?_) (fun h => ?_))
    · have h : (p.chain != sum) = true := h
      exact aw_skip ⟨_, wk_pick [0] [0, 3, 5] rfl, _, by rw [h]; rfl, rfl⟩
    · have h : (p.chain != sum) = false := h
      refine aw_draw [] [] hT follows_mixed (by rfl) ?_
      exact ⟨_, wk_pick [0] [0, 3, 5] rfl, _, by rw [h]; rfl, rfl⟩
  rintro _ ⟨c, hc, rfl⟩
  rw [← hc] at eF
  refine aw_cond (boolI (fun h => ?_) (fun h => ?_))
  · have h : c = true := h
    rw [h] at eF
    refine aw_seq (aw_region hT ?_)
    refine aw_ret ?_
    exact retPick [0] ⟨_, eF.symm, rfl, rfl⟩ rfl
  have h : c = false := h
  rw [h] at eF
  refine aw_seq (aw_region hT ?_)
  refine aw_cond (boolI (fun h1 => ?_) (fun h1 => ?_))
  · have h1 : (!some_) = true := h1
    rw [h1] at eF
    refine aw_seq (aw_region hT ?_)
    refine aw_ret ?_
    exact retPick [0] ⟨_, eF.symm, rfl, rfl⟩ rfl
  have h1 : (!some_) = false := h1
  rw [h1] at eF
  refine aw_seq ?_
  refine aw_draw [] [] hT follows_mixed (by rfl) ?_
  refine aw_cond (boolI (fun h2 => ?_) (fun h2 => ?_))
  · have h2 : (p.epoch == last.epoch) = true := h2
    rw [h2] at eF
    refine aw_seq ?_
    refine aw_draw [] [] hT follows_mixed (by rfl) ?_
    refine aw_ret ?_
    exact retPick [0] ⟨_, eF.symm, rfl, rfl⟩ rfl
  have h2 : (p.epoch == last.epoch) = false := h2
  rw [h2] at eF
  refine aw_skip ?_
  refine aw_seq (aw_region hT ?_)
  refine aw_ret ?_
  exact retPick [0] ⟨_, eF.symm, rfl, rfl⟩ rfl
end Go.Proofs.YtinfbclgkghgaaaGreat.AL

/- The layer 11 (ring): the reader: what is clean; the pieces of a number; which one fits. -/
namespace Go.Proofs.YtinfbclgkghgaaaGreat.AL
open Go Go.Proofs

theorem atS_get {a : List Bytes} {slot : Int} (h0 : 0 ≤ slot) (h : slot < a.length) : (catX a)[slot.toNat]? = some [bP (atS a slot)] ∧ atS a slot ∈ a := by
  have hx := List.getElem?_eq_getElem (show slot.toNat < a.length by omega)
  have e : atS a slot = a[slot.toNat]'(by omega) := by unfold atS; rw [List.getD_eq_getElem?_getD, hx]; rfl
  rw [e]
  exact ⟨catX_get hx, List.getElem_mem _⟩
theorem slot_ok {g : GeoV} (hg : g.may = true) {seq : Int} (h0 : 0 ≤ seq) : 0 ≤ seq.tmod g.w ∧ seq.tmod g.w < g.w := by
  obtain ⟨g1, g2, _⟩ := g.of_may hg
  exact ⟨Int.tmod_nonneg g.w h0, Int.tmod_lt_of_pos seq (by omega)⟩

set_option maxRecDepth 20000 in
theorem reader_clean (vol : Int) (g : GeoV) (a b : List Bytes) (S : RdS) (seq : Int) (hg : g.may = true) (h0 : 0 ≤ seq) (ha : (a.length : Int) = g.w) (hb : (b.length : Int) = g.w) (has : ∀ s ∈ a, s.length ≤ 1000000) (hbs : ∀ s ∈ b, s.length ≤ 1000000) :
    AFm Tryz.prog 1 f_ring_reader_clean [.ref 0 0, i64 seq] [rdC vol g a b S] (Pure (bl (cleanB vol g a b (seq.tmod g.w))) [rdC vol g a b S]) := by
  refine AFm.mono (R := fun r H' => ∃ z, z = cleanB vol g a b (seq.tmod g.w) ∧ r = bl z ∧ H' = [rdC vol g a b S]) ?_ (by rintro r H' ⟨b, rfl, rfl, rfl⟩; exact ⟨rfl, rfl⟩)
  obtain ⟨s0, s1⟩ := slot_ok hg h0
  obtain ⟨g1, g2, _⟩ := g.of_may hg
  have ha2 := atS_get s0 (by omega : seq.tmod g.w < a.length)
  have hb2 := atS_get s0 (by omega : seq.tmod g.w < b.length)
  have w0 := block_Open _ (has _ ha2.2)
  have w1 := block_Open _ (hbs _ hb2.2)
  have r0 := ring_addr g 0 (seq.tmod g.w) (by omega) (by omega) s0 (by omega)
  have r1 := ring_addr g 1 (seq.tmod g.w) (by omega) (by omega) s0 (by omega)
  have eC : cleanB vol g a b (seq.tmod g.w) = (cleanM vol g 0 (seq.tmod g.w) (atS a (seq.tmod g.w)) || cleanM vol g 1 (seq.tmod g.w) (atS b (seq.tmod g.w))) := rfl
  unfold cleanM at eC
  have ha3 := ha2.1
  have hb3 := hb2.1
  clear ha2 hb2
  obtain ⟨last, some_, sum, torn⟩ := S
  generalize cleanB vol g a b (seq.tmod g.w) = Z at eC
  generalize hs : seq.tmod g.w = slot at *
  generalize atS a slot = x at *
  generalize atS b slot = y at *
  generalize openB x = X at *
  generalize openB y = Y at *
  obtain ⟨X, e⟩ := X
  obtain ⟨Y, f⟩ := Y
  have w0 : AF Tryz.prog f_block_Open [bA x] [] (Pure (.tup [X.av, i64 e]) []) := w0
  have w1 : AF Tryz.prog f_block_Open [bA y] [] (Pure (.tup [Y.av, i64 f]) []) := w1
  have eC : Z = ((e == 0 && (X.vol == vol && X.addr == addrB g 0 slot)) || (f == 0 && (Y.vol == vol && Y.addr == addrB g 1 slot))) := eC
  generalize addrB g 0 slot = d0 at *
  generalize addrB g 1 slot = d1 at *
  refine af_bodyM 1 hT F_ring_reader_clean rfl rfl N_ring_reader_clean rfl rfl ?_
  refine aw_seq (aw_region hT ?_)
  refine aw_cut ⟨⟨57, [(0, .ref 0 0), (5, i64 slot)]⟩, [rdC vol g a b ⟨last, some_, sum, torn⟩]⟩ True (aw_region hT ?_) (fun _ => ?_)
  · refine neI (y := g.w) (by omega) ?_
    rw [hs]
    exact ⟨wk_pick [0] [0, 5] rfl, trivial⟩
  refine aw_cut ⟨⟨57, []⟩, [rdC vol g a b ⟨last, some_, sum, torn⟩]⟩ (Z = false) (aw_seq (aw_region hT ?_)) ?_
  · refine aw_block ?_
    refine aw_loopW (fun n s => (n = 2 ∧ s = ⟨⟨57, [(0, .ref 0 0), (5, i64 slot), (20, .agg [.p (.sl 1 (catX a)), .p (.sl 1 (catX b))]), (21, i64 0)]⟩, [rdC vol g a b ⟨last, some_, sum, torn⟩]⟩) ∨ (n = 1 ∧ Z = (f == 0 && (Y.vol == vol && Y.addr == d1)) ∧ s = ⟨⟨57, [(0, .ref 0 0), (5, i64 slot), (20, .agg [.p (.sl 1 (catX a)), .p (.sl 1 (catX b))]), (21, i64 1)]⟩, [rdC vol g a b ⟨last, some_, sum, torn⟩]⟩) ∨ (n = 0 ∧ Z = false ∧ s = ⟨⟨57, [(21, i64 2)]⟩, [rdC vol g a b ⟨last, some_, sum, torn⟩]⟩)) 2 ⟨⟨57, _⟩, _⟩ (wk_pick [0] [0, 5, 20, 21] rfl) (.inl ⟨rfl, rfl⟩) ?_
    rintro n s (⟨rfl, rfl⟩ | ⟨rfl, hZ, rfl⟩ | ⟨rfl, hZ, rfl⟩)
    · refine aw_seq (aw_region hT ?_)
      refine aw_seq (aw_cond ?_)
      refine aw_skip ?_
      refine aw_cut ⟨⟨57, [(0, .ref 0 0), (5, i64 slot), (20, .agg [.p (.sl 1 (catX a)), .p (.sl 1 (catX b))]), (21, i64 0)]⟩, [rdC vol g a b ⟨last, some_, sum, torn⟩]⟩ (Z = (f == 0 && (Y.vol == vol && Y.addr == d1))) (aw_block (aw_seq (aw_region hT ?_))) (fun h => ?_)
      · refine ⟨by decide, ?_⟩
        refine aw_cut ⟨⟨57, [(0, .ref 0 0), (5, i64 slot), (6, i64 0), (8, .ref 1 0), (9, i64 e), (20, .agg [.p (.sl 1 (catX a)), .p (.sl 1 (catX b))]), (21, i64 0)]⟩, [rdC vol g a b ⟨last, some_, sum, torn⟩] ++ [blkC X]⟩ True (aw_region hT ?_) (fun _ => ?_)
        · refine ⟨s0, optI ha3 ?_⟩
          refine callP (af_at w0 _ rfl rfl) ?_
          exact ⟨wk_pick [0, 1] [0, 5, 6, 8, 9, 20, 21] rfl, trivial⟩
        refine aw_seq ?_
        refine aw_draw [] [] hT follows_mixed (by rfl) ?_
        refine boolI (fun h => ?_) (fun h => ?_)
        · have h : (e == 0) = true := h
          refine boolI (fun h1 => ?_) (fun h1 => ?_)
          · have h1 : (X.vol == vol) = true := h1
            refine ⟨_, af_at r0 _ rfl rfl, ?_⟩
            refine aw_cond (boolI (fun h2 => ?_) (fun h2 => ?_))
            · have h2 : (X.addr == d0) = true := h2
              refine aw_seq (aw_region hT ?_)
              refine aw_ret ?_
              exact retPick [0] ⟨_, (by rw [eC, h, h1, h2]; rfl : Z = true).symm, rfl, rfl⟩ rfl
            · have h2 : (X.addr == d0) = false := h2
              exact aw_skip ⟨wk_pick [0] [0, 5, 20, 21] rfl, by rw [eC, h, h1, h2]; rfl⟩
          · have h1 : (X.vol == vol) = false := h1
            refine aw_cond ?_
            exact aw_skip ⟨wk_pick [0] [0, 5, 20, 21] rfl, by rw [eC, h, h1]; rfl⟩
        · have h : (e == 0) = false := h
          refine aw_cond ?_
          exact aw_skip ⟨wk_pick [0] [0, 5, 20, 21] rfl, by rw [eC, h]; rfl⟩
      · refine aw_region hT ?_
        exact ⟨1, by omega, _, wk_pick [0] [0, 5, 20, 21] rfl, .inr (.inl ⟨rfl, h, rfl⟩)⟩
    · refine aw_seq (aw_region hT ?_)
      refine aw_seq (aw_cond ?_)
      refine aw_skip ?_
      refine aw_cut ⟨⟨57, [(0, .ref 0 0), (5, i64 slot), (20, .agg [.p (.sl 1 (catX a)), .p (.sl 1 (catX b))]), (21, i64 1)]⟩, [rdC vol g a b ⟨last, some_, sum, torn⟩]⟩ (Z = false) (aw_block (aw_seq (aw_region hT ?_))) (fun h => ?_)
      · refine ⟨by decide, ?_⟩
        refine aw_cut ⟨⟨57, [(0, .ref 0 0), (5, i64 slot), (6, i64 1), (8, .ref 1 0), (9, i64 f), (20, .agg [.p (.sl 1 (catX a)), .p (.sl 1 (catX b))]), (21, i64 1)]⟩, [rdC vol g a b ⟨last, some_, sum, torn⟩] ++ [blkC Y]⟩ True (aw_region hT ?_) (fun _ => ?_)
        · refine ⟨s0, optI hb3 ?_⟩
          refine callP (af_at w1 _ rfl rfl) ?_
          exact ⟨wk_pick [0, 1] [0, 5, 6, 8, 9, 20, 21] rfl, trivial⟩
        refine aw_seq ?_
        refine aw_draw [] [] hT follows_mixed (by rfl) ?_
        refine boolI (fun h => ?_) (fun h => ?_)
        · have h : (f == 0) = true := h
          refine boolI (fun h1 => ?_) (fun h1 => ?_)
          · have h1 : (Y.vol == vol) = true := h1
            refine ⟨_, af_at r1 _ rfl rfl, ?_⟩
            refine aw_cond (boolI (fun h2 => ?_) (fun h2 => ?_))
            · have h2 : (Y.addr == d1) = true := h2
              refine aw_seq (aw_region hT ?_)
              refine aw_ret ?_
              exact retPick [0] ⟨_, (by rw [hZ, h, h1, h2]; rfl : Z = true).symm, rfl, rfl⟩ rfl
            · have h2 : (Y.addr == d1) = false := h2
              exact aw_skip ⟨wk_pick [0] [0, 5, 20, 21] rfl, by rw [hZ, h, h1, h2]; rfl⟩
          · have h1 : (Y.vol == vol) = false := h1
            refine aw_cond ?_
            exact aw_skip ⟨wk_pick [0] [0, 5, 20, 21] rfl, by rw [hZ, h, h1]; rfl⟩
        · have h : (f == 0) = false := h
          refine aw_cond ?_
          exact aw_skip ⟨wk_pick [0] [0, 5, 20, 21] rfl, by rw [hZ, h]; rfl⟩
      · refine aw_region hT ?_
        exact ⟨0, by omega, _, wk_pick [0] [21] rfl, .inr (.inr ⟨rfl, h, rfl⟩)⟩
    · refine aw_seq (aw_region hT ?_)
      refine aw_seq (aw_cond ?_)
      refine aw_exit ?_
      exact ⟨wk_pick [0] [] rfl, hZ⟩
  intro hZ
  refine aw_seq (aw_region hT ?_)
  refine aw_ret ?_
  exact retPick [0] ⟨_, hZ.symm, rfl, rfl⟩ rfl
end Go.Proofs.YtinfbclgkghgaaaGreat.AL

/- The layer 11 (ring): the reader: the pieces of a number; which one fits. -/
namespace Go.Proofs.YtinfbclgkghgaaaGreat.AL
open Go Go.Proofs

theorem pX_snoc (l : List Pc) (p : Pc) : pX (l ++ [p]) = pX l ++ [p.pv] := by simp [pX]

set_option maxHeartbeats 1000000 in
set_option maxRecDepth 20000 in
theorem reader_told (vol : Int) (g : GeoV) (a b : List Bytes) (S : RdS) (seq : Int) (hg : g.may = true) (h0 : 0 ≤ seq) (ha : (a.length : Int) = g.w) (hb : (b.length : Int) = g.w) (has : ∀ s ∈ a, s.length ≤ 1000000) (hbs : ∀ s ∈ b, s.length ≤ 1000000) :
    AFm Tryz.prog 1 f_ring_reader_told [.ref 0 0, i64 seq] [rdC vol g a b S] (Pure (.p (.sl 7 (pX (cands vol g a b seq)))) [rdC vol g a b S]) := by
  refine AFm.mono (R := fun r H' => ∃ z, z = cands vol g a b seq ∧ r = .p (.sl 7 (pX z)) ∧ H' = [rdC vol g a b S]) ?_ (by rintro r H' ⟨b, rfl, rfl, rfl⟩; exact ⟨rfl, rfl⟩)
  obtain ⟨s0, s1⟩ := slot_ok hg h0
  obtain ⟨g1, g2, _⟩ := g.of_may hg
  have ha2 := atS_get s0 (by omega : seq.tmod g.w < a.length)
  have hb2 := atS_get s0 (by omega : seq.tmod g.w < b.length)
  have w0 := ring_Told _ vol g 0 (seq.tmod g.w) (has _ ha2.2)
  have w1 := ring_Told _ vol g 1 (seq.tmod g.w) (hbs _ hb2.2)
  have eC : cands vol g a b seq = sort2 (cand1 vol g 0 a seq ++ cand1 vol g 1 b seq) := rfl
  have l0 := cand1_len vol g 0 a seq
  have l1 := cand1_len vol g 1 b seq
  have eO : EpOk (cand1 vol g 0 a seq ++ cand1 vol g 1 b seq) := fun p hp => by
    rw [List.mem_append] at hp
    rcases hp with hp | hp
    · have := p.of_may (cand1_may hp).1; omega
    · have := p.of_may (cand1_may hp).1; omega
  have c0 : cand1 vol g 0 a seq = match (toldP (atS a (seq.tmod g.w)) vol g 0 (seq.tmod g.w)).2 && (toldP (atS a (seq.tmod g.w)) vol g 0 (seq.tmod g.w)).1.seq == seq with
    | true => [(toldP (atS a (seq.tmod g.w)) vol g 0 (seq.tmod g.w)).1]
    | false => [] := rfl
  have c1 : cand1 vol g 1 b seq = match (toldP (atS b (seq.tmod g.w)) vol g 1 (seq.tmod g.w)).2 && (toldP (atS b (seq.tmod g.w)) vol g 1 (seq.tmod g.w)).1.seq == seq with
    | true => [(toldP (atS b (seq.tmod g.w)) vol g 1 (seq.tmod g.w)).1]
    | false => [] := rfl
  have ha3 := ha2.1
  have hb3 := hb2.1
  clear ha2 hb2
  obtain ⟨last, some_, sum, torn⟩ := S
  generalize cands vol g a b seq = Z at eC
  generalize cand1 vol g 0 a seq = C0 at eC l0 eO c0
  generalize cand1 vol g 1 b seq = C1 at eC l1 eO c1
  generalize hs : seq.tmod g.w = slot at *
  generalize toldP (atS a slot) vol g 0 slot = X at w0 c0
  generalize toldP (atS b slot) vol g 1 slot = Y at w1 c1
  generalize atS a slot = x at w0 ha3
  generalize atS b slot = y at w1 hb3
  obtain ⟨X, e⟩ := X
  obtain ⟨Y, f⟩ := Y
  have w0 : AF Tryz.prog f_ring_Told [bA x, i64 vol, g.av, i64 0, i64 slot] [] (Pure (.tup [X.av, bl e]) []) := w0
  have w1 : AF Tryz.prog f_ring_Told [bA y, i64 vol, g.av, i64 1, i64 slot] [] (Pure (.tup [Y.av, bl f]) []) := w1
  have c0 : C0 = match e && X.seq == seq with | true => [X] | false => [] := c0
  have c1 : C1 = match f && Y.seq == seq with | true => [Y] | false => [] := c1
  refine af_bodyM 1 hT F_ring_reader_told rfl rfl N_ring_reader_told rfl rfl ?_
  refine aw_seq (aw_region hT ?_)
  refine aw_seq (aw_region hT ?_)
  refine aw_cut ⟨⟨59, [(0, .ref 0 0), (1, i64 seq), (5, .msl 1 7 0 0), (6, i64 slot)]⟩, [rdC vol g a b ⟨last, some_, sum, torn⟩, .row t_api_Piece 7 []]⟩ True (aw_region hT ?_) (fun _ => ?_)
  · refine neI (y := g.w) (by omega) ?_
    rw [hs]
    exact ⟨Wk.trans (wk_phantom t_api_Piece 7) (Wk.trans (wk_nil 5 1 7 0 rfl) (wk_pick [0, 1] [0, 1, 5, 6] rfl)), trivial⟩
  obtain ⟨L, hL⟩ : ∃ L, L = C0 ++ C1 := ⟨_, rfl⟩
  rw [← hL] at eC eO
  have lL : L.length ≤ 2 := by rw [hL, List.length_append]; omega
  have hpl := pX_len L
  refine aw_cut ⟨⟨59, [(5, .msl 1 7 0 L.length)]⟩, [rdC vol g a b ⟨last, some_, sum, torn⟩, .row t_api_Piece 7 (pX L)]⟩ True (aw_seq (aw_region hT ?_)) (fun _ => ?_)
  · refine aw_block ?_
    refine aw_loopW (fun n s => (n = 2 ∧ s = ⟨⟨59, [(0, .ref 0 0), (1, i64 seq), (5, .msl 1 7 0 0), (6, i64 slot), (21, .agg [.p (.sl 1 (catX a)), .p (.sl 1 (catX b))]), (22, i64 0)]⟩, [rdC vol g a b ⟨last, some_, sum, torn⟩, .row t_api_Piece 7 []]⟩) ∨ (n = 1 ∧ s = ⟨⟨59, [(0, .ref 0 0), (1, i64 seq), (5, .msl 1 7 0 (pX C0).length), (6, i64 slot), (21, .agg [.p (.sl 1 (catX a)), .p (.sl 1 (catX b))]), (22, i64 1)]⟩, [rdC vol g a b ⟨last, some_, sum, torn⟩, .row t_api_Piece 7 (pX C0)]⟩) ∨ (n = 0 ∧ s = ⟨⟨59, [(5, .msl 1 7 0 L.length), (22, i64 2)]⟩, [rdC vol g a b ⟨last, some_, sum, torn⟩, .row t_api_Piece 7 (pX L)]⟩)) 2 ⟨⟨59, _⟩, _⟩ (wk_pick [0, 1] [0, 1, 5, 6, 21, 22] rfl) (.inl ⟨rfl, rfl⟩) ?_
    rintro n s (⟨rfl, rfl⟩ | ⟨rfl, rfl⟩ | ⟨rfl, rfl⟩)
    · refine aw_seq (aw_region hT ?_)
      refine aw_seq (aw_cond ?_)
      refine aw_skip ?_
      refine aw_cut ⟨⟨59, [(0, .ref 0 0), (1, i64 seq), (5, .msl 1 7 0 (pX C0).length), (6, i64 slot), (21, .agg [.p (.sl 1 (catX a)), .p (.sl 1 (catX b))]), (22, i64 0)]⟩, [rdC vol g a b ⟨last, some_, sum, torn⟩, .row t_api_Piece 7 (pX C0)]⟩ True (aw_block (aw_seq (aw_region hT ?_))) (fun _ => ?_)
      · refine ⟨by decide, ?_⟩
        refine aw_cut ⟨⟨59, [(0, .ref 0 0), (1, i64 seq), (5, .msl 1 7 0 0), (6, i64 slot), (9, .ref 2 0), (10, bl e), (21, .agg [.p (.sl 1 (catX a)), .p (.sl 1 (catX b))]), (22, i64 0)]⟩, [rdC vol g a b ⟨last, some_, sum, torn⟩, .row t_api_Piece 7 [], pcC X]⟩ True ?_ (fun _ => ?_)
        · refine aw_draw [18, 19] [] hT follows_mixed (by rfl) ?_
          refine ⟨s0, optI ha3 ?_⟩
          refine ⟨_, af_at w0 _ rfl rfl, ?_⟩
          repeat first | refine ⟨rfl, ?_⟩ | refine ⟨⟨_, af_at w0 _ rfl rfl, rfl⟩, ?_⟩ | refine ⟨⟨s0, optI ha3 rfl⟩, ?_⟩
          exact ⟨wk_pick [0, 1, 2] [0, 1, 5, 6, 9, 10, 21, 22] rfl, trivial⟩
        refine aw_seq (aw_region hT ?_)
        refine boolI (fun h => ?_) (fun h => ?_)
        · have h : e = true := h
          refine aw_cond (boolI (fun h1 => ?_) (fun h1 => ?_))
          · have h1 : (X.seq == seq) = true := h1
            refine aw_regionF (fun k => Nat.beq 2 k) hT ?_
            refine ⟨⟨rfl, rfl⟩, ?_⟩
            refine ⟨rfl, ⟨?_, ?_⟩, ?_⟩
            · show (0 + 1) * 72 ≤ 140737488355328
              omega
            · show 0 + 1 ≤ 140737488355328
              omega
            rw [show C0 = [X] by rw [c0, h, h1]; rfl]
            exact ⟨wk_pick [0, 3] [0, 1, 5, 6, 21, 22] rfl, trivial⟩
          · have h1 : (X.seq == seq) = false := h1
            rw [show C0 = [] by rw [c0, h, h1]; rfl]
            exact aw_skip ⟨wk_pick [0, 1] [0, 1, 5, 6, 21, 22] rfl, trivial⟩
        · have h : e = false := h
          refine aw_cond ?_
          rw [show C0 = [] by rw [c0, h]; rfl]
          exact aw_skip ⟨wk_pick [0, 1] [0, 1, 5, 6, 21, 22] rfl, trivial⟩
      · refine aw_region hT ?_
        exact ⟨1, by omega, _, wk_pick [0, 1] [0, 1, 5, 6, 21, 22] rfl, .inr (.inl ⟨rfl, rfl⟩)⟩
    · refine aw_seq (aw_region hT ?_)
      refine aw_seq (aw_cond ?_)
      refine aw_skip ?_
      refine aw_cut ⟨⟨59, [(0, .ref 0 0), (1, i64 seq), (5, .msl 1 7 0 (pX L).length), (6, i64 slot), (21, .agg [.p (.sl 1 (catX a)), .p (.sl 1 (catX b))]), (22, i64 1)]⟩, [rdC vol g a b ⟨last, some_, sum, torn⟩, .row t_api_Piece 7 (pX L)]⟩ True (aw_block (aw_seq (aw_region hT ?_))) (fun _ => ?_)
      · refine ⟨by decide, ?_⟩
        refine aw_cut ⟨⟨59, [(0, .ref 0 0), (1, i64 seq), (5, .msl 1 7 0 (pX C0).length), (6, i64 slot), (9, .ref 2 0), (10, bl f), (21, .agg [.p (.sl 1 (catX a)), .p (.sl 1 (catX b))]), (22, i64 1)]⟩, [rdC vol g a b ⟨last, some_, sum, torn⟩, .row t_api_Piece 7 (pX C0), pcC Y]⟩ True ?_ (fun _ => ?_)
        · refine aw_draw [18, 19] [] hT follows_mixed (by rfl) ?_
          refine ⟨s0, optI hb3 ?_⟩
          refine ⟨_, af_at w1 _ rfl rfl, ?_⟩
          repeat first | refine ⟨rfl, ?_⟩ | refine ⟨⟨_, af_at w1 _ rfl rfl, rfl⟩, ?_⟩ | refine ⟨⟨s0, optI hb3 rfl⟩, ?_⟩
          exact ⟨wk_pick [0, 1, 2] [0, 1, 5, 6, 9, 10, 21, 22] rfl, trivial⟩
        refine aw_seq (aw_region hT ?_)
        refine boolI (fun h => ?_) (fun h => ?_)
        · have h : f = true := h
          refine aw_cond (boolI (fun h1 => ?_) (fun h1 => ?_))
          · have h1 : (Y.seq == seq) = true := h1
            refine aw_regionF (fun k => Nat.beq 2 k) hT ?_
            refine ⟨⟨rfl, rfl⟩, ?_⟩
            refine ⟨rfl, ⟨?_, ?_⟩, ?_⟩
            · show ((pX C0).length + 1) * 72 ≤ 140737488355328
              have := pX_len C0; omega
            · show (pX C0).length + 1 ≤ 140737488355328
              have := pX_len C0; omega
            rw [show L = C0 ++ [Y] by rw [hL, c1, h, h1]; rfl, pX_snoc]
            exact ⟨wk_pick [0, 3] [0, 1, 5, 6, 21, 22] rfl, trivial⟩
          · have h1 : (Y.seq == seq) = false := h1
            rw [show L = C0 by rw [hL, c1, h, h1]; exact List.append_nil _]
            exact aw_skip ⟨wk_pick [0, 1] [0, 1, 5, 6, 21, 22] rfl, trivial⟩
        · have h : f = false := h
          refine aw_cond ?_
          rw [show L = C0 by rw [hL, c1, h]; exact List.append_nil _]
          exact aw_skip ⟨wk_pick [0, 1] [0, 1, 5, 6, 21, 22] rfl, trivial⟩
      · refine aw_region hT ?_
        rw [hpl]
        exact ⟨0, by omega, _, wk_pick [0, 1] [5, 22] rfl, .inr (.inr ⟨rfl, rfl⟩)⟩
    · refine aw_seq (aw_region hT ?_)
      refine aw_seq (aw_cond ?_)
      refine aw_exit ?_
      exact ⟨wk_pick [0, 1] [5] rfl, trivial⟩
  have wS := sort_stable2 L lL eO
  rw [← eC] at wS
  have hZl : (pX Z).length = L.length := by rw [eC, pX_len, sort2_len]
  refine aw_cut ⟨⟨59, [(5, .p (.sl 7 (pX Z)))]⟩, [rdC vol g a b ⟨last, some_, sum, torn⟩]⟩ True (aw_region hT ?_) (fun _ => ?_)
  · refine callP (af_in [1] wS rfl rfl rfl) ?_
    exact ⟨Wk.trans (wk_frzN 5 1 7 _ rfl hZl.symm rfl rfl) (wk_pick [0] [5] rfl), trivial⟩
  refine aw_seq (aw_region hT ?_)
  refine aw_ret ?_
  exact retPick [0] ⟨_, rfl, rfl, rfl⟩ rfl

/-- Which one fits first; -1: none. -/
def idxS (S : RdS) : List Pc → Nat → Int
  | [], _ => -1
  | p :: r, i => match fitsS S p with | true => (i : Int) | false => idxS S r (i + 1)
theorem idxS_drop (S : RdS) (l : List Pc) (i : Nat) (p : Pc) (h : l[i]? = some p) : idxS S (l.drop i) i = match fitsS S p with | true => (i : Int) | false => idxS S (l.drop (i + 1)) (i + 1) := by
  obtain ⟨hi, rfl⟩ := List.getElem?_eq_some_iff.1 h
  rw [List.drop_eq_getElem_cons hi]; rfl

set_option maxRecDepth 20000 in
theorem index_fits (vol : Int) (g : GeoV) (a b : List Bytes) (S : RdS) (l : List Pc) (hl : l.length ≤ 1000) :
    AFm Tryz.prog 1 f_slices_IndexFunc_api_Piece [.p (.sl 7 (pX l)), .mth (.func f_ring_reader_fits) [.ref 0 0]] [rdC vol g a b S] (Pure (i64 (idxS S l 0)) [rdC vol g a b S]) := by
  refine AFm.mono (R := fun r H' => ∃ z, z = idxS S l 0 ∧ r = i64 z ∧ H' = [rdC vol g a b S]) ?_ (by rintro r H' ⟨b, rfl, rfl, rfl⟩; exact ⟨rfl, rfl⟩)
  have hpl := pX_len l
  refine af_bodyM 1 hT F_slices_IndexFunc_api_Piece rfl rfl N_slices_IndexFunc_api_Piece rfl rfl ?_
  refine aw_seq (aw_region hT ?_)
  refine aw_cut ⟨⟨19, []⟩, [rdC vol g a b S]⟩ (idxS S l 0 = -1) (aw_seq (aw_region hT ?_)) ?_
  · refine aw_block ?_
    refine aw_loopW (fun n s => ∃ (i : Nat) (j : Int), n + i = l.length ∧ j = i ∧ idxS S l 0 = idxS S (l.drop i) i ∧ s = ⟨⟨19, [(0, .p (.sl 7 (pX l))), (1, .mth (.func f_ring_reader_fits) [.ref 0 0]), (7, i64 (pX l).length), (8, i64 j)]⟩, [rdC vol g a b S]⟩) l.length ⟨⟨19, _⟩, _⟩ (wk_pick [0] [0, 1, 7, 8] rfl) ⟨0, 0, rfl, rfl, rfl, rfl⟩ ?_
    rintro n s ⟨i, j, hni, rfl, hI, rfl⟩
    refine aw_seq (aw_region hT ?_)
    refine aw_seq (aw_cond (boolI (fun h => ?_) (fun h => ?_)))
    · have hi : i < l.length := by
        have := of_decide_eq_true (show decide ((i : Int) < ((pX l).length : Int)) = true from h)
        omega
      have hx := List.getElem?_eq_getElem hi
      generalize l[i] = p at hx
      have hxp : (pX l)[((i : Nat) : Int).toNat]? = some p.pv := by rw [Int.toNat_natCast]; exact pX_get hx
      rw [idxS_drop S l i p hx] at hI
      have w := reader_fits vol g a b S p
      generalize fitsS S p = c at w hI
      refine aw_skip ?_
      refine aw_cut ⟨⟨19, [(0, .p (.sl 7 (pX l))), (1, .mth (.func f_ring_reader_fits) [.ref 0 0]), (7, i64 (pX l).length), (8, i64 i)]⟩, [rdC vol g a b S]⟩ (c = false) (aw_block (aw_seq (aw_region hT ?_))) (fun h => ?_)
      · refine aw_seq (aw_region hT ?_)
        refine ⟨Int.natCast_nonneg _, optI hxp ?_⟩
        refine callP (af_in [0] w rfl rfl rfl) ?_
        refine aw_cond (boolI (fun h => ?_) (fun h => ?_))
        · have h : c = true := h
          rw [h] at hI
          refine aw_seq (aw_region hT ?_)
          refine aw_ret ?_
          exact retPick [0] ⟨_, hI.symm, rfl, rfl⟩ rfl
        · have h : c = false := h
          exact aw_skip ⟨wk_pick [0] [0, 1, 7, 8] rfl, h⟩
      · rw [h] at hI
        refine aw_region hT ?_
        refine ⟨n - 1, by omega, _, wk_pick [0] [0, 1, 7, 8] rfl, i + 1, IntKind.i64.wrap ((i : Int) + 1), by omega, ?_, hI, rfl⟩
        rw [wrap64 _ (by omega) (by omega)]; rfl
    · have hi : ¬ (i : Int) < ((pX l).length : Int) := of_decide_eq_false h
      rw [List.drop_eq_nil_of_le (by omega)] at hI
      refine aw_exit ?_
      exact ⟨wk_pick [0] [] rfl, hI⟩
  intro hI
  refine aw_seq (aw_region hT ?_)
  refine aw_ret ?_
  exact retPick [0] ⟨_, hI.symm, rfl, rfl⟩ rfl
end Go.Proofs.YtinfbclgkghgaaaGreat.AL

/- The layer: a row that a cell holds becomes immutable. -/
namespace Go.Proofs.YtinfbclgkghgaaaGreat.AL
open Go Go.RowKit

theorem wk_frzC {m : Nat} {s : St} (b c o len : Nat) {t t2 : TypeId} {sz : Nat} {xs : List (List PV)} {l : List AV} (hb : s.H[b]? = some (.row t sz xs)) (hc : s.H[c]? = some (.cells t2 l)) (hl : l[o]? = some (.msl b sz 0 len)) (hlen : len = xs.length) :
    Wk m s ⟨s.fr, (s.H.set b .dead).set c (.cells t2 (l.set o (.p (.sl sz xs))))⟩ := fun N w I ι a hs hm => by
  subst hlen
  have hlive : live s.H b := ⟨_, hb, rfl⟩
  have hbc : b ≠ c := fun e => by subst e; rw [hb] at hc; cases hc
  obtain ⟨k1, k2⟩ := hs.H.freeze b hlive
  have hblk := hs.H.blk b _ hb
  have hcb := hs.H.blk c _ hc
  have hlivec : live (s.H.set b .dead) c := ⟨_, by rw [List.getElem?_set_ne hbc]; exact hc, rfl⟩
  have hsl : ∀ (n : Nat) (v : Value), n = xs.length → ARep w I ι (.msl b sz 0 n) v → PRep w (fun C => I C ∨ ι b = some C) (.sl sz xs) v := by
    intro n v hn hu
    cases hu with
    | msl _ _ _ _ B cc hB hcc hsz =>
      rcases hblk with ⟨_, g1⟩ | ⟨B', cs, g1, g2, g3, g4, gl, g6⟩
      · rw [g1] at hB; exact absurd hB (by simp)
      · rw [g1] at hB; obtain rfl := Option.some.inj hB
        have := row_sl (xs := xs) (I2 := fun C => I C ∨ ι b = some C) (off := 0) (len := n) (fun _ h => Or.inl h) (Or.inr g1) g2 g4 gl g6 (by omega) hcc
        rw [List.drop_zero, hn, List.take_length] at this
        rw [hn]
        exact this
    | msl0 _ _ _ A =>
      have hx : xs = [] := List.length_eq_zero_iff.1 hn.symm
      subst hx
      exact PRep.sl (w := w) sz [] A 0 (fun _ _ => undef) (by simp) (by simp) (.inl rfl) (fun j e i u h => by simp at h)
  have hlv : ∀ d, live ((s.H.set b .dead).set c (.cells t2 (l.set o (.p (.sl sz xs))))) d → live (s.H.set b .dead) d := fun d hd => live_set hd hlivec
  have hsim : SimH w (fun C => I C ∨ ι b = some C) ι ((s.H.set b .dead).set c (.cells t2 (l.set o (.p (.sl sz xs))))) := by
    refine ⟨fun d k hd => ?_, fun d d' B hd hd' => k1.inj d d' B (hlv d hd) (hlv d' hd'), k1.Ilt, fun d hd => k1.dom d (by simpa using hd), k1.rng⟩
    by_cases e : d = c
    · subst e
      rw [List.getElem?_set_self (live_lt hlivec)] at hd
      obtain rfl := Option.some.inj hd
      obtain ⟨B, cs, g1, g2, g3, g4, g5⟩ := hcb
      have h0 := k1.blk d (.cells t2 l) (by rw [List.getElem?_set_ne hbc]; exact hc)
      obtain ⟨B', cs', f1, f2, f3, f4, f5⟩ := h0
      rw [g1] at f1; obtain rfl := Option.some.inj f1
      rw [g2] at f2; obtain ⟨rfl, _⟩ := Obj.cells.inj (Option.some.inj f2)
      refine ⟨B, cs, g1, g2, f3, by rw [List.length_set]; exact g4, fun i u hu => ?_⟩
      rw [List.getElem?_set] at hu
      split at hu
      · rename_i e2; subst e2
        split at hu
        · obtain rfl := Option.some.inj hu
          exact .p (hsl _ _ rfl (g5 o _ hl))
        · cases hu
      · exact f5 i u hu
    · rw [List.getElem?_set_ne (by omega)] at hd
      exact k1.blk d k hd
  have hx : Ex m w I ι s.H w (fun C => I C ∨ ι b = some C) ι ((s.H.set b .dead).set c (.cells t2 (l.set o (.p (.sl sz xs))))) := by
    have hx2 : Ex m w (fun C => I C ∨ ι b = some C) ι (s.H.set b .dead) w (fun C => I C ∨ ι b = some C) ι ((s.H.set b .dead).set c (.cells t2 (l.set o (.p (.sl sz xs))))) := ⟨⟨rfl, rfl, rfl, Nat.le_refl _, Shape.refl w, fun _ h => h, fun _ _ _ => rfl, fun _ h => .inl h, fun c B hc h => .inr ⟨c, hlv c hc, h⟩⟩, fun _ _ => rfl, by simpa using hm⟩
    exact (k2.less hm).trans hx2
  exact ⟨_, ι, hs.turn ⟨hs.fr.1, fun i u hu => (hs.fr.2 i u hu).move (fun _ _ => rfl) (fun _ h => .inl h) (fun _ _ h => h) (Shape.refl w)⟩ hsim hx, hx⟩

/-- The same within a struct that is handed on. -/
theorem af_argAgg {P : Program} {f : FuncId} {l l1 rest : List AV} {H : List ABlk} {R : AV → List ABlk → Prop} (h : AF P f (.agg l1 :: rest) H R) (ha : ArgL l l1) : AF P f (.agg l :: rest) H R := by
  obtain ⟨k1, k2⟩ := ha.get
  refine ⟨h.1, fun w I ι vals hn hv hs => h.2 w I ι vals (by simpa using hn) (fun i u1 hu1 => ?_) hs⟩
  cases i with
  | succ i => exact hv (i + 1) u1 hu1
  | zero =>
    simp only [List.getElem?_cons_zero, Option.some.injEq] at hu1
    subst hu1
    have h0 := hv 0 (.agg l) rfl
    generalize vals.getD 0 undef = x at h0
    cases h0 with
    | agg _ vs hvn hr =>
      refine .agg l1 vs (by omega) fun i u1 hu1 => ?_
      obtain ⟨u, hu, h1⟩ := k2 i u1 hu1
      rcases h1 with rfl | ⟨rfl, sz, rfl⟩
      · exact hr i _ hu
      · rw [rep_raw (hr i _ hu)]
        exact .p (PRep.sl sz [] none 0 (fun _ _ => undef) (by simp) (by simp) (.inl rfl) (fun j e i u h => by simp at h))
end Go.Proofs.YtinfbclgkghgaaaGreat.AL

/- The layer 11 (ring), plain: what a log tells; the blocks of a reader at work. -/
namespace Go.Proofs.YtinfbclgkghgaaaGreat.AL
open Go Go.Proofs

structure Fol where
  txs : List Bytes
  next : Int
  chain : Int
  epoch : Int
  tx : Bytes
  index : Int
  of_ : Int
  ended : Bool
def odd (F : Fol) (p : Pc) : Bool := F.ended || (p.index != F.index || (decide (F.index > 0) && p.of_ != F.of_))
def stepF (F : Fol) (p : Pc) (s : Int) : Fol := match odd F p with
  | true => { F with epoch := p.epoch, ended := true }
  | false => match F.index + 1 == p.of_ with
    | true => { F with epoch := p.epoch, txs := F.txs ++ [F.tx ++ p.b], next := p.seq + 1, chain := s, tx := [], index := 0, of_ := p.of_ }
    | false => { F with epoch := p.epoch, tx := F.tx ++ p.b, of_ := p.of_, index := F.index + 1 }
def sumP (vol : Int) (g : GeoV) (p : Pc) : Int := ((Crc.sum (p.sector vol g 0).1).toNat : Int)
def pickS (S : RdS) (l : List Pc) : Option Pc := l.find? (fitsS S)
theorem idxS_pick (S : RdS) : ∀ (l : List Pc) (i : Nat), match pickS S l with
    | none => idxS S l i = -1
    | some p => ∃ k, idxS S l i = ((i + k : Nat) : Int) ∧ l[k]? = some p
  | [], i => rfl
  | p :: r, i => by
    unfold pickS idxS
    rw [List.find?_cons]
    cases h : fitsS S p with
    | true => exact ⟨0, rfl, rfl⟩
    | false =>
      have := idxS_pick S r (i + 1)
      unfold pickS at this
      cases h2 : r.find? (fitsS S) with
      | none => rw [h2] at this; exact this
      | some q =>
        rw [h2] at this
        obtain ⟨k, h3, h4⟩ := this
        exact ⟨k + 1, by show idxS S r (i + 1) = _; rw [h3]; congr 1; omega, by rw [List.getElem?_cons_succ]; exact h4⟩
def goS (vol : Int) (g : GeoV) (a b : List Bytes) : Nat → Int → RdS × Fol → RdS × Fol
  | 0, _, x => x
  | n + 1, seq, x => match pickS x.1 (cands vol g a b seq) with
    | none => ({ x.1 with torn := (cands vol g a b seq).isEmpty && !cleanB vol g a b (seq.tmod g.w) }, x.2)
    | some p => goS vol g a b n (seq + 1) (⟨p, true, sumP vol g p, x.1.torn⟩, stepF x.2 p (sumP vol g p))
/-- What was gone through is not too much. -/
structure FolOk (F : Fol) (k : Nat) : Prop where
  tx : F.tx.length ≤ 200 * k
  txs : F.txs.length ≤ k
  i0 : 0 ≤ F.index
  ik : F.index ≤ k
theorem stepF_ok {F : Fol} {k : Nat} (h : FolOk F k) {p : Pc} (hp : p.may = true) (s : Int) : FolOk (stepF F p s) (k + 1) := by
  have hb := (p.of_may hp).2.2.2.2.2.2.2.2.2
  obtain ⟨h1, h2, h3, h4⟩ := h
  unfold stepF
  split
  · exact ⟨by show F.tx.length ≤ _; omega, by show F.txs.length ≤ _; omega, h3, by show F.index ≤ _; omega⟩
  · split
    · exact ⟨Nat.zero_le _, by show (F.txs ++ [_]).length ≤ _; rw [List.length_append]; simp only [List.length_cons, List.length_nil]; omega, Int.le_refl _, by show (0 : Int) ≤ _; omega⟩
    · exact ⟨by show (F.tx ++ p.b).length ≤ _; rw [List.length_append]; omega, by show F.txs.length ≤ _; omega, by show 0 ≤ F.index + 1; omega, by show F.index + 1 ≤ _; omega⟩

abbrev folJ (vol : Int) (g : GeoV) (a b : List Bytes) (L : ABlk) (x : RdS × Fol) : List ABlk :=
  [rdC vol g a b x.1, .cells t_p_ring_reader [.ref 0 0], .cells t_api_Tail [.msl 9 1 0 (catX x.2.txs).length, i64 x.2.next, i64 x.2.chain, i64 x.2.epoch], .cells t_s_u8 [.msl 10 1 0 (bx x.2.tx).length],
   .cells t_i64 [i64 x.2.index], .cells t_i64 [i64 x.2.of_], .cells t_bool [bl x.2.ended], .cells t_api_Tail [.p (.raw (.slice none 0 0)), i64 0, i64 0, i64 0], L, .row t_s_u8 1 (catX x.2.txs), .row t_u8 1 (bx x.2.tx)]
abbrev folK (vol : Int) (g : GeoV) (a b : List Bytes) (L : ABlk) (x : RdS × Fol) : List ABlk :=
  [rdC vol g a b x.1, .cells t_p_ring_reader [.ref 0 0], .cells t_api_Tail [.msl 11 1 0 (catX x.2.txs).length, i64 x.2.next, i64 x.2.chain, i64 x.2.epoch], .cells t_s_u8 [.msl 12 1 0 (bx x.2.tx).length],
   .cells t_i64 [i64 x.2.index], .cells t_i64 [i64 x.2.of_], .cells t_bool [bl x.2.ended], .cells t_api_Tail [.p (.raw (.slice none 0 0)), i64 0, i64 0, i64 0], L, .dead, .dead, .row t_s_u8 1 (catX x.2.txs), .row t_u8 1 (bx x.2.tx)]

theorem fol_pad {vol : Int} {g : GeoV} {a b : List Bytes} {args : List AV} {q : RecK} {l : List AV} {x y : RdS × Fol} (hl : belowL 9 l = true) (ha : belowL 0 args = true)
    (h : AYm Tryz.prog 9 8 args (folJ vol g a b (.lp q .ready none l) x) (fun r H' => r = bl true ∧ H' = folJ vol g a b (.lp q .ready none l) y)) :
    AY Tryz.prog 8 args (folJ vol g a b (.lp q .ready none l) x) (fun r H' => r = bl true ∧ H' = folK vol g a b (.lp q .ready none l) y) := by
  have hid : ∀ c, c < 9 → rho 11 [0, 1, 2, 3, 4, 5, 6, 7, 8, 9, 10] c = c := fun c hc => by
    rcases c with _ | _ | _ | _ | _ | _ | _ | _ | _ | c
    all_goals first | rfl | omega
  have hid2 : ∀ c, c < 9 → rho2 11 [0, 1, 2, 3, 4, 5, 6, 7, 8] c = c := fun c hc => by
    rcases c with _ | _ | _ | _ | _ | _ | _ | _ | _ | c
    all_goals first | rfl | omega
  refine ay_pad [0, 1, 2, 3, 4, 5, 6, 7, 8, 9, 10] h ⟨rfl, by decide, ?_⟩ (show ∀ p ∈ [0, 1, 2, 3, 4, 5, 6, 7, 8, 9, 10], p < 11 by decide) (by decide) rfl (ren_idL (fun c hc => absurd hc (by omega)) args ha).symm ?_
  · intro c k hk
    right
    rcases c with _ | _ | _ | _ | _ | _ | _ | _ | _ | _ | _ | c
    · obtain rfl := Option.some.inj hk; exact ⟨0, rfl, rfl⟩
    · obtain rfl := Option.some.inj hk; exact ⟨1, rfl, rfl⟩
    · obtain rfl := Option.some.inj hk; exact ⟨2, rfl, rfl⟩
    · obtain rfl := Option.some.inj hk; exact ⟨3, rfl, rfl⟩
    · obtain rfl := Option.some.inj hk; exact ⟨4, rfl, rfl⟩
    · obtain rfl := Option.some.inj hk; exact ⟨5, rfl, rfl⟩
    · obtain rfl := Option.some.inj hk; exact ⟨6, rfl, rfl⟩
    · obtain rfl := Option.some.inj hk; exact ⟨7, rfl, rfl⟩
    · obtain rfl := Option.some.inj hk
      refine ⟨8, rfl, ?_⟩
      show some (ABlk.lp q .ready none l) = some (ABlk.lp q .ready none (renL (rho 11 [0, 1, 2, 3, 4, 5, 6, 7, 8, 9, 10]) l))
      rw [ren_idL hid l hl]
    · obtain rfl := Option.some.inj hk; exact ⟨9, rfl, rfl⟩
    · obtain rfl := Option.some.inj hk; exact ⟨10, rfl, rfl⟩
    · simp at hk
  · rintro r1 H1' ⟨rfl, rfl⟩
    refine ⟨show 9 ≤ 11 by decide, rfl, ?_⟩
    show [_, _, _, _, _, _, _, _, ABlk.lp q .ready none (renL (rho2 11 [0, 1, 2, 3, 4, 5, 6, 7, 8]) l), _, _, _, _] = _
    rw [ren_idL hid2 l hl]
    rfl

theorem reader_pieces (vol : Int) (g : GeoV) (a b : List Bytes) (S : RdS) (start : Int) : AFm Tryz.prog 1 f_ring_reader_pieces [.ref 0 0, i64 start] [rdC vol g a b S] (Pure (.clo (.func f_ring_reader_pieces_1) [.p (.box [.raw (.int .i64 start)]), .ref 1 0]) [rdC vol g a b S, .cells t_p_ring_reader [.ref 0 0]]) := by
  refine af_bodyM 1 hT F_ring_reader_pieces rfl rfl N_ring_reader_pieces rfl rfl ?_
  refine aw_seq (aw_region hT ?_)
  refine aw_wk (wk_boxL 2 [.raw (.int .i64 start)] rfl rfl) ?_
  refine aw_seq (aw_region hT ?_)
  refine aw_ret ?_
  exact retPick [0, 1] ⟨rfl, rfl⟩ rfl
end Go.Proofs.YtinfbclgkghgaaaGreat.AL

/- The layer 11 (ring): the reader goes through the pieces. -/
namespace Go.Proofs.YtinfbclgkghgaaaGreat.AL
open Go Go.Proofs

abbrev LogOk (vol : Int) (g : GeoV) (a b : List Bytes) : Prop := g.may = true ∧ wordB vol = true ∧ (a.length : Int) = g.w ∧ (b.length : Int) = g.w ∧ (∀ s ∈ a, s.length ≤ 1000000) ∧ ∀ s ∈ b, s.length ≤ 1000000

set_option maxHeartbeats 1000000 in
set_option maxRecDepth 20000 in
theorem pieces_seq (vol : Int) (g : GeoV) (a b : List Bytes) (start : Int) (x0 : RdS × Fol) (q : RecK) (l : List AV) (hl : belowL 9 l = true) (hok : LogOk vol g a b) (hs0 : 0 ≤ start) (hs1 : start ≤ 4294967295) (hF : FolOk x0.2 0)
    (hy : ∀ (S : RdS) (F : Fol) (p : Pc) (s : Int) (k : Nat), k ≤ 512 → FolOk F k → p.may = true → AYm Tryz.prog 9 8 [p.av, i64 s] (folJ vol g a b (.lp q .ready none l) (S, F)) (fun r H' => r = bl true ∧ H' = folJ vol g a b (.lp q .ready none l) (S, stepF F p s))) :
    AFm Tryz.prog 9 f_ring_reader_pieces_1 [.yld 8, .p (.box [.raw (.int .i64 start)]), .ref 1 0] (folJ vol g a b (.lp q .ready none l) x0) (fun _ H' => H' = folJ vol g a b (.lp q .ready none l) (goS vol g a b g.w.toNat start x0)) := by
  obtain ⟨hg, hv, ha, hb, has, hbs⟩ := hok
  obtain ⟨g1, g2, _⟩ := g.of_may hg
  obtain ⟨X, hX⟩ : ∃ X, X = goS vol g a b g.w.toNat start x0 := ⟨_, rfl⟩
  rw [← hX]
  have hwW : IntKind.i64.wrap (start + g.w) = start + g.w := wrap64 _ (by omega) (by omega)
  refine af_bodyM 9 hT F_ring_reader_pieces_1 rfl rfl N_ring_reader_pieces_1 rfl rfl ?_
  refine aw_seq (aw_region hT ?_)
  refine aw_block ?_
  refine aw_loopW (fun n st => ∃ (k : Nat) (seq : Int) (S : RdS) (F : Fol), n + k = g.w.toNat ∧ seq = start + k ∧ FolOk F k ∧ X = goS vol g a b n seq (S, F) ∧ st = ⟨⟨84, [(0, .yld 8), (1, .p (.box [.raw (.int .i64 start)])), (2, .ref 1 0), (4, i64 seq)]⟩, folJ vol g a b (.lp q .ready none l) (S, F)⟩) g.w.toNat ⟨⟨84, _⟩, _⟩ (wk_keep [0, 1, 2, 4]) ⟨0, start, x0.1, x0.2, by omega, by omega, hF, hX, rfl⟩ ?_
  rintro n st ⟨k, seq, S, F, hnk, hseq, hFk, hgo, rfl⟩
  refine aw_seq (aw_seq ?_)
  refine aw_draw [] [] hT follows_mixed (by rfl) ?_
  refine aw_cond (boolI (fun h => ?_) (fun h => ?_))
  · have h := of_decide_eq_true (show decide (seq < IntKind.i64.wrap (start + g.w)) = true from h)
    rw [hwW] at h
    obtain ⟨n, rfl⟩ : ∃ m, n = m + 1 := ⟨n - 1, by omega⟩
    have wt := reader_told vol g a b S seq hg (by omega) ha hb has hbs
    have wc := reader_clean vol g a b S seq hg (by omega) ha hb has hbs
    have hcm := fun p (hp : p ∈ cands vol g a b seq) => (cands_may hp).1
    have hcl : (cands vol g a b seq).length ≤ 2 := by
      unfold cands
      rw [sort2_len, List.length_append]
      have := cand1_len vol g 0 a seq
      have := cand1_len vol g 1 b seq
      omega
    have e : goS vol g a b (n + 1) seq (S, F) = match pickS S (cands vol g a b seq) with
      | none => ({ S with torn := (cands vol g a b seq).isEmpty && !cleanB vol g a b (seq.tmod g.w) }, F)
      | some p => goS vol g a b n (seq + 1) (⟨p, true, sumP vol g p, S.torn⟩, stepF F p (sumP vol g p)) := rfl
    rw [e] at hgo
    have hix := idxS_pick S (cands vol g a b seq) 0
    have wi := index_fits vol g a b S (cands vol g a b seq) (by omega)
    generalize cands vol g a b seq = C at wt hcm hcl hgo hix wi
    generalize cleanB vol g a b (seq.tmod g.w) = cl at wc hgo
    have hpl := pX_len C
    refine aw_skip ?_
    refine aw_cut2 (fun st => ∃ (p : Pc) (sm : Int) (F2 : Fol), p.may = true ∧ stepF F p sm = F2 ∧ X = goS vol g a b n (seq + 1) (⟨p, true, sm, S.torn⟩, F2) ∧ st = ⟨⟨84, [(0, .yld 8), (1, .p (.box [.raw (.int .i64 start)])), (2, .ref 1 0), (4, i64 seq)]⟩, folJ vol g a b (.lp q .ready none l) (⟨p, true, sm, S.torn⟩, F2)⟩) (aw_block ?_) ?_
    · refine aw_cut ⟨⟨84, [(0, .yld 8), (1, .p (.box [.raw (.int .i64 start)])), (2, .ref 1 0), (4, i64 seq), (5, .p (.sl 7 (pX C)))]⟩, folJ vol g a b (.lp q .ready none l) (S, F)⟩ True (aw_region hT ?_) (fun _ => ?_)
      · refine callP (af_in [0] wt rfl rfl rfl) ?_
        exact ⟨wk_keep [0, 1, 2, 4, 5], trivial⟩
      obtain ⟨ix, hixe⟩ : ∃ ix, ix = idxS S C 0 := ⟨_, rfl⟩
      rw [← hixe] at wi hix
      refine aw_cut ⟨⟨84, [(0, .yld 8), (1, .p (.box [.raw (.int .i64 start)])), (2, .ref 1 0), (4, i64 seq), (5, .p (.sl 7 (pX C))), (6, i64 ix)]⟩, folJ vol g a b (.lp q .ready none l) (S, F)⟩ True (aw_region hT ?_) (fun _ => ?_)
      · refine callP (af_in [0] wi rfl rfl rfl) ?_
        exact ⟨wk_keep [0, 1, 2, 4, 5, 6], trivial⟩
      cases hp : pickS S C with
      | none =>
        rw [hp] at hix hgo
        have hix : ix = -1 := hix
        subst hix
        refine aw_seq (aw_seq (aw_region hT ?_))
        refine aw_cond ?_
        refine aw_seq ?_
        refine aw_draw [12] [] hT follows_mixed (by rfl) ?_
        refine boolI (fun h1 => ?_) (fun h1 => ?_)
        · have h1 : ((((pX C).length : Nat) : Int) == 0) = true := h1
          have hC : C.isEmpty = true := by
            have : ((pX C).length : Int) = 0 := by simpa using h1
            exact List.isEmpty_iff_length_eq_zero.2 (by omega)
          refine ⟨_, af_in [0] wc rfl rfl rfl, ?_⟩
          refine aw_ret ?_
          exact ⟨_, _, wk_keep [0], by rw [hgo, hC]; rfl⟩
        · have h1 : ((((pX C).length : Nat) : Int) == 0) = false := h1
          have hC : C.isEmpty = false := by
            cases hc : C.isEmpty with
            | false => rfl
            | true =>
              have h2 := List.isEmpty_iff_length_eq_zero.1 hc
              rw [show ((pX C).length : Int) = 0 by omega] at h1
              exact absurd h1 (by decide)
          refine aw_ret ?_
          exact ⟨_, _, wk_keep [0], by rw [hgo, hC]; rfl⟩
      | some p =>
        rw [hp] at hix hgo
        obtain ⟨kk, hik, hxp⟩ := hix
        have hpm := hcm p (List.mem_of_getElem? hxp)
        have hi0 : 0 ≤ ix := by omega
        have hxp2 : (pX C)[ix.toNat]? = some p.pv := by
          rw [show ix.toNat = kk by omega]; exact pX_get hxp
        have ws := ring_Sector vol g 0 p
        have wsl : (p.sector vol g 0).1.length ≤ 1000000 := by
          rw [(sectorP_ok hpm hg hv (Int.le_refl 0) (by omega)).1]
          show (sealB _).length ≤ _
          rw [sealB_len, all_len _ (by show (pcB p).length ≤ 228; have := pcB_len hpm; omega)]; omega
        have wsum := crc_Sum (p.sector vol g 0).1 wsl
        have hgo : X = goS vol g a b n (seq + 1) (⟨p, true, sumP vol g p, S.torn⟩, stepF F p (sumP vol g p)) := hgo
        have esum : ((Crc.sum (p.sector vol g 0).1).toNat : Int) = sumP vol g p := rfl
        rw [esum] at wsum
        refine aw_seq (aw_seq (aw_region hT ?_))
        refine aw_cond (boolI (fun h1 => ?_) (fun h1 => ?_))
        · have h1 := of_decide_eq_true (show decide (ix < 0) = true from h1)
          omega
        refine aw_skip ?_
        generalize p.sector vol g 0 = Y at ws wsum
        obtain ⟨t, f⟩ := Y
        have ws : AF Tryz.prog f_ring_Sector [i64 vol, g.av, i64 0, p.av] [] (Pure (.tup [bA t, i64 f]) []) := ws
        have wsum : AF Tryz.prog f_crc_Sum [bA t] [] (Pure (i64 (sumP vol g p)) []) := wsum
        have wy := fol_pad hl rfl (hy ⟨p, true, sumP vol g p, S.torn⟩ F p (sumP vol g p) k (by omega) hFk hpm)
        generalize hsm : sumP vol g p = sm at wsum hgo wy
        generalize hF2 : stepF F p sm = F2 at hgo wy
        refine aw_cut ⟨⟨84, [(0, .yld 8), (1, .p (.box [.raw (.int .i64 start)])), (2, .ref 1 0), (4, i64 seq), (5, .p (.sl 7 (pX C))), (6, i64 ix), (7, bA t)]⟩, folJ vol g a b (.lp q .ready none l) (S, F)⟩ True ?_ (fun _ => ?_)
        · refine aw_draw [] [] hT follows_mixed (by rfl) ?_
          refine ⟨hi0, optI hxp2 ?_⟩
          refine ⟨_, af_at ws _ rfl rfl, ?_⟩
          exact ⟨wk_keep [0, 1, 2, 4, 5, 6, 7], trivial⟩
        refine aw_cut ⟨⟨84, [(0, .yld 8), (1, .p (.box [.raw (.int .i64 start)])), (2, .ref 1 0), (4, i64 seq)]⟩, folJ vol g a b (.lp q .ready none l) (⟨p, true, sm, S.torn⟩, F)⟩ True ?_ (fun _ => ?_)
        · refine aw_draw [11, 14, 17] [] hT follows_mixed (by rfl) ?_
          refine ⟨hi0, optI hxp2 ?_⟩
          refine ⟨_, af_at wsum _ rfl rfl, ?_⟩
          repeat first | refine ⟨rfl, ?_⟩ | refine ⟨⟨_, af_at wsum _ rfl rfl, rfl⟩, ?_⟩ | refine ⟨⟨hi0, optI hxp2 rfl⟩, ?_⟩
          exact ⟨wk_keep [0, 1, 2, 4], trivial⟩
        refine aw_seq ?_
        refine aw_draw [9] [] hT follows_mixed (by rfl) ?_
        refine ⟨_, _, AY.mono wy (fun r H' h => h), ?_⟩
        refine aw_cond ?_
        refine aw_skip ?_
        exact ⟨_, wk_pickL 8 [0, 1, 2, 3, 4, 5, 6, 7, 8, 11, 12] [0, 1, 2, 4] _ rfl hl rfl rfl rfl, p, sm, F2, hpm, hF2, hgo, rfl⟩
    · rintro _ ⟨p, sm, F2, hp, hF2, hX2, rfl⟩
      refine aw_region hT ?_
      refine ⟨n, by omega, _, wk_keep [0, 1, 2, 4], k + 1, IntKind.i64.wrap (seq + 1), _, _, by omega, ?_, by rw [← hF2]; exact stepF_ok hFk hp _, ?_, rfl⟩
      · rw [wrap64 _ (by omega) (by omega), hseq]; omega
      · rw [wrap64 _ (by omega) (by omega)]; exact hX2
  · have h := of_decide_eq_false (show decide (seq < IntKind.i64.wrap (start + g.w)) = false from h)
    rw [hwW] at h
    have hn : n = 0 := by omega
    subst hn
    refine aw_exit ?_
    exact ⟨_, _, wk_keep [0], by rw [hgo]; rfl⟩
end Go.Proofs.YtinfbclgkghgaaaGreat.AL

/- The layer 11 (ring): what both mirrors tell. -/
namespace Go.Proofs.YtinfbclgkghgaaaGreat.AL
open Go Go.Proofs

structure TailV where
  txs : List Bytes
  next : Int
  chain : Int
  epoch : Int
  deriving DecidableEq
abbrev TailV.cv (t : TailV) : List AV := [.p (.sl 1 (catX t.txs)), i64 t.next, i64 t.chain, i64 t.epoch]
abbrev TailV.av (t : TailV) : AV := .agg t.cv
def TailV.zero : TailV := ⟨[], 0, 0, 0⟩
def Fol.tail (F : Fol) : TailV := ⟨F.txs, F.next, F.chain, F.epoch⟩
def rd0 (chain : Int) : RdS := ⟨Pc.zero, false, chain, false⟩
def fol0 (start chain : Int) : Fol := ⟨[], start, chain, 0, [], 0, 0, false⟩
def logOk (vol : Int) (g : GeoV) (a b : List Bytes) (start chain : Int) : Bool := g.may && ((wordB vol && (wordB start && (wordB chain && true))) && (((a.length : Int) == g.w) && ((b.length : Int) == g.w)))
def followX (vol : Int) (g : GeoV) (a b : List Bytes) (start chain : Int) : RdS × Fol := goS vol g a b g.w.toNat start (rd0 chain, fol0 start chain)
def followB (vol : Int) (g : GeoV) (a b : List Bytes) (start chain : Int) : TailV × Int := match logOk vol g a b start chain with
  | false => (TailV.zero, 1)
  | true => match (followX vol g a b start chain).1.torn with
    | true => (TailV.zero, 22)
    | false => ((followX vol g a b start chain).2.tail, 0)
abbrev folFr : List (Nat × AV) := [(12, .ref 7 0), (14, .ref 0 0), (15, .ref 2 0), (16, .ref 3 0), (17, .ref 4 0), (18, .ref 5 0), (19, .ref 6 0)]

theorem zero_less : LessCL [.p (.raw (.slice none 0 0)), i64 0, i64 0, i64 0] TailV.zero.cv := ⟨.inr (.inr (.inr ⟨1, rfl, rfl⟩)), .inl rfl, .inl rfl, .inl rfl, trivial⟩
theorem catX_snoc1 (l : List Bytes) (s : Bytes) : catX (l ++ [s]) = catX l ++ [[bP s]] := by simp [catX]
theorem nil_lessC (k : Nat) : LessCL [.p (.raw (.slice none 0 0))] [.msl k 1 0 0] := ⟨.inr (.inr (.inl ⟨k, 1, 0, rfl, rfl⟩)), trivial⟩

theorem zero_lessM (k : Nat) : LessCL [.p (.raw (.slice none 0 0)), i64 0, i64 0, i64 0] [.msl k 1 0 0, i64 0, i64 0, i64 0] := ⟨.inr (.inr (.inl ⟨k, 1, 0, rfl, rfl⟩)), .inl rfl, .inl rfl, .inl rfl, trivial⟩
/-- The answer, immutable or with a row of its own. -/
def FolA (fz : Bool) (z : TailV × Int) (r : AV) (H' : List ABlk) : Prop := match fz with
  | true => r = .tup [z.1.av, i64 z.2] ∧ H' = []
  | false => r = .tup [.agg [.msl 0 1 0 (catX z.1.txs).length, i64 z.1.next, i64 z.1.chain, i64 z.1.epoch], i64 z.2] ∧ H' = [.row t_s_u8 1 (catX z.1.txs)]
set_option maxHeartbeats 2000000 in
set_option maxRecDepth 20000 in
theorem ring_FollowG (fz : Bool) (a b : List Bytes) (vol : Int) (g : GeoV) (start chain : Int) (has : ∀ s ∈ a, s.length ≤ 1000000) (hbs : ∀ s ∈ b, s.length ≤ 1000000) :
    AF Tryz.prog f_ring_Follow [.p (.sl 1 (catX a)), .p (.sl 1 (catX b)), i64 vol, g.av, i64 start, i64 chain] [] (fun r H' => ∃ z, z = followB vol g a b start chain ∧ FolA fz z r H') := by
  have eB : followB vol g a b start chain = match logOk vol g a b start chain with
    | false => (TailV.zero, 1)
    | true => match (followX vol g a b start chain).1.torn with
      | true => (TailV.zero, 22)
      | false => ((followX vol g a b start chain).2.tail, 0) := rfl
  have hal := catX_len a
  have hbl := catX_len b
  have eL : logOk vol g a b start chain = (g.may && ([vol, start, chain].all wordB && (((((catX a).length : Nat) : Int) == g.w) && ((((catX b).length : Nat) : Int) == g.w)))) := by rw [hal, hbl]; rfl
  have wm := geo_May g
  have ww := ring_word [vol, start, chain] (by simp)
  generalize followB vol g a b start chain = Z at eB
  refine af_body hT F_ring_Follow rfl rfl N_ring_Follow rfl ?_
  refine aw_seq (aw_region hT ?_)
  refine aw_wk (wk_boxL 0 g.pv rfl rfl) ?_
  refine aw_cut ⟨⟨113, [(0, .p (.sl 1 (catX a))), (1, .p (.sl 1 (catX b))), (2, i64 vol), (4, i64 start), (5, i64 chain), (9, .p (.box g.pv)), (12, .ref 0 0)]⟩, [.cells t_api_Tail [.p (.raw (.slice none 0 0)), i64 0, i64 0, i64 0]]⟩ (logOk vol g a b start chain = true) (aw_seq (aw_regionF (fun k => Nat.beq 7 k) hT ?_)) ?_
  · refine callP (af_at wm _ rfl rfl) ?_
    refine boolI (fun h0 => ?_) (fun h0 => ?_)
    · have h0 : (!g.may) = true := h0
      rw [eL, (Bool.not_eq_true' _).mp h0] at eB
      refine aw_cond ?_
      refine aw_seq (aw_region hT ?_)
      cases fz with
      | true =>
        refine aw_wk (wk_cells 1 _ rfl zero_less) ?_
        refine aw_ret ?_
        exact retPick [] ⟨_, eB.symm, rfl, rfl⟩ rfl
      | false =>
        refine aw_wk (Wk.trans (wk_phantom t_s_u8 1) (wk_cells 1 _ rfl (zero_lessM 2))) ?_
        refine aw_ret ?_
        exact retPick [2] ⟨_, eB.symm, rfl, rfl⟩ rfl
    have h0 : (!g.may) = false := h0
    have h0 := (Bool.not_eq_false' _).mp h0
    refine ⟨⟨rfl, rfl⟩, ?_⟩
    refine callP (af_at ww _ rfl rfl) ?_
    refine boolI (fun h1 => ?_) (fun h1 => ?_)
    · have h1 : (![vol, start, chain].all wordB) = true := h1
      rw [eL, h0, (Bool.not_eq_true' _).mp h1] at eB
      refine aw_cond ?_
      refine aw_seq (aw_region hT ?_)
      cases fz with
      | true =>
        refine aw_wk (wk_cells 1 _ rfl zero_less) ?_
        refine aw_ret ?_
        exact retPick [] ⟨_, eB.symm, rfl, rfl⟩ rfl
      | false =>
        refine aw_wk (Wk.trans (wk_phantom t_s_u8 1) (wk_cells 1 _ rfl (zero_lessM 2))) ?_
        refine aw_ret ?_
        exact retPick [2] ⟨_, eB.symm, rfl, rfl⟩ rfl
    have h1 : (![vol, start, chain].all wordB) = false := h1
    have h1 := (Bool.not_eq_false' _).mp h1
    refine boolI (fun h2 => ?_) (fun h2 => ?_)
    · have h2 : ((((catX a).length : Nat) : Int) != g.w) = true := h2
      have h2 : ((((catX a).length : Nat) : Int) == g.w) = false := by rw [bne, Bool.not_eq_true'] at h2; exact h2
      rw [eL, h0, h1, h2] at eB
      refine aw_cond ?_
      refine aw_seq (aw_region hT ?_)
      cases fz with
      | true =>
        refine aw_wk (wk_cells 1 _ rfl zero_less) ?_
        refine aw_ret ?_
        exact retPick [] ⟨_, eB.symm, rfl, rfl⟩ rfl
      | false =>
        refine aw_wk (Wk.trans (wk_phantom t_s_u8 1) (wk_cells 1 _ rfl (zero_lessM 2))) ?_
        refine aw_ret ?_
        exact retPick [2] ⟨_, eB.symm, rfl, rfl⟩ rfl
    have h2 : ((((catX a).length : Nat) : Int) != g.w) = false := h2
    have h2 : ((((catX a).length : Nat) : Int) == g.w) = true := by rw [bne, Bool.not_eq_false'] at h2; exact h2
    refine aw_cond (boolI (fun h3 => ?_) (fun h3 => ?_))
    · have h3 : ((((catX b).length : Nat) : Int) != g.w) = true := h3
      have h3 : ((((catX b).length : Nat) : Int) == g.w) = false := by rw [bne, Bool.not_eq_true'] at h3; exact h3
      rw [eL, h0, h1, h2, h3] at eB
      refine aw_seq (aw_region hT ?_)
      cases fz with
      | true =>
        refine aw_wk (wk_cells 1 _ rfl zero_less) ?_
        refine aw_ret ?_
        exact retPick [] ⟨_, eB.symm, rfl, rfl⟩ rfl
      | false =>
        refine aw_wk (Wk.trans (wk_phantom t_s_u8 1) (wk_cells 1 _ rfl (zero_lessM 2))) ?_
        refine aw_ret ?_
        exact retPick [2] ⟨_, eB.symm, rfl, rfl⟩ rfl
    have h3 : ((((catX b).length : Nat) : Int) != g.w) = false := h3
    have h3 : ((((catX b).length : Nat) : Int) == g.w) = true := by rw [bne, Bool.not_eq_false'] at h3; exact h3
    exact aw_skip ⟨wk_pick [1] [0, 1, 2, 4, 5, 9, 12] rfl, by rw [eL, h0, h1, h2, h3]; rfl⟩
  intro hok
  rw [hok] at eB
  clear eL wm ww
  unfold logOk wordB at hok
  simp only [Bool.and_eq_true, decide_eq_true_eq, beq_iff_eq] at hok
  obtain ⟨hg, ⟨hv, hs, hc, _⟩, hA, hB⟩ := hok
  have hLog : LogOk vol g a b := ⟨hg, by unfold wordB; simp only [Bool.and_eq_true, decide_eq_true_eq]; exact hv, hA, hB, has, hbs⟩
  refine aw_cut ⟨⟨113, [(4, i64 start), (5, i64 chain), (12, .ref 0 0), (14, .ref 1 0)]⟩, [.cells t_api_Tail [.p (.raw (.slice none 0 0)), i64 0, i64 0, i64 0], rdC vol g a b (rd0 chain)]⟩ True (aw_region hT ?_) (fun _ => ?_)
  · refine ⟨Wk.trans (wk_cells 1 [i64 vol, i64 g.w, i64 g.s, i64 g.k, i64 g.m, .p (.sl 1 (catX a)), .p (.sl 1 (catX b)), i64 0, i64 0, i64 0, i64 0, i64 0, i64 0, bA [], bl false, i64 chain, bl false] rfl ⟨.inl rfl, .inl rfl, .inl rfl, .inl rfl, .inl rfl, .inl rfl, .inl rfl, .inl rfl, .inl rfl, .inl rfl, .inl rfl, .inl rfl, .inl rfl, .inr (.inr (.inr ⟨1, rfl, rfl⟩)), .inl rfl, .inl rfl, .inl rfl, trivial⟩) (wk_pick [0, 1] [4, 5, 12, 14] rfl), trivial⟩
  refine aw_cut ⟨⟨113, [(4, i64 start), (12, .ref 0 0), (14, .ref 1 0), (15, .ref 2 0)]⟩, [.cells t_api_Tail [.p (.raw (.slice none 0 0)), i64 0, i64 0, i64 0], rdC vol g a b (rd0 chain), .cells t_api_Tail [.p (.raw (.slice none 0 0)), i64 start, i64 chain, i64 0]]⟩ True (aw_region hT ?_) (fun _ => ?_)
  · exact ⟨wk_pick [0, 1, 2] [4, 12, 14, 15] rfl, trivial⟩
  refine aw_seq (aw_region hT ?_)
  refine aw_cut ⟨⟨113, [(4, i64 start), (12, .ref 6 0), (14, .ref 0 0), (15, .ref 1 0), (16, .ref 2 0), (17, .ref 3 0), (18, .ref 4 0), (19, .ref 5 0)]⟩, [rdC vol g a b (rd0 chain), .cells t_api_Tail [.msl 7 1 0 0, i64 start, i64 chain, i64 0], .cells t_s_u8 [.msl 8 1 0 0], .cells t_i64 [i64 0], .cells t_i64 [i64 0], .cells t_bool [bl false], .cells t_api_Tail [.p (.raw (.slice none 0 0)), i64 0, i64 0, i64 0], .row t_s_u8 1 [], .row t_u8 1 []]⟩ True (aw_region hT ?_) (fun _ => ?_)
  · refine ⟨Wk.trans (wk_pick [1, 2, 3, 4, 5, 6, 0] [4, 12, 14, 15, 16, 17, 18, 19] rfl) (Wk.trans (wk_phantom t_s_u8 1) (Wk.trans (wk_phantom t_u8 1) (Wk.trans (wk_cells 1 [.msl 7 1 0 0, i64 start, i64 chain, i64 0] rfl ⟨.inr (.inr (.inl ⟨7, 1, 0, rfl, rfl⟩)), .inl rfl, .inl rfl, .inl rfl, trivial⟩) (Wk.trans (wk_cells 2 _ rfl (nil_lessC 8)) (wk_pick [0, 1, 2, 3, 4, 5, 6, 7, 8] [4, 12, 14, 15, 16, 17, 18, 19] rfl))))), trivial⟩
  have eX : followX vol g a b start chain = goS vol g a b g.w.toNat start (rd0 chain, fol0 start chain) := rfl
  have hw := reader_pieces vol g a b (rd0 chain) start
  have x0 : FolOk (fol0 start chain) 0 := ⟨Nat.le_refl _, Nat.le_refl _, Int.le_refl _, Int.le_refl _⟩
  refine aw_cut2 (fun st => st = ⟨⟨113, folFr⟩, folJ vol g a b .dead (followX vol g a b start chain)⟩) (aw_seq (aw_region hT ?_)) ?_
  · refine callP (af_in [0] hw rfl rfl rfl) ?_
    refine aw_block ?_
    refine aw_rangeFunc 8 113 [0, 9, 1, 2, 3, 4, 5, 6, 10, 7, 8] [12, 14, 15, 16, 17, 18, 19, 61] (folJ vol g a b) (fun L (_ : Unit) => folJ vol g a b L (rd0 chain, fol0 start chain)) (rd0 chain, fol0 start chain) (fun x => x = followX vol g a b start chain) (fun _ _ => False) rfl rfl (fun L _ => ⟨rfl, fun _ => rfl⟩) (fun L _ => ⟨rfl, fun _ => rfl⟩) rfl ?_ ?_ ?_
    · refine AFm.mono (pieces_seq vol g a b start (rd0 chain, fol0 start chain) _ _ (belowL_dense (by rfl)) hLog (by omega) (by omega) x0 ?_) ?_
      · intro S F p s k hk hF hp
        refine AYm.mono (ay_roundL (J := folJ vol g a b) (Z := fun L (_ : Unit) => folJ vol g a b L (rd0 chain, fol0 start chain)) (a := (S, F)) (Rnd := fun x => x = (S, stepF F p s)) (Stp := fun _ _ => False) (fun L _ => ⟨rfl, fun _ => rfl⟩) (fun L _ => ⟨rfl, fun _ => rfl⟩) ?_ ?_ rfl rfl ?_) ?_
        · exact fun t u ht => pickF_lt (ks := [12, 14, 15, 16, 17, 18, 19, 61]) rfl ht
        · show ∀ p ∈ [62, 63], p < 113
          decide
        · intro B l hl
          dsimp only
          generalize RecK.mk _ _ _ = q
          refine aw_seq (aw_region hT ?_)
          refine aw_region hT ?_
          refine ⟨rfl, ?_⟩
          refine aw_block ?_
          obtain ⟨txs, next, ch, epoch, tx, index, of_, ended⟩ := F
          obtain ⟨f1, f2, f3, f4⟩ := hF
          have f1 : tx.length ≤ 200 * k := f1
          have f2 : txs.length ≤ k := f2
          have f3 : 0 ≤ index := f3
          have f4 : index ≤ k := f4
          have hpb := (p.of_may hp).2.2.2.2.2.2.2.2.2
          have eS : stepF ⟨txs, next, ch, epoch, tx, index, of_, ended⟩ p s = match odd ⟨txs, next, ch, epoch, tx, index, of_, ended⟩ p with
            | true => ⟨txs, next, ch, p.epoch, tx, index, of_, true⟩
            | false => match index + 1 == p.of_ with
              | true => ⟨txs ++ [tx ++ p.b], p.seq + 1, s, p.epoch, [], 0, p.of_, ended⟩
              | false => ⟨txs, next, ch, p.epoch, tx ++ p.b, index + 1, p.of_, ended⟩ := rfl
          refine aw_cut ⟨⟨113, [(15, .ref 2 0), (16, .ref 3 0), (17, .ref 4 0), (18, .ref 5 0), (19, .ref 6 0), (20, .ref 11 0), (21, i64 s)]⟩, folJ vol g a b (.lp q .busy none l) (S, ⟨txs, next, ch, p.epoch, tx, index, of_, ended⟩) ++ [pcC p]⟩ True (aw_region hT ?_) (fun _ => ?_)
          · exact ⟨wk_keep [15, 16, 17, 18, 19, 20, 21], trivial⟩
          refine aw_cut ⟨⟨113, [(15, .ref 2 0), (16, .ref 3 0), (17, .ref 4 0), (18, .ref 5 0), (19, .ref 6 0), (20, .ref 11 0), (21, i64 s)]⟩, folJ vol g a b (.lp q .busy none l) (S, ⟨txs, next, ch, p.epoch, tx, index, of_, ended⟩) ++ [pcC p]⟩ (odd ⟨txs, next, ch, epoch, tx, index, of_, ended⟩ p = false) (aw_seq (aw_region hT ?_)) ?_
          · refine boolI (fun h0 => ?_) (fun h0 => ?_)
            · have h0 : ended = true := h0
              refine aw_cond ?_
              refine aw_seq (aw_region hT ?_)
              refine aw_exit ?_
              exact ⟨(S, ⟨txs, next, ch, p.epoch, tx, index, of_, true⟩), ⟨113, []⟩, by rw [eS, show odd ⟨txs, next, ch, epoch, tx, index, of_, ended⟩ p = true by unfold odd; simp only; rw [h0]; rfl], wk_pickL 8 [0, 1, 2, 3, 4, 5, 6, 7, 8, 9, 10] [] _ rfl hl rfl rfl rfl⟩
            have h0 : ended = false := h0
            refine boolI (fun h1 => ?_) (fun h1 => ?_)
            · have h1 : (p.index != index) = true := h1
              refine aw_cond ?_
              refine aw_seq (aw_region hT ?_)
              refine aw_exit ?_
              exact ⟨(S, ⟨txs, next, ch, p.epoch, tx, index, of_, true⟩), ⟨113, []⟩, by rw [eS, show odd ⟨txs, next, ch, epoch, tx, index, of_, ended⟩ p = true by unfold odd; simp only; rw [h0, h1]; rfl], wk_pickL 8 [0, 1, 2, 3, 4, 5, 6, 7, 8, 9, 10] [] _ rfl hl rfl rfl rfl⟩
            have h1 : (p.index != index) = false := h1
            refine boolI (fun h2 => ?_) (fun h2 => ?_)
            · have h2 : decide (index > 0) = true := h2
              refine aw_cond (boolI (fun h3 => ?_) (fun h3 => ?_))
              · have h3 : (p.of_ != of_) = true := h3
                refine aw_seq (aw_region hT ?_)
                refine aw_exit ?_
                exact ⟨(S, ⟨txs, next, ch, p.epoch, tx, index, of_, true⟩), ⟨113, []⟩, by rw [eS, show odd ⟨txs, next, ch, epoch, tx, index, of_, ended⟩ p = true by unfold odd; simp only; rw [h0, h1, h2, h3]; rfl], wk_pickL 8 [0, 1, 2, 3, 4, 5, 6, 7, 8, 9, 10] [] _ rfl hl rfl rfl rfl⟩
              · have h3 : (p.of_ != of_) = false := h3
                exact aw_skip ⟨wk_keep [15, 16, 17, 18, 19, 20, 21], by unfold odd; simp only; rw [h0, h1, h2, h3]; rfl⟩
            · have h2 : decide (index > 0) = false := h2
              refine aw_cond ?_
              exact aw_skip ⟨wk_keep [15, 16, 17, 18, 19, 20, 21], by unfold odd; simp only; rw [h0, h1, h2]; rfl⟩
          intro hodd
          rw [hodd] at eS
          have hw1 : IntKind.i64.wrap (index + 1) = index + 1 := wrap64 _ (by omega) (by omega)
          have hw2 : IntKind.i64.wrap (p.seq + 1) = p.seq + 1 := by have := p.of_may hp; exact wrap64 _ (by omega) (by omega)
          have lt1 := bx_len tx
          have lt2 := bx_len p.b
          have lt3 := catX_len txs
          refine aw_cut ⟨⟨113, [(15, .ref 2 0), (16, .ref 3 0), (17, .ref 4 0), (18, .ref 5 0), (19, .ref 6 0), (20, .ref 11 0), (21, i64 s)]⟩, [rdC vol g a b S, .cells t_p_ring_reader [.ref 0 0], .cells t_api_Tail [.msl 9 1 0 (catX txs).length, i64 next, i64 ch, i64 p.epoch], .cells t_s_u8 [.msl 12 1 0 (bx (tx ++ p.b)).length], .cells t_i64 [i64 (IntKind.i64.wrap (index + 1))], .cells t_i64 [i64 p.of_], .cells t_bool [bl ended], .cells t_api_Tail [.p (.raw (.slice none 0 0)), i64 0, i64 0, i64 0], .lp q .busy none l, .row t_s_u8 1 (catX txs), .dead, pcC p, .row t_u8 1 (bx (tx ++ p.b))]⟩ True ?_ (fun _ => ?_)
          · refine aw_draw [3, 8, 9, 10] [] hT follows_mixed (by rfl) ?_
            refine ⟨rfl, ⟨?_, ?_⟩, ?_⟩
            · show ((bx tx).length + (bx p.b).length) * 1 ≤ _
              omega
            · show (bx tx).length + (bx p.b).length ≤ _
              omega
            repeat first | refine ⟨rfl, ?_⟩
            rw [bx_app]
            exact ⟨wk_keep [15, 16, 17, 18, 19, 20, 21], trivial⟩
          rw [hw1]
          refine aw_seq (aw_region hT ?_)
          refine aw_cond (boolI (fun h => ?_) (fun h => ?_))
          · have h : (index + 1 == p.of_) = true := h
            rw [h] at eS
            refine aw_wk (wk_frzC 12 3 0 _ rfl rfl rfl rfl) ?_
            refine aw_cut ⟨⟨113, [(16, .ref 3 0), (17, .ref 4 0)]⟩, [rdC vol g a b S, .cells t_p_ring_reader [.ref 0 0], .cells t_api_Tail [.msl 14 1 0 (catX (txs ++ [tx ++ p.b])).length, i64 (IntKind.i64.wrap (p.seq + 1)), i64 s, i64 p.epoch], .cells t_s_u8 [.p (.sl 1 (bx (tx ++ p.b)))], .cells t_i64 [i64 (index + 1)], .cells t_i64 [i64 p.of_], .cells t_bool [bl ended], .cells t_api_Tail [.p (.raw (.slice none 0 0)), i64 0, i64 0, i64 0], .lp q .busy none l, .dead, .dead, pcC p, .dead, .row t_s_u8 1 [[bP (tx ++ p.b)]], .row t_s_u8 1 (catX (txs ++ [tx ++ p.b]))]⟩ True ?_ (fun _ => ?_)
            · refine aw_draw [3, 4, 10, 12, 14] [] hT follows_mixed (by rfl) ?_
              refine ⟨rfl, ⟨?_, ?_⟩, ?_⟩
              · show ((catX txs).length + 1) * 24 ≤ _
                omega
              · show (catX txs).length + 1 ≤ _
                omega
              repeat first | refine ⟨rfl, ?_⟩
              rw [catX_snoc1]
              exact ⟨wk_keep [16, 17], trivial⟩
            rw [hw2]
            refine aw_region hT ?_
            refine ⟨(S, ⟨txs ++ [tx ++ p.b], p.seq + 1, s, p.epoch, [], 0, p.of_, ended⟩), ⟨113, []⟩, by rw [eS], ?_⟩
            exact Wk.trans (wk_phantom t_u8 1) (Wk.trans (wk_cells 3 _ rfl (nil_lessC 15)) (wk_pickL 8 [0, 1, 2, 3, 4, 5, 6, 7, 8, 14, 15] [] _ rfl hl rfl rfl rfl))
          · have h : (index + 1 == p.of_) = false := h
            rw [h] at eS
            refine aw_skip ?_
            exact ⟨(S, ⟨txs, next, ch, p.epoch, tx ++ p.b, index + 1, p.of_, ended⟩), ⟨113, []⟩, by rw [eS], wk_pickL 8 [0, 1, 2, 3, 4, 5, 6, 7, 8, 9, 12] [] _ rfl hl rfl rfl rfl⟩
        · rintro r H' (⟨hr, a', rfl, hH⟩ | ⟨hr, c, z, h3, hH⟩)
          · exact ⟨hr, hH⟩
          · exact h3.elim
      · rintro r H' rfl
        exact .inl ⟨_, rfl, rfl⟩
    · rintro x hx
      have hx : x = followX vol g a b start chain := hx
      subst hx
      exact ⟨_, wk_pick [0, 1, 2, 3, 4, 5, 6, 7, 8, 9, 10] [12, 14, 15, 16, 17, 18, 19] rfl, rfl⟩
    · intro _ _ h; exact h.elim
  rintro _ rfl
  generalize followX vol g a b start chain = X at eB
  obtain ⟨S, F⟩ := X
  obtain ⟨last, some_, sum, torn⟩ := S
  obtain ⟨txs, next, ch, epoch, tx, index, of_, ended⟩ := F
  have eB : Z = match (generalizing := false) torn with
    | true => (TailV.zero, 22)
    | false => (⟨txs, next, ch, epoch⟩, 0) := eB
  refine aw_seq (aw_seq (aw_region hT ?_))
  refine aw_cond (boolI (fun h => ?_) (fun h => ?_))
  · have h : torn = true := h
    rw [h] at eB
    refine aw_seq (aw_region hT ?_)
    cases fz with
    | true =>
      refine aw_wk (wk_cells 7 _ rfl zero_less) ?_
      refine aw_ret ?_
      exact retPick [] ⟨_, eB.symm, rfl, rfl⟩ rfl
    | false =>
      refine aw_wk (Wk.trans (wk_phantom t_s_u8 1) (wk_cells 7 _ rfl (zero_lessM 11))) ?_
      refine aw_ret ?_
      exact retPick [11] ⟨_, eB.symm, rfl, rfl⟩ rfl
  · have h : torn = false := h
    rw [h] at eB
    refine aw_skip ?_
    cases fz with
    | true =>
      refine aw_wk (wk_frzC 9 2 0 _ rfl rfl rfl rfl) ?_
      refine aw_seq (aw_region hT ?_)
      refine aw_ret ?_
      exact retPick [] ⟨_, eB.symm, rfl, rfl⟩ rfl
    | false =>
      refine aw_seq (aw_region hT ?_)
      refine aw_ret ?_
      exact retPick [9] ⟨_, eB.symm, rfl, rfl⟩ rfl
theorem ring_Follow (a b : List Bytes) (vol : Int) (g : GeoV) (start chain : Int) (has : ∀ s ∈ a, s.length ≤ 1000000) (hbs : ∀ s ∈ b, s.length ≤ 1000000) :
    AF Tryz.prog f_ring_Follow [.p (.sl 1 (catX a)), .p (.sl 1 (catX b)), i64 vol, g.av, i64 start, i64 chain] [] (Pure (.tup [(followB vol g a b start chain).1.av, i64 (followB vol g a b start chain).2]) []) :=
  AF.mono (ring_FollowG true a b vol g start chain has hbs) (by rintro r H' ⟨z, rfl, h1, h2⟩; exact ⟨h1, h2⟩)
theorem ring_FollowM (a b : List Bytes) (vol : Int) (g : GeoV) (start chain : Int) (has : ∀ s ∈ a, s.length ≤ 1000000) (hbs : ∀ s ∈ b, s.length ≤ 1000000) :
    AF Tryz.prog f_ring_Follow [.p (.sl 1 (catX a)), .p (.sl 1 (catX b)), i64 vol, g.av, i64 start, i64 chain] [] (Pure (.tup [.agg [.msl 0 1 0 (catX (followB vol g a b start chain).1.txs).length, i64 (followB vol g a b start chain).1.next, i64 (followB vol g a b start chain).1.chain, i64 (followB vol g a b start chain).1.epoch], i64 (followB vol g a b start chain).2]) [.row t_s_u8 1 (catX (followB vol g a b start chain).1.txs)]) :=
  AF.mono (ring_FollowG false a b vol g start chain has hbs) (by rintro r H' ⟨z, rfl, h1, h2⟩; exact ⟨h1, h2⟩)
end Go.Proofs.YtinfbclgkghgaaaGreat.AL

/- The document's layer 11: does a piece go on; is a sector clean (and what a log tells, plain). -/
namespace Go.Proofs.YtinfbclgkghgaaaGreat.AL
open Go Go.Proofs

def lastR (l : List Pc) : Pc := l.getLastD Pc.zero
theorem lastR_snoc (l : List Pc) (p : Pc) : lastR (l ++ [p]) = p := by unfold lastR; simp

/-! What a log tells, as a list of pieces. -/
def goL (vol : Int) (g : GeoV) (a b : List Bytes) : Nat → Int → RdS → List (Pc × Int) × Bool
  | 0, _, _ => ([], false)
  | n + 1, seq, S => match pickS S (cands vol g a b seq) with
    | none => ([], (cands vol g a b seq).isEmpty && !cleanB vol g a b (seq.tmod g.w))
    | some p => ((p, sumP vol g p) :: (goL vol g a b n (seq + 1) ⟨p, true, sumP vol g p, false⟩).1, (goL vol g a b n (seq + 1) ⟨p, true, sumP vol g p, false⟩).2)
def foldF (F : Fol) : List (Pc × Int) → Fol
  | [] => F
  | x :: r => foldF (stepF F x.1 x.2) r
theorem goS_goL (vol : Int) (g : GeoV) (a b : List Bytes) : ∀ (n : Nat) (seq : Int) (S : RdS) (F : Fol), S.torn = false → (goS vol g a b n seq (S, F)).1.torn = (goL vol g a b n seq S).2 ∧ (goS vol g a b n seq (S, F)).2 = foldF F (goL vol g a b n seq S).1
  | 0, seq, S, F, h => ⟨h, rfl⟩
  | n + 1, seq, S, F, h => by
    unfold goS goL
    simp only
    cases hp : pickS S (cands vol g a b seq) with
    | none => exact ⟨rfl, rfl⟩
    | some p =>
      simp only
      rw [h]
      exact goS_goL vol g a b n (seq + 1) ⟨p, true, sumP vol g p, false⟩ _ rfl
theorem followB_eq (vol : Int) (g : GeoV) (a b : List Bytes) (start chain : Int) : followB vol g a b start chain = match logOk vol g a b start chain with
  | false => (TailV.zero, 1)
  | true => match (goL vol g a b g.w.toNat start (rd0 chain)).2 with
    | true => (TailV.zero, 22)
    | false => ((foldF (fol0 start chain) (goL vol g a b g.w.toNat start (rd0 chain)).1).tail, 0) := by
  obtain ⟨h1, h2⟩ := goS_goL vol g a b g.w.toNat start (rd0 chain) (fol0 start chain) rfl
  unfold followB followX
  rw [h1, h2] <;> rfl
end Go.Proofs.YtinfbclgkghgaaaGreat.AL

/- The document's layer 11: what both mirrors tell. -/
namespace Go.Proofs.YtinfbclgkghgaaaGreat.AL
open Go Go.Proofs

def lst (x : List (Pc × Int)) : List Pc := x.map (·.1)
def sms (x : List (Pc × Int)) : List Int := x.map (·.2)
/-- The transactions of pieces. -/
def segOk (n : Int) : List Pc → Int → Bool
  | [], _ => true
  | p :: r, k => match p.index != k || p.of_ != n with | true => false | false => segOk n r (k + 1)
def catB (l : List Pc) : Bytes := (l.map (·.b)).flatten
def lastE (l : List (Pc × Int)) : Int := match l.getLast? with | some x => x.1.epoch | none => 0
def grpL : Nat → List (Pc × Int) → TailV → TailV
  | 0, _, t => t
  | _ + 1, [], t => t
  | f + 1, (p, s) :: r, t => match decide (p.of_ > ((r.length + 1 : Nat) : Int)) || !segOk p.of_ (lst (((p, s) :: r).take p.of_.toNat)) 0 with
    | true => t
    | false => grpL f (((p, s) :: r).drop p.of_.toNat) { t with txs := t.txs ++ [catB (lst (((p, s) :: r).take p.of_.toNat))], next := (lastR (lst (((p, s) :: r).take p.of_.toNat))).seq + 1, chain := ((sms (((p, s) :: r).take p.of_.toNat)).getLastD 0) }
def groupB (l : List (Pc × Int)) (start chain : Int) : TailV := grpL l.length l ⟨[], start, chain, lastE l⟩

theorem find2 (S : RdS) (x y : Pc) : pickS S [x, y] = match fitsS S x with | true => some x | false => match fitsS S y with | true => some y | false => none := by
  unfold pickS
  rw [List.find?_cons, List.find?_cons]
  cases fitsS S x <;> cases fitsS S y <;> rfl
theorem find1 (S : RdS) (x : Pc) : pickS S [x] = match fitsS S x with | true => some x | false => none := by
  unfold pickS
  rw [List.find?_cons]
  cases fitsS S x <;> rfl

def refB (vol : Int) (g : GeoV) (a b : List Bytes) (start chain : Int) : TailV × Int := match logOk vol g a b start chain with
  | false => (TailV.zero, 1)
  | true => match (goL vol g a b g.w.toNat start (rd0 chain)).2 with
    | true => (TailV.zero, 22)
    | false => (groupB (goL vol g a b g.w.toNat start (rd0 chain)).1 start chain, 0)
theorem goL_may (vol : Int) (g : GeoV) (a b : List Bytes) : ∀ (n : Nat) (seq : Int) (S : RdS), (goL vol g a b n seq S).1.length ≤ n ∧ ∀ x ∈ (goL vol g a b n seq S).1, x.1.may = true
  | 0, _, _ => ⟨Nat.le_refl _, fun x hx => by simp [goL] at hx⟩
  | n + 1, seq, S => by
    unfold goL
    cases hp : pickS S (cands vol g a b seq) with
    | none => exact ⟨Nat.zero_le _, fun x hx => by simp at hx⟩
    | some p =>
      obtain ⟨h1, h2⟩ := goL_may vol g a b n (seq + 1) ⟨p, true, sumP vol g p, false⟩
      refine ⟨by simp only [List.length_cons]; omega, fun x hx => ?_⟩
      simp only [List.mem_cons] at hx
      rcases hx with rfl | hx
      · unfold pickS at hp
        exact (cands_may (List.mem_of_find?_eq_some hp)).1
      · exact h2 x hx

end Go.Proofs.YtinfbclgkghgaaaGreat.AL

/- The document's layer 11: the transactions of pieces. -/
namespace Go.Proofs.YtinfbclgkghgaaaGreat.AL
open Go Go.Proofs

theorem grpL_cons (f : Nat) (p : Pc) (s : Int) (r : List (Pc × Int)) (t : TailV) : grpL (f + 1) ((p, s) :: r) t = match decide (p.of_ > ((r.length + 1 : Nat) : Int)) || !segOk p.of_ (lst (((p, s) :: r).take p.of_.toNat)) 0 with
    | true => t
    | false => grpL f (((p, s) :: r).drop p.of_.toNat) { t with txs := t.txs ++ [catB (lst (((p, s) :: r).take p.of_.toNat))], next := (lastR (lst (((p, s) :: r).take p.of_.toNat))).seq + 1, chain := ((sms (((p, s) :: r).take p.of_.toNat)).getLastD 0) } := rfl
theorem grpL_nil (f : Nat) (t : TailV) : grpL f [] t = t := by cases f <;> rfl
end Go.Proofs.YtinfbclgkghgaaaGreat.AL

/- The layer 11, plain: what is told as one goes along is what is told of all. -/
namespace Go.Proofs.YtinfbclgkghgaaaGreat.AL
open Go Go.Proofs

def Fol.tri (F : Fol) : List Bytes × Int × Int := (F.txs, F.next, F.chain)
def TailV.tri (t : TailV) : List Bytes × Int × Int := (t.txs, t.next, t.chain)
theorem stepF_epoch (F : Fol) (p : Pc) (s : Int) : (stepF F p s).epoch = p.epoch := by
  unfold stepF; split
  · rfl
  · split <;> rfl
theorem foldF_epoch : ∀ (l : List (Pc × Int)) (F : Fol), (foldF F l).epoch = match l.getLast? with | some x => x.1.epoch | none => F.epoch
  | [], F => rfl
  | [x], F => stepF_epoch F x.1 x.2
  | x :: y :: r, F => by
    have := foldF_epoch (y :: r) (stepF F x.1 x.2)
    show (foldF (stepF F x.1 x.2) (y :: r)).epoch = _
    rw [this, List.getLast?_cons_cons]
    cases h : (y :: r).getLast? with
    | some z => rfl
    | none => simp at h
theorem fold_ended : ∀ (l : List (Pc × Int)) (F : Fol), F.ended = true → (foldF F l).tri = F.tri
  | [], F, _ => rfl
  | x :: r, F, h => by
    have ho : odd F x.1 = true := by unfold odd; rw [h]; rfl
    have hs : stepF F x.1 x.2 = { F with epoch := x.1.epoch, ended := true } := by unfold stepF; rw [ho]
    show (foldF (stepF F x.1 x.2) r).tri = _
    rw [fold_ended r _ (by rw [hs]), hs]; rfl
theorem step_odd {F : Fol} {p : Pc} (s : Int) (h : odd F p = true) : (stepF F p s).ended = true ∧ (stepF F p s).tri = F.tri := by
  unfold stepF; rw [h]; exact ⟨rfl, rfl⟩
theorem fold_odd {F : Fol} {x : Pc × Int} (r : List (Pc × Int)) (h : odd F x.1 = true) : (foldF F (x :: r)).tri = F.tri := by
  obtain ⟨h1, h2⟩ := step_odd x.2 h
  show (foldF (stepF F x.1 x.2) r).tri = _
  rw [fold_ended r _ h1, h2]

/-- In the midst of a transaction. -/
theorem fold_mid : ∀ (l : List (Pc × Int)) (F : Fol) (k d : Nat), 0 < k → F.index = k → F.of_ = ((k + d : Nat) : Int) → F.ended = false → 0 < d →
    if d ≤ l.length ∧ segOk F.of_ (lst (l.take d)) k = true then
      foldF F l = foldF ⟨F.txs ++ [F.tx ++ catB (lst (l.take d))], (lastR (lst (l.take d))).seq + 1, (sms (l.take d)).getLastD 0, (lastR (lst (l.take d))).epoch, [], 0, F.of_, false⟩ (l.drop d)
    else (foldF F l).tri = F.tri
  | [], F, k, d, _, _, _, _, hd => by
    rw [if_neg (fun h => by have := h.1; simp at this; omega)]; rfl
  | (p, s) :: r, F, k, d, hk, hi, hof, he, hd => by
    obtain ⟨d, rfl⟩ : ∃ e, d = e + 1 := ⟨d - 1, by omega⟩
    have hseg : segOk F.of_ (lst (((p, s) :: r).take (d + 1))) k = match p.index != (k : Int) || p.of_ != F.of_ with | true => false | false => segOk F.of_ (lst (r.take d)) ((k : Int) + 1) := rfl
    have hodd : odd F p = (p.index != (k : Int) || p.of_ != F.of_) := by
      unfold odd
      rw [he, hi, decide_eq_true (show (k : Int) > 0 by omega), Bool.false_or, Bool.true_and]
    cases ho : p.index != (k : Int) || p.of_ != F.of_ with
    | true =>
      rw [ho] at hseg
      rw [if_neg (fun h => by rw [hseg] at h; exact Bool.noConfusion (show false = true from h.2))]
      exact fold_odd r (hodd.trans ho)
    | false =>
      rw [ho] at hseg hodd
      have hpo : p.of_ = F.of_ := by
        rw [Bool.or_eq_false_iff] at ho
        simpa using ho.2
      cases hd0 : d with
      | zero =>
        subst hd0
        rw [if_pos ⟨by simp, by rw [hseg]; rfl⟩]
        have hst : stepF F p s = ⟨F.txs ++ [F.tx ++ p.b], p.seq + 1, s, p.epoch, [], 0, p.of_, F.ended⟩ := by
          unfold stepF
          rw [hodd, hi, hpo, hof, show ((k : Int) + 1 == ((k + 1 : Nat) : Int)) = true by simp]
        show foldF (stepF F p s) r = foldF ⟨F.txs ++ [F.tx ++ catB [p]], p.seq + 1, s, p.epoch, [], 0, F.of_, false⟩ r
        rw [hst, hpo, he, show catB [p] = p.b by simp [catB]]
      | succ d' =>
        rw [← hd0]
        have hst : stepF F p s = { F with epoch := p.epoch, tx := F.tx ++ p.b, of_ := p.of_, index := F.index + 1 } := by
          unfold stepF
          rw [hodd, hi, hpo, hof, show ((k : Int) + 1 == ((k + (d + 1) : Nat) : Int)) = false by
            rw [beq_eq_false_iff_ne]; omega]
        have ih := fold_mid r (stepF F p s) (k + 1) d (by omega) (by rw [hst]; show F.index + 1 = _; rw [hi]; rfl) (by rw [hst]; show p.of_ = _; rw [hpo, hof]; congr 1; omega) (by rw [hst]; exact he) (by omega)
        have h1 : (stepF F p s).of_ = F.of_ := by rw [hst]; exact hpo
        have h2 : (stepF F p s).txs = F.txs := by rw [hst]
        have h3 : (stepF F p s).tx = F.tx ++ p.b := by rw [hst]
        have h4 : (stepF F p s).tri = F.tri := by rw [hst]; rfl
        rw [h1, h2, h3, h4] at ih
        have e0 : (((k + 1 : Nat) : Int)) = (k : Int) + 1 := rfl
        rw [e0] at ih
        have ht : ((p, s) :: r).take (d + 1) = (p, s) :: r.take d := rfl
        by_cases hc : d ≤ r.length ∧ segOk F.of_ (lst (r.take d)) ((k : Int) + 1) = true
        · rw [if_pos hc] at ih
          rw [if_pos ⟨by simp; omega, by rw [hseg]; exact hc.2⟩]
          show foldF (stepF F p s) r = _
          rw [ih, ht]
          have hne : r.take d ≠ [] := fun e => by have := congrArg List.length e; rw [List.length_take] at this; simp only [List.length_nil] at this; have := hc.1; omega
          obtain ⟨y, t, hyt⟩ := List.exists_cons_of_ne_nil hne
          have e1 : lastR (lst ((p, s) :: r.take d)) = lastR (lst (r.take d)) := by rw [hyt]; rfl
          have e2 : (sms ((p, s) :: r.take d)).getLastD 0 = (sms (r.take d)).getLastD 0 := by rw [hyt]; rfl
          have e3 : catB (lst ((p, s) :: r.take d)) = p.b ++ catB (lst (r.take d)) := rfl
          rw [e1, e2, e3, List.append_assoc]
          rfl
        · rw [if_neg hc] at ih
          rw [if_neg (fun h => hc ⟨by have := h.1; simp at this; omega, by have := h.2; rw [hseg] at this; exact this⟩)]
          exact ih

theorem grpL_epoch : ∀ (f : Nat) (l : List (Pc × Int)) (t : TailV), (grpL f l t).epoch = t.epoch
  | 0, _, _ => rfl
  | f + 1, [], _ => rfl
  | f + 1, (p, s) :: r, t => by
    rw [grpL_cons]
    split
    · rfl
    · exact grpL_epoch f _ _
theorem segOk_head {n : Int} {p : Pc} {s : Int} {r : List (Pc × Int)} {m : Nat} (hm : 0 < m) (h : (p.index != 0) = true) : segOk n (lst (((p, s) :: r).take m)) 0 = false := by
  obtain ⟨m, rfl⟩ : ∃ e, m = e + 1 := ⟨m - 1, by omega⟩
  show (match p.index != 0 || p.of_ != n with | true => false | false => _) = false
  rw [h]; rfl
theorem fold_grp : ∀ (f : Nat) (l : List (Pc × Int)) (F : Fol) (t : TailV), l.length ≤ f → (∀ x ∈ l, x.1.may = true) → F.index = 0 → F.ended = false → F.tx = [] → t.tri = F.tri → (foldF F l).tri = (grpL f l t).tri
  | f, [], F, t, _, _, _, _, _, ht => by rw [grpL_nil, ht]; rfl
  | 0, _ :: _, _, _, h, _, _, _, _, _ => by simp at h
  | f + 1, (p, s) :: r, F, t, hl, hm, hi, he, hx, ht => by
    have hpm := p.of_may (show p.may = true from hm (p, s) (List.mem_cons_self ..))
    have hr : r.length ≤ f := by simp at hl; omega
    obtain ⟨m, hmn⟩ : ∃ m : Nat, p.of_ = ((m + 1 : Nat) : Int) := ⟨p.of_.toNat - 1, by omega⟩
    have hodd : odd F p = (p.index != 0) := by
      unfold odd
      rw [he, hi]; simp
    rw [grpL_cons, hmn, Int.toNat_natCast]
    have htri : t.txs = F.txs ∧ t.next = F.next ∧ t.chain = F.chain := by
      unfold TailV.tri Fol.tri at ht
      simp only [Prod.mk.injEq] at ht; exact ht
    cases ho : p.index != 0 with
    | true =>
      rw [segOk_head (by omega) ho, Bool.not_false, Bool.or_true]
      rw [fold_odd r (hodd.trans ho)]
      exact ht.symm
    | false =>
      rw [ho] at hodd
      have hp0 : p.index = 0 := by simpa using ho
      have hseg : segOk ((m + 1 : Nat) : Int) (lst (((p, s) :: r).take (m + 1))) 0 = segOk ((m + 1 : Nat) : Int) (lst (r.take m)) 1 := by
        show (match p.index != 0 || p.of_ != ((m + 1 : Nat) : Int) with | true => false | false => segOk ((m + 1 : Nat) : Int) (lst (r.take m)) (0 + 1)) = _
        rw [ho, hmn, show (((m + 1 : Nat) : Int) != ((m + 1 : Nat) : Int)) = false by simp]
        rfl
      rw [hseg]
      by_cases hm0 : m = 0
      · subst hm0
        rw [decide_eq_false (show ¬ ((0 + 1 : Nat) : Int) > ((r.length + 1 : Nat) : Int) by omega)]
        have hst : stepF F p s = ⟨F.txs ++ [F.tx ++ p.b], p.seq + 1, s, p.epoch, [], 0, p.of_, F.ended⟩ := by
          unfold stepF
          rw [hodd, hi, hmn]; rfl
        show (foldF (stepF F p s) r).tri = (grpL f r { t with txs := t.txs ++ [catB [p]], next := p.seq + 1, chain := s }).tri
        refine fold_grp f r _ _ hr (fun x hx => hm x (List.mem_cons_of_mem _ hx)) (by rw [hst]) (by rw [hst]; exact he) (by rw [hst]) ?_
        rw [hst]
        show (t.txs ++ [catB [p]], p.seq + 1, s) = (F.txs ++ [F.tx ++ p.b], p.seq + 1, s)
        rw [htri.1, hx, show catB [p] = p.b by simp [catB]]; rfl
      · have hst : stepF F p s = { F with epoch := p.epoch, tx := F.tx ++ p.b, of_ := p.of_, index := F.index + 1 } := by
          unfold stepF
          rw [hodd, hi, hmn, show ((0 : Int) + 1 == ((m + 1 : Nat) : Int)) = false by rw [beq_eq_false_iff_ne]; omega]
        have ih := fold_mid r (stepF F p s) 1 m (by omega) (by rw [hst]; show F.index + 1 = _; rw [hi]; rfl) (by rw [hst]; show p.of_ = _; rw [hmn]; congr 1; omega) (by rw [hst]; exact he) (by omega)
        have h1 : (stepF F p s).of_ = ((m + 1 : Nat) : Int) := by rw [hst]; exact hmn
        have h2 : (stepF F p s).txs = F.txs := by rw [hst]
        have h3 : (stepF F p s).tx = p.b := by rw [hst]; show F.tx ++ p.b = _; rw [hx]; rfl
        have h4 : (stepF F p s).tri = F.tri := by rw [hst]; rfl
        rw [h1, h2, h3, h4] at ih
        have ht2 : ((p, s) :: r).take (m + 1) = (p, s) :: r.take m := rfl
        by_cases hc : m ≤ r.length ∧ segOk ((m + 1 : Nat) : Int) (lst (r.take m)) ((1 : Nat) : Int) = true
        · rw [if_pos hc] at ih
          rw [decide_eq_false (show ¬ ((m + 1 : Nat) : Int) > ((r.length + 1 : Nat) : Int) by omega), show segOk ((m + 1 : Nat) : Int) (lst (r.take m)) 1 = true from hc.2]
          show (foldF (stepF F p s) r).tri = (grpL f (r.drop m) { t with txs := t.txs ++ [catB (lst (((p, s) :: r).take (m + 1)))], next := (lastR (lst (((p, s) :: r).take (m + 1)))).seq + 1, chain := ((sms (((p, s) :: r).take (m + 1))).getLastD 0) }).tri
          rw [ih, ht2]
          have hne : r.take m ≠ [] := fun e => by have := congrArg List.length e; rw [List.length_take] at this; simp only [List.length_nil] at this; have := hc.1; omega
          obtain ⟨y, tt, hyt⟩ := List.exists_cons_of_ne_nil hne
          have e1 : lastR (lst ((p, s) :: r.take m)) = lastR (lst (r.take m)) := by rw [hyt]; rfl
          have e2 : (sms ((p, s) :: r.take m)).getLastD 0 = (sms (r.take m)).getLastD 0 := by rw [hyt]; rfl
          have e3 : catB (lst ((p, s) :: r.take m)) = p.b ++ catB (lst (r.take m)) := rfl
          rw [e1, e2, e3]
          refine fold_grp f (r.drop m) _ _ (by rw [List.length_drop]; omega) (fun x hx => hm x (List.mem_cons_of_mem _ (List.mem_of_mem_drop hx))) rfl rfl rfl ?_
          show (t.txs ++ [_], _, _) = (F.txs ++ [_], _, _)
          rw [htri.1]
        · rw [if_neg hc] at ih
          have : (decide (((m + 1 : Nat) : Int) > ((r.length + 1 : Nat) : Int)) || !segOk ((m + 1 : Nat) : Int) (lst (r.take m)) 1) = true := by
            by_cases hlen : m ≤ r.length
            · cases hsg : segOk ((m + 1 : Nat) : Int) (lst (r.take m)) 1 with
              | true => exact absurd ⟨hlen, hsg⟩ hc
              | false => rw [Bool.not_false, Bool.or_true]
            · rw [decide_eq_true (show ((m + 1 : Nat) : Int) > ((r.length + 1 : Nat) : Int) by omega)]; rfl
          rw [this]
          show (foldF (stepF F p s) r).tri = t.tri
          rw [ih, ht]

theorem tail_group (l : List (Pc × Int)) (start chain : Int) (hm : ∀ x ∈ l, x.1.may = true) : (foldF (fol0 start chain) l).tail = groupB l start chain := by
  have h1 := fold_grp l.length l (fol0 start chain) ⟨[], start, chain, lastE l⟩ (Nat.le_refl _) hm rfl rfl rfl rfl
  have h2 := foldF_epoch l (fol0 start chain)
  have h3 := grpL_epoch l.length l ⟨[], start, chain, lastE l⟩
  unfold groupB
  generalize foldF (fol0 start chain) l = A at h1 h2
  generalize grpL l.length l ⟨[], start, chain, lastE l⟩ = B at h1 h3
  obtain ⟨a1, a2, a3, a4, _, _, _, _⟩ := A
  obtain ⟨b1, b2, b3, b4⟩ := B
  unfold Fol.tri TailV.tri at h1
  simp only [Prod.mk.injEq] at h1
  obtain ⟨rfl, rfl, rfl⟩ := h1
  have h3 : b4 = lastE l := h3
  have h2 : a4 = _ := h2
  show (⟨a1, a2, a3, a4⟩ : TailV) = ⟨a1, a2, a3, b4⟩
  rw [h2, h3]; rfl
theorem follow_ref (vol : Int) (g : GeoV) (a b : List Bytes) (start chain : Int) : followB vol g a b start chain = refB vol g a b start chain := by
  rw [followB_eq]
  unfold refB
  rw [tail_group _ _ _ (goL_may vol g a b g.w.toNat start (rd0 chain)).2] <;> rfl
end Go.Proofs.YtinfbclgkghgaaaGreat.AL

/- The document's layer 11, and the law's: are two pieces, two tails, the same; are there few sectors. -/
namespace Go.Proofs.YtinfbclgkghgaaaGreat.AL
open Go Go.Proofs

def fewB (n m : Nat) (l : List Bytes) : Bool := decide (l.length ≤ n) && l.all fun s => decide (s.length ≤ m)

set_option maxRecDepth 20000 in
theorem law11_small (l : List Bytes) : AF Tryz.prog f_law11_small [.p (.sl 1 (catX l))] [] (Pure (bl (fewB 12 1500 l)) []) := by
  refine AF.mono (R := fun r H' => ∃ z, z = fewB 12 1500 l ∧ r = bl z ∧ H' = []) ?_ (by rintro r H' ⟨b, rfl, rfl, rfl⟩; exact ⟨rfl, rfl⟩)
  have hcl := catX_len l
  refine af_body hT F_law11_small rfl rfl N_law11_small rfl ?_
  refine aw_seq (aw_region hT ?_)
  refine aw_cut ⟨⟨19, [(0, .p (.sl 1 (catX l)))]⟩, []⟩ (l.length ≤ 12) (aw_seq (aw_region hT ?_)) ?_
  · refine aw_cond (boolI (fun h => ?_) (fun h => ?_))
    · have h := of_decide_eq_true (show decide ((((catX l).length : Nat) : Int) > 12) = true from h)
      refine aw_seq (aw_region hT ?_)
      refine aw_ret ?_
      exact retPick [] ⟨false, by unfold fewB; rw [decide_eq_false (show ¬ l.length ≤ 12 by omega)]; rfl, rfl, rfl⟩ rfl
    · have h := of_decide_eq_false (show decide ((((catX l).length : Nat) : Int) > 12) = false from h)
      exact aw_skip ⟨wk_pick [] [0] rfl, by omega⟩
  intro hle
  have e : fewB 12 1500 l = l.all fun s => decide (s.length ≤ 1500) := by unfold fewB; rw [decide_eq_true hle]; rfl
  refine aw_cut ⟨⟨19, []⟩, []⟩ ((l.all fun s => decide (s.length ≤ 1500)) = true) (aw_seq (aw_region hT ?_)) ?_
  · refine aw_block ?_
    refine aw_loopW (fun n st => ∃ (k : Nat) (j : Int), n + k = l.length ∧ j = k ∧ (∀ s ∈ l.take k, s.length ≤ 1500) ∧ st = ⟨⟨19, [(0, .p (.sl 1 (catX l))), (3, i64 j)]⟩, []⟩) l.length ⟨⟨19, _⟩, []⟩ (wk_pick [] [0, 3] rfl) ⟨0, 0, rfl, rfl, fun s hs => by simp at hs, rfl⟩ ?_
    rintro n st ⟨k, j, hnk, hj, hall, rfl⟩
    refine aw_seq (aw_seq (aw_region hT ?_))
    refine aw_cond (boolI (fun h => ?_) (fun h => ?_))
    · have h := of_decide_eq_true (show decide (j < (((catX l).length : Nat) : Int)) = true from h)
      have hy := List.getElem?_eq_getElem (show k < l.length by omega)
      have hym := List.getElem_mem (show k < l.length by omega)
      generalize l[k]'(by omega) = s at hy hym
      have hyp : (catX l)[j.toNat]? = some [bP s] := by rw [hj, Int.toNat_natCast]; exact catX_get hy
      have hbs := bx_len s
      refine aw_skip ?_
      refine aw_cut ⟨⟨19, [(0, .p (.sl 1 (catX l))), (3, i64 j)]⟩, []⟩ (s.length ≤ 1500) (aw_block (aw_seq (aw_region hT ?_))) (fun hsm => ?_)
      · refine ⟨by omega, optI hyp ?_⟩
        refine aw_cond (boolI (fun h1 => ?_) (fun h1 => ?_))
        · have h1 := of_decide_eq_true (show decide ((((bx s).length : Nat) : Int) > 1500) = true from h1)
          refine aw_seq (aw_region hT ?_)
          refine aw_ret ?_
          refine retPick [] ⟨false, ?_, rfl, rfl⟩ rfl
          rw [e]
          symm
          rw [List.all_eq_false]
          exact ⟨s, hym, by rw [decide_eq_true_eq]; omega⟩
        · have h1 := of_decide_eq_false (show decide ((((bx s).length : Nat) : Int) > 1500) = false from h1)
          exact aw_skip ⟨wk_pick [] [0, 3] rfl, by omega⟩
      · refine aw_region hT ?_
        refine ⟨n - 1, by omega, _, wk_pick [] [0, 3] rfl, k + 1, IntKind.i64.wrap (j + 1), by omega, ?_, ?_, rfl⟩
        · rw [wrap64 _ (by omega) (by omega), hj]; rfl
        · intro t ht
          rw [List.take_add_one, hy] at ht
          simp only [Option.toList_some, List.mem_append, List.mem_singleton] at ht
          rcases ht with ht | rfl
          · exact hall t ht
          · exact hsm
    · have h := of_decide_eq_false (show decide (j < (((catX l).length : Nat) : Int)) = false from h)
      rw [List.take_of_length_le (by omega)] at hall
      refine aw_exit ?_
      exact ⟨wk_pick [] [] rfl, by rw [List.all_eq_true]; exact fun s hs => decide_eq_true (hall s hs)⟩
  intro hall
  refine aw_seq (aw_region hT ?_)
  refine aw_ret ?_
  exact retPick [] ⟨true, by rw [e, hall], rfl, rfl⟩ rfl

end Go.Proofs.YtinfbclgkghgaaaGreat.AL

/- The layer 09 (keep): a sector is written till it has what it should; some; what is mended. -/
namespace Go.Proofs.YtinfbclgkghgaaaGreat.AL
open Go Go.Proofs

def Dev.tryK : Nat → Dev → Int → Bytes → Int × Dev
  | 0, D, _, _ => (22, D)
  | n + 1, D, a, s => match (D.once a s).1.2 != 0 with
    | true => ((D.once a s).1.2, (D.once a s).2)
    | false => match (D.once a s).1.1 with
      | true => (0, (D.once a s).2)
      | false => Dev.tryK n (D.once a s).2 a s
def Dev.one (D : Dev) (a : Int) (s : Bytes) : Int × Dev := Dev.tryK 4 D a s
/-- One more, where it went well. -/
def more (e m : Int) : Int := match e == 0 with | true => IntKind.i64.wrap (m + 1) | false => m

theorem once_ok {D : Dev} {b : Nat} (h : D.Ok b) (a : Int) (s : Bytes) : (D.once a s).2.Ok (b + 1) := by
  unfold Dev.once
  split
  · exact h.write a s
  split
  · exact (h.write a s).flush
  · unfold Dev.hhas
    split
    · exact (h.write a s).flush.read a
    · exact (h.write a s).flush.read a
theorem tryK_ok : ∀ (n : Nat) {D : Dev} {b : Nat}, D.Ok b → ∀ (a : Int) (s : Bytes), (Dev.tryK n D a s).2.Ok (b + n)
  | 0, D, b, h, a, s => h
  | n + 1, D, b, h, a, s => by
    unfold Dev.tryK
    split
    · exact (once_ok h a s).mono (by omega)
    split
    · exact (once_ok h a s).mono (by omega)
    · rw [show b + (n + 1) = b + 1 + n by omega]
      exact tryK_ok n (once_ok h a s) a s
theorem one_ok2 {D : Dev} {b : Nat} (h : D.Ok b) (a : Int) (s : Bytes) : (D.one a s).2.Ok (b + 4) := tryK_ok 4 h a s
/-- What goes wrong tells an error. -/
theorem once_err {D : Dev} {a : Int} {s : Bytes} (h : (D.once a s).1.1 = true) : (D.once a s).1.2 = 0 := by
  unfold Dev.once at h ⊢
  split at h
  · simp at h
  split at h
  · simp at h
  · unfold Dev.hhas at h ⊢
    split at h
    · simp at h
    · have h : ((((D.write a s).2.flush.2.read a).1.2 == 0) && _) = true := h
      rw [Bool.and_eq_true] at h
      have := h.1
      simpa using this

theorem hand_one (D : Dev) (m a : Int) (s : Bytes) (b : Nat) (hD : D.Ok b) (hb : b + 4 < 1000000) : AFm Tryz.prog 2 f_keep_hand_one [.ref 0 0, putAV a s] (hH D m) (Pure (i64 (D.one a s).1) (hH (D.one a s).2 (more (D.one a s).1 m))) := by
  refine af_bodyM 2 hT F_keep_hand_one rfl rfl N_keep_hand_one rfl rfl ?_
  refine aw_seq (aw_region hT ?_)
  refine aw_wk (wk_boxL 4 [.raw (.int .i64 a), bP s] rfl rfl) ?_
  refine aw_cut2 (fun s1 => ∃ E, D.one a s = (22, E) ∧ s1 = ⟨⟨29, []⟩, hH E m⟩) (aw_seq (aw_region hT ?_)) ?_
  · refine aw_block ?_
    refine aw_loopW (fun n s1 => ∃ (i : Nat) (j : Int) (E : Dev), n + i = 4 ∧ j = i ∧ E.Ok (b + i) ∧ D.one a s = Dev.tryK n E a s ∧ s1 = ⟨⟨29, [(0, .ref 0 0), (3, .p (.box [.raw (.int .i64 a), bP s])), (7, i64 j)]⟩, hH E m⟩) 4 ⟨⟨29, _⟩, [_, _, _, _]⟩ (wk_pick [0, 1, 2, 3] [0, 3, 7] rfl) ⟨0, 0, D, rfl, rfl, hD, rfl, rfl⟩ ?_
    rintro n s1 ⟨i, j, E, hni, rfl, hE, hone, rfl⟩
    refine aw_seq (aw_region hT ?_)
    refine aw_seq (aw_cond (boolI (fun h => ?_) (fun h => ?_)))
    · have hi : i < 4 := by
        have := of_decide_eq_true (show decide ((i : Int) < 4) = true from h)
        omega
      obtain ⟨n, rfl⟩ : ∃ k, n = k + 1 := ⟨n - 1, by omega⟩
      have w := hand_once E m a s (b + i) hE (by omega)
      have ok := once_ok hE a s
      have herr := @once_err E a s
      unfold Dev.tryK at hone
      generalize E.once a s = Y at w ok hone herr
      obtain ⟨⟨y1, y2⟩, E2⟩ := Y
      refine aw_skip ?_
      refine aw_cut ⟨⟨29, [(0, .ref 0 0), (3, .p (.box [.raw (.int .i64 a), bP s])), (7, i64 i)]⟩, hH E2 m⟩ (y2 = 0 ∧ y1 = false) (aw_block (aw_seq (aw_region hT ?_))) ?_
      · refine callP (af_in [0, 1, 2, 3] w rfl rfl rfl) ?_
        refine aw_block ?_
        refine aw_seq (aw_region hT ?_)
        refine aw_cond (boolI (fun h1 => ?_) (fun h1 => ?_))
        · have h1 : (y2 != 0) = true := h1
          have e : D.one a s = (y2, E2) := by rw [hone]; simp only; rw [h1]
          refine aw_seq (aw_region hT ?_)
          refine aw_ret ?_
          rw [e]
          have hm : more y2 m = m := by unfold more; rw [show (y2 == 0) = false by simpa using h1]
          rw [hm]
          exact retPick [0, 1, 4, 5] ⟨rfl, rfl⟩ rfl
        · have h1 : (y2 != 0) = false := h1
          refine aw_seq (aw_region hT ?_)
          refine aw_cond (boolI (fun h2 => ?_) (fun h2 => ?_))
          · have h2 : y1 = true := h2
            have e : D.one a s = (0, E2) := by rw [hone]; simp only; rw [h1, h2]
            refine aw_seq (aw_region hT ?_)
            refine aw_seq (aw_region hT ?_)
            refine aw_ret ?_
            rw [e]
            exact retPick [0, 1, 4, 5] ⟨rfl, rfl⟩ rfl
          · exact aw_skip ⟨wk_pick [0, 1, 4, 5] [0, 3, 7] rfl, by simpa using h1, h2⟩
      · rintro ⟨h1, h2⟩
        have e : D.one a s = Dev.tryK n E2 a s := by rw [hone]; simp only; rw [show (y2 != 0) = false by simpa using h1, h2]
        refine aw_region hT ?_
        refine ⟨n, by omega, _, wk_pick [0, 1, 2, 3] [0, 3, 7] rfl, i + 1, IntKind.i64.wrap ((i : Int) + 1), E2, by omega, ?_, by rw [← Nat.add_assoc]; exact ok, e, rfl⟩
        rw [wrap64 _ (by omega) (by omega)]; rfl
    · have hi : ¬ (i : Int) < 4 := of_decide_eq_false h
      have hn0 : n = 0 := by omega
      subst hn0
      refine aw_exit ?_
      exact ⟨_, wk_pick [0, 1, 2, 3] [] rfl, E, hone, rfl⟩
  · rintro _ ⟨E, e, rfl⟩
    refine aw_seq (aw_region hT ?_)
    refine aw_ret ?_
    rw [e]
    exact retPick [0, 1, 2, 3] ⟨rfl, rfl⟩ rfl
end Go.Proofs.YtinfbclgkghgaaaGreat.AL

/- The layer 09 (keep): each of some; one, all. -/
namespace Go.Proofs.YtinfbclgkghgaaaGreat.AL
open Go Go.Proofs

structure Put9 where
  at_ : Int
  s : Bytes
def Put9.pv (x : Put9) : List PV := [.raw (.int .i64 x.at_), bP x.s]
def px (l : List Put9) : List (List PV) := l.map Put9.pv
theorem px_len (l : List Put9) : (px l).length = l.length := by simp [px]
theorem px_get {l : List Put9} {i : Nat} {c : Put9} (h : l[i]? = some c) : (px l)[i]? = some c.pv := by rw [px, List.getElem?_map, h]; rfl

def eachK (g : Dev → Int → Int → Bytes → Int × (Dev × Int)) : List Put9 → Dev → Int → Int × (Dev × Int)
  | [], D, m => (0, (D, m))
  | x :: r, D, m => match (g D m x.at_ x.s).1 != 0 with
    | true => g D m x.at_ x.s
    | false => eachK g r (g D m x.at_ x.s).2.1 (g D m x.at_ x.s).2.2

theorem eachK_cons (g : Dev → Int → Int → Bytes → Int × (Dev × Int)) (x : Put9) (r : List Put9) (D : Dev) (m : Int) : eachK g (x :: r) D m = match (g D m x.at_ x.s).1 != 0 with
    | true => g D m x.at_ x.s
    | false => eachK g r (g D m x.at_ x.s).2.1 (g D m x.at_ x.s).2.2 := rfl

/-- What a hand's function does to a device. -/
def Steps (f : FuncId) (g : Dev → Int → Int → Bytes → Int × (Dev × Int)) : Prop := ∀ (D : Dev) (m a : Int) (s : Bytes) (b : Nat), D.Ok b → b + 4 < 1000000 →
  AFm Tryz.prog 2 f [.ref 0 0, putAV a s] (hH D m) (Pure (i64 (g D m a s).1) (hH (g D m a s).2.1 (g D m a s).2.2)) ∧ (g D m a s).2.1.Ok (b + 4)

theorem each_ok {f : FuncId} {g : Dev → Int → Int → Bytes → Int × (Dev × Int)} (hg : Steps f g) : ∀ (l : List Put9) {D : Dev} {m : Int} {b : Nat}, D.Ok b → b + 4 * l.length < 1000000 → (eachK g l D m).2.1.Ok (b + 4 * l.length)
  | [], D, m, b, h, _ => h
  | x :: r, D, m, b, h, hb => by
    simp only [List.length_cons] at hb
    have h1 := (hg D m x.at_ x.s b h (by omega)).2
    unfold eachK
    split
    · exact h1.mono (by simp only [List.length_cons]; omega)
    · rw [show b + 4 * (x :: r).length = b + 4 + 4 * r.length by simp only [List.length_cons]; omega]
      exact each_ok hg r h1 (by omega)

theorem keep_each {f : FuncId} {g : Dev → Int → Int → Bytes → Int × (Dev × Int)} (hg : Steps f g) (l : List Put9) (D : Dev) (m : Int) (b : Nat) (hD : D.Ok b) (hb : b + 4 * l.length < 1000000) :
    AFm Tryz.prog 2 f_keep_each [.p (.sl 2 (px l)), .mth (.func f) [.ref 0 0]] (hH D m) (Pure (i64 (eachK g l D m).1) (hH (eachK g l D m).2.1 (eachK g l D m).2.2)) := by
  refine af_bodyM 2 hT F_keep_each rfl rfl N_keep_each rfl rfl ?_
  refine aw_seq (aw_region hT ?_)
  refine aw_cut2 (fun s1 => ∃ E k, eachK g l D m = (0, (E, k)) ∧ s1 = ⟨⟨21, []⟩, hH E k⟩) (aw_seq (aw_region hT ?_)) ?_
  · refine aw_block ?_
    refine aw_loopW (fun n s1 => ∃ (i : Nat) (j : Int) (E : Dev) (k : Int), n + i = l.length ∧ j = i ∧ E.Ok (b + 4 * i) ∧ eachK g l D m = eachK g (l.drop i) E k ∧ s1 = ⟨⟨21, [(1, .mth (.func f) [.ref 0 0]), (8, .p (.sl 2 (px l))), (9, i64 l.length), (10, i64 j)]⟩, hH E k⟩) l.length ⟨⟨21, _⟩, [_, _, _, _]⟩ (wk_pick [0, 1, 2, 3] [1, 8, 9, 10] rfl) ⟨0, 0, D, m, rfl, rfl, hD, rfl, by rw [← px_len l]; rfl⟩ ?_
    rintro n s1 ⟨i, j, E, k, hni, rfl, hE, he, rfl⟩
    refine aw_seq (aw_region hT ?_)
    refine aw_seq (aw_cond (boolI (fun h => ?_) (fun h => ?_)))
    · have hi : i < l.length := by
        have := of_decide_eq_true (show decide ((i : Int) < (l.length : Int)) = true from h)
        omega
      have hx := List.getElem?_eq_getElem hi
      have hdr : l.drop i = l[i] :: l.drop (i + 1) := List.drop_eq_getElem_cons hi
      generalize l[i] = x at hx hdr
      have hxp : (px l)[((i : Nat) : Int).toNat]? = some x.pv := by rw [Int.toNat_natCast]; exact px_get hx
      obtain ⟨w, ok⟩ := hg E k x.at_ x.s (b + 4 * i) hE (by omega)
      rw [hdr, eachK_cons] at he
      generalize g E k x.at_ x.s = Y at w ok he
      obtain ⟨e, E2, k2⟩ := Y
      refine aw_skip ?_
      refine aw_cut ⟨⟨21, [(1, .mth (.func f) [.ref 0 0]), (8, .p (.sl 2 (px l))), (9, i64 l.length), (10, i64 i)]⟩, hH E2 k2⟩ (e = 0) (aw_block (aw_seq (aw_region hT ?_))) ?_
      · refine ⟨Int.natCast_nonneg _, optI hxp ?_⟩
        refine aw_seq (aw_region hT ?_)
        refine callP (af_in [0, 1, 2, 3] w rfl rfl rfl) ?_
        refine aw_seq (aw_region hT ?_)
        refine aw_cond (boolI (fun h1 => ?_) (fun h1 => ?_))
        · have h1 : (e != 0) = true := h1
          have e1 : eachK g l D m = (e, (E2, k2)) := by rw [he]; simp only; rw [h1]
          refine aw_seq (aw_region hT ?_)
          refine aw_ret ?_
          rw [e1]
          exact retPick [0, 1, 5, 6] ⟨rfl, rfl⟩ rfl
        · have h1 : (e != 0) = false := h1
          exact aw_skip ⟨wk_pick [0, 1, 5, 6] [1, 8, 9, 10] rfl, by simpa using h1⟩
      · intro h1
        have e1 : eachK g l D m = eachK g (l.drop (i + 1)) E2 k2 := by rw [he]; simp only; rw [show (e != 0) = false by simpa using h1]
        refine aw_region hT ?_
        refine ⟨n - 1, by omega, _, wk_pick [0, 1, 2, 3] [1, 8, 9, 10] rfl, i + 1, IntKind.i64.wrap ((i : Int) + 1), E2, k2, by omega, ?_, by rw [show b + 4 * (i + 1) = b + 4 * i + 4 by omega]; exact ok, e1, rfl⟩
        rw [wrap64 _ (by omega) (by omega)]; rfl
    · have hi : ¬ (i : Int) < (l.length : Int) := of_decide_eq_false h
      have hil : i = l.length := by omega
      subst hil
      rw [List.drop_length] at he
      refine aw_exit ?_
      exact ⟨_, wk_pick [0, 1, 2, 3] [] rfl, E, k, he, rfl⟩
  · rintro _ ⟨E, k, e, rfl⟩
    refine aw_seq (aw_region hT ?_)
    refine aw_ret ?_
    rw [e]
    exact retPick [0, 1, 2, 3] ⟨rfl, rfl⟩ rfl

/-- One, as a step. -/
def oneG (D : Dev) (m a : Int) (s : Bytes) : Int × (Dev × Int) := ((D.one a s).1, ((D.one a s).2, more (D.one a s).1 m))
theorem steps_one : Steps f_keep_hand_one oneG := fun D m a s b hD hb => ⟨hand_one D m a s b hD hb, one_ok2 hD a s⟩

def Dev.all9 (D : Dev) (l : List Put9) : Int × Dev := ((eachK oneG l D 0).1, (eachK oneG l D 0).2.1)
theorem keep_All (D : Dev) (l : List Put9) (b : Nat) (hD : D.Ok b) (hb : b + 4 * l.length < 1000000) : AFm Tryz.prog 1 f_keep_All [.ref 0 0, .p (.sl 2 (px l))] (devH D) (Pure (i64 (D.all9 l).1) (devH (D.all9 l).2)) := by
  have w := keep_each steps_one l D 0 b hD hb
  unfold Dev.all9
  generalize eachK oneG l D 0 = Y at w
  obtain ⟨e, E, k⟩ := Y
  refine af_bodyM 1 hT F_keep_All rfl rfl N_keep_All rfl rfl ?_
  refine aw_seq (aw_region hT ?_)
  refine aw_seq (aw_region hT ?_)
  refine callP (af_in [3, 0, 1, 2] w rfl rfl rfl) ?_
  refine aw_ret ?_
  exact retPick [0, 4, 5] ⟨rfl, rfl⟩ rfl
end Go.Proofs.YtinfbclgkghgaaaGreat.AL

/- The layer 11 (ring): a log is made; what it has. -/
namespace Go.Proofs.YtinfbclgkghgaaaGreat.AL
open Go Go.Proofs

structure Rg where
  vol : Int
  g : GeoV
  epoch : Int
  frm : Int
  start : Int
  next : Int
  chain : Int
abbrev rgC (R : Rg) : ABlk := .cells t_ring_Ring [.clo (.func f_ring_New_1) [.ref 1 0], i64 R.vol, i64 R.g.w, i64 R.g.s, i64 R.g.k, i64 R.g.m, i64 R.epoch, i64 R.frm, i64 R.start, i64 R.next, i64 R.chain]
/-- A device, what points at it, and a log on it. -/
abbrev rgH (R : Rg) (D : Dev) : List ABlk := [devC D 3 4, .cells t_p_disk_Disk [.ref 0 0], rgC R, .row t_disk_cell 4 (cx D.cells), .row t_disk_write 2 (wx D.waits)]
def newOk (vol : Int) (g : GeoV) (epoch start next chain : Int) : Bool := g.may && ([vol, epoch, start, next, chain].all wordB && (!decide (next < start) && !decide (next - start > g.w)))
def newR (vol : Int) (g : GeoV) (epoch start next chain : Int) : Rg := ⟨vol, g, epoch, next, start, next, chain⟩

set_option maxRecDepth 20000 in
theorem ring_New (D : Dev) (vol : Int) (g : GeoV) (epoch start next chain : Int) (h : newOk vol g epoch start next chain = true) :
    AFm Tryz.prog 1 f_ring_New [.ref 0 0, i64 vol, g.av, i64 epoch, i64 start, i64 next, i64 chain] (devH D) (Pure (.tup [.ref 2 0, i64 0]) (rgH (newR vol g epoch start next chain) D)) := by
  have wm := geo_May g
  have ww := ring_word [vol, epoch, start, next, chain] (by simp)
  have h0 := h
  unfold newOk at h0
  rw [Bool.and_eq_true, Bool.and_eq_true, Bool.and_eq_true] at h0
  obtain ⟨hg, hw, h1, h2⟩ := h0
  rw [hg] at wm
  rw [hw] at ww
  have hw2 := hw
  unfold wordB at hw2
  simp only [List.all_cons, List.all_nil, Bool.and_true, Bool.and_eq_true, decide_eq_true_eq] at hw2
  obtain ⟨q1, q2, q3, q4, q5⟩ := hw2
  have h1 := of_decide_eq_false ((Bool.not_eq_true' _).mp h1)
  have h2 := of_decide_eq_false ((Bool.not_eq_true' _).mp h2)
  have hwr : IntKind.i64.wrap (next - start) = next - start := wrap64 _ (by omega) (by omega)
  refine af_bodyM 1 hT F_ring_New rfl rfl N_ring_New rfl rfl ?_
  refine aw_seq (aw_region hT ?_)
  refine aw_wk (wk_boxL 4 g.pv rfl rfl) ?_
  refine aw_cut ⟨⟨58, [(1, i64 vol), (3, i64 epoch), (4, i64 start), (5, i64 next), (6, i64 chain), (7, .ref 3 0), (9, .p (.box g.pv))]⟩, devH D ++ [.cells t_p_disk_Disk [.ref 0 0]]⟩ True (aw_seq (aw_regionF (fun k => Nat.beq 13 k) hT ?_)) (fun _ => ?_)
  · refine callP (af_at wm _ rfl rfl) ?_
    refine ⟨⟨rfl, rfl⟩, ?_⟩
    refine callP (af_at ww _ rfl rfl) ?_
    refine boolI (fun h => ?_) (fun h => ?_)
    · have h := of_decide_eq_true (show decide (next < start) = true from h)
      omega
    refine aw_cond (boolI (fun h => ?_) (fun h => ?_))
    · have h := of_decide_eq_true (show decide (IntKind.i64.wrap (next - start) > g.w) = true from h)
      rw [hwr] at h
      omega
    exact aw_skip ⟨wk_pick [0, 1, 2, 3] [1, 3, 4, 5, 6, 7, 9] rfl, trivial⟩
  refine aw_seq (aw_region hT ?_)
  refine aw_seq (aw_region hT ?_)
  refine aw_ret ?_
  exact retPick [0, 3, 4, 1, 2] ⟨rfl, rfl⟩ rfl

end Go.Proofs.YtinfbclgkghgaaaGreat.AL
