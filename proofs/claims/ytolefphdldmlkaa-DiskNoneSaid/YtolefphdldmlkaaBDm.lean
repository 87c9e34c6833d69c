/- The layer 06 (disk): a fault; a device that is well. -/
import Derived.Test.YtolefphdldmlkaaBDl
namespace Go.Proofs.Ytolefphdldmlkaa.AL
open Go Go.Proofs

/-- A device of which what waits, and what is misled, is in range; sectors have their length. -/
structure Dev.Ok (D : Dev) (b : Nat) : Prop where
  at_ : ∀ x ∈ D.waits, 0 ≤ x.at_ ∧ x.at_ < (D.cells.length : Int)
  ws : ∀ x ∈ D.waits, x.s.length = 256
  cs : ∀ c ∈ D.cells, c.s.length = 256
  mt : ∀ c ∈ D.cells, ∀ t ∈ c.miss, 0 ≤ t ∧ t < (D.cells.length : Int)
  ml : ∀ c ∈ D.cells, c.miss.length ≤ b
  wl : D.waits.length ≤ b

def Dev.hurt (D : Dev) (f : Flt) : Dev :=
  if f.kind = 1 then (D.settle f.at_).upd f.at_ fun c => { c with s := rotB f c.s 4 }
  else if f.kind = 2 then (D.settle f.at_).upd f.at_ fun c => { c with s := zeros, lost := false }
  else if f.kind = 3 then (D.settle f.at_).upd f.at_ fun c => { c with lost := true }
  else if f.kind = 4 then D.upd f.at_ fun c => { c with drop := IntKind.i64.wrap (c.drop + f.n) }
  else D.upd f.at_ fun c => { c with miss := c.miss ++ [f.to] }
def Dev.fault (D : Dev) (f : Flt) : Int × Dev := match D.may f == 0 with
  | false => (D.may f, D)
  | true => (0, D.hurt f)

theorem may_ok {D : Dev} {f : Flt} (h : D.may f = 0) : D.has f.at_ = true ∧ (1 ≤ f.kind ∧ f.kind ≤ 5) ∧ (f.kind = 1 → 0 ≤ f.off ∧ f.off < 256) ∧ (f.kind = 4 → 1 ≤ f.n ∧ f.n ≤ 1000) ∧ (f.kind = 5 → D.has f.to = true) := by
  unfold Dev.may at h
  split at h
  · omega
  rename_i h1
  split at h
  · omega
  rename_i h2
  split at h
  · omega
  rename_i h3
  split at h
  · omega
  rename_i h4
  split at h
  · omega
  rename_i h5
  simp only [Bool.or_eq_false_iff, decide_eq_false_iff_not, Bool.and_eq_false_iff, beq_eq_false_iff_ne, Bool.not_eq_false'] at h2 h3 h4 h5
  refine ⟨h1, by omega, fun hk => ?_, fun hk => ?_, fun hk => ?_⟩
  · rcases h3 with h3 | h3
    · exact absurd hk h3
    · omega
  · rcases h4 with h4 | h4
    · exact absurd hk h4
    · omega
  · rcases h5 with h5 | h5
    · exact absurd hk h5
    · exact h5

theorem doneL_mem {C : List Cell} {x : Wr} {c : Cell} (h : c ∈ doneL C x) : c ∈ C ∨ ∃ c0 ∈ C, c = { c0 with s := x.s, lost := false } := by
  unfold doneL at h
  split at h
  · rename_i c0 hc0
    rcases List.mem_or_eq_of_mem_set h with h | h
    · exact .inl h
    · exact .inr ⟨c0, List.mem_of_getElem? hc0, h⟩
  · exact .inl h

theorem settleC_mem {a : Int} {W : List Wr} {C : List Cell} {c : Cell} (h : c ∈ settleC a W C) : ∃ c0 ∈ C, c.miss = c0.miss ∧ (c.s = c0.s ∨ ∃ x ∈ W, c.s = x.s) := by
  induction W generalizing C with
  | nil => exact ⟨c, h, rfl, .inl rfl⟩
  | cons x r ih =>
    have h : c ∈ settleC a r (match hitA a x with | true => doneL C x | false => C) := h
    obtain ⟨c1, h1, h2, h3⟩ := ih h
    have : ∃ c0 ∈ C, c1.miss = c0.miss ∧ (c1.s = c0.s ∨ c1.s = x.s) := by
      split at h1
      · rcases doneL_mem h1 with h1 | ⟨c0, h0, e⟩
        · exact ⟨c1, h1, rfl, .inl rfl⟩
        · exact ⟨c0, h0, by rw [e], .inr (by rw [e])⟩
      · exact ⟨c1, h1, rfl, .inl rfl⟩
    obtain ⟨c0, g1, g2, g3⟩ := this
    refine ⟨c0, g1, h2.trans g2, ?_⟩
    rcases h3 with h3 | ⟨y, hy, h3⟩
    · rcases g3 with g3 | g3
      · exact .inl (h3.trans g3)
      · exact .inr ⟨x, by simp, h3.trans g3⟩
    · exact .inr ⟨y, by simp [hy], h3⟩

theorem Dev.Ok.settle {D : Dev} {b : Nat} (h : D.Ok b) (a : Int) : (D.settle a).Ok b := by
  have hl : (D.settle a).cells.length = D.cells.length := settleC_len _ _ _
  have hw : ∀ x ∈ (D.settle a).waits, x ∈ D.waits := fun x hx => (List.mem_filter.1 hx).1
  refine ⟨fun x hx => by rw [hl]; exact h.at_ x (hw x hx), fun x hx => h.ws x (hw x hx), fun c hc => ?_, fun c hc t ht => ?_, fun c hc => ?_, Nat.le_trans (settleW_le a D.waits) h.wl⟩
  · obtain ⟨c0, h0, _, h2⟩ := settleC_mem hc
    rcases h2 with h2 | ⟨x, hx, h2⟩
    · rw [h2]; exact h.cs c0 h0
    · rw [h2]; exact h.ws x hx
  · obtain ⟨c0, h0, h1, _⟩ := settleC_mem hc
    rw [h1] at ht; rw [hl]; exact h.mt c0 h0 t ht
  · obtain ⟨c0, h0, h1, _⟩ := settleC_mem hc
    rw [h1]; exact h.ml c0 h0

theorem disk_Fault (D : Dev) (f : Flt) (b : Nat) (hD : D.Ok b) (hb : b ≤ 1000000) : AFm Try.prog 3 f_disk_Disk_Fault [.ref 0 0, f.av] (devH D) (Pure (i64 (D.fault f).1) (devH (D.fault f).2)) := by
  refine af_bodyM 3 hT F_disk_Disk_Fault rfl rfl N_disk_Disk_Fault rfl rfl ?_
  refine aw_seq (aw_region hT ?_)
  refine aw_wk (wk_boxL 3 f.pv rfl rfl) ?_
  refine aw_seq (aw_seq (aw_region hT ?_))
  refine callP (af_in [0, 1, 2] (disk_may D f) rfl rfl rfl) ?_
  refine aw_seq (aw_region hT ?_)
  refine aw_cond (boolI (fun h => ?_) (fun h => ?_))
  · have h : (D.may f == 0) = false := by
      have h : (D.may f != 0) = true := h
      simpa using h
    have e : D.fault f = (D.may f, D) := by unfold Dev.fault; rw [h]
    refine aw_seq (aw_region hT ?_)
    refine aw_ret ?_
    rw [e]
    exact retPick [0, 1, 2] ⟨rfl, rfl⟩ rfl
  have h : (D.may f == 0) = true := by
    have h : (D.may f != 0) = false := h
    simpa using h
  have e : D.fault f = (0, D.hurt f) := by unfold Dev.fault; rw [h]
  have hm := may_ok (show D.may f = 0 by simpa using h)
  rw [e]
  refine aw_skip ?_
  refine aw_seq (aw_region hT ?_)
  obtain ⟨k, fa, fo, fn, ft, f0, f1, f2, f3⟩ := f
  have hw : D.waitsIn := fun x hx => hD.at_ x hx
  have hn : D.waits.length ≤ 1000000 := Nat.le_trans hD.wl hb
  have hcs : ∀ c ∈ (D.settle fa).cells, c.s.length ≤ 1000000 := fun c hc => by rw [(hD.settle fa).cs c hc]; omega
  have hml : ∀ c ∈ D.cells, c.miss.length ≤ 1000000 := fun c hc => Nat.le_trans (hD.ml c hc) hb
  have hk : k = 1 ∨ k = 2 ∨ k = 3 ∨ k = 4 ∨ k = 5 := by have := hm.2.1; simp only at this; omega
  rcases hk with rfl | rfl | rfl | rfl | rfl
  · refine aw_seq (aw_region hT ?_)
    refine callP (af_in [0, 1, 2] (disk_rot D ⟨1, fa, fo, fn, ft, f0, f1, f2, f3⟩ hw hn hm.1 (hm.2.2.1 rfl).1 (hm.2.2.1 rfl).2 hcs) rfl rfl rfl) ?_
    refine aw_seq (aw_region hT ?_)
    refine aw_ret ?_
    exact retPick [0, 1, 2] ⟨rfl, rfl⟩ rfl
  · refine aw_seq (aw_region hT ?_)
    refine callP (af_in [0, 1, 2] (disk_blank D ⟨2, fa, fo, fn, ft, f0, f1, f2, f3⟩ hw hn hm.1) rfl rfl rfl) ?_
    refine aw_seq (aw_region hT ?_)
    refine aw_ret ?_
    exact retPick [0, 1, 2] ⟨rfl, rfl⟩ rfl
  · refine aw_seq (aw_region hT ?_)
    refine callP (af_in [0, 1, 2] (disk_lose D ⟨3, fa, fo, fn, ft, f0, f1, f2, f3⟩ hw hn hm.1) rfl rfl rfl) ?_
    refine aw_seq (aw_region hT ?_)
    refine aw_ret ?_
    exact retPick [0, 1, 2] ⟨rfl, rfl⟩ rfl
  · refine aw_seq (aw_region hT ?_)
    refine callP (af_in [0, 1, 2] (disk_drop D ⟨4, fa, fo, fn, ft, f0, f1, f2, f3⟩ hm.1) rfl rfl rfl) ?_
    refine aw_seq (aw_region hT ?_)
    refine aw_ret ?_
    exact retPick [0, 1, 2] ⟨rfl, rfl⟩ rfl
  · refine aw_seq (aw_region hT ?_)
    refine callP (af_in [0, 1, 2] (disk_miss D ⟨5, fa, fo, fn, ft, f0, f1, f2, f3⟩ hm.1 hml) rfl rfl rfl) ?_
    refine aw_seq (aw_region hT ?_)
    refine aw_ret ?_
    exact retPick [0, 1, 2] ⟨rfl, rfl⟩ rfl
end Go.Proofs.Ytolefphdldmlkaa.AL
