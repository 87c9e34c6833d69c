/- A device stays well. -/
import Derived.Test.YtolefphdldmlkaaBDn
namespace Go.Proofs.Ytolefphdldmlkaa.AL
open Go Go.Proofs

theorem Dev.Ok.mono {D : Dev} {b b' : Nat} (h : D.Ok b) (hb : b ≤ b') : D.Ok b' :=
  ⟨h.at_, h.ws, h.cs, h.mt, fun c hc => Nat.le_trans (h.ml c hc) hb, Nat.le_trans h.wl hb⟩
theorem ok_new (n b : Nat) : (Dev.new n).Ok b := by
  refine ⟨fun x hx => by simp [Dev.new] at hx, fun x hx => by simp [Dev.new] at hx, fun c hc => ?_, fun c hc t ht => ?_, fun c hc => ?_, Nat.zero_le _⟩
  · rw [List.eq_of_mem_replicate hc]; exact List.length_replicate
  · rw [List.eq_of_mem_replicate hc] at ht; simp at ht
  · rw [List.eq_of_mem_replicate hc]; exact Nat.zero_le _
theorem Dev.Ok.lives {D : Dev} {b : Nat} (h : D.Ok b) : D.lives.Ok b := ⟨h.at_, h.ws, h.cs, h.mt, h.ml, h.wl⟩
theorem Dev.Ok.count {D : Dev} {b : Nat} (h : D.Ok b) : D.count.Ok b := ⟨h.at_, h.ws, h.cs, h.mt, h.ml, h.wl⟩
theorem Dev.Ok.arm {D : Dev} {b : Nat} (h : D.Ok b) (n : Int) : (D.arm n).Ok b := ⟨h.at_, h.ws, h.cs, h.mt, h.ml, h.wl⟩
theorem Dev.Ok.read {D : Dev} {b : Nat} (h : D.Ok b) (a : Int) : (D.read a).2.Ok b := by
  unfold Dev.read
  split
  · exact h
  · split
    · exact h
    · exact h.count

theorem crashC_mem {W : List Wr} {keep : List Bool} {C : List Cell} {i : Nat} {c : Cell} (h : c ∈ crashC W keep i C) (hi : i ≤ W.length) : ∃ c0 ∈ C, c.miss = c0.miss ∧ (c.s = c0.s ∨ ∃ x ∈ W, c.s = x.s) := by
  induction i generalizing c with
  | zero => exact ⟨c, h, rfl, .inl rfl⟩
  | succ i ih =>
    unfold crashC at h
    split at h
    · have hx : W.getD i ⟨0, []⟩ ∈ W := by
        rw [List.getD_eq_getElem?_getD, List.getElem?_eq_getElem (by omega)]
        exact List.getElem_mem _
      rcases doneL_mem h with h | ⟨c0, h0, e⟩
      · exact ih h (by omega)
      · obtain ⟨c1, g1, g2, _⟩ := ih h0 (by omega)
        refine ⟨c1, g1, by rw [e]; exact g2, .inr ⟨_, hx, by rw [e]⟩⟩
    · exact ih h (by omega)

theorem Dev.Ok.drain {D : Dev} {b : Nat} (h : D.Ok b) (keep : List Bool) : (D.drain keep).Ok b := by
  have hl : (D.drain keep).cells.length = D.cells.length := crashC_len _ _ _ _
  refine ⟨fun x hx => by simp [Dev.drain] at hx, fun x hx => by simp [Dev.drain] at hx, fun c hc => ?_, fun c hc t ht => ?_, fun c hc => ?_, Nat.zero_le _⟩
  · obtain ⟨c0, h0, _, h2⟩ := crashC_mem hc (Nat.le_refl _)
    rcases h2 with h2 | ⟨x, hx, h2⟩
    · rw [h2]; exact h.cs c0 h0
    · rw [h2]; exact h.ws x hx
  · obtain ⟨c0, h0, h1, _⟩ := crashC_mem hc (Nat.le_refl _)
    rw [h1] at ht; rw [hl]; exact h.mt c0 h0 t ht
  · obtain ⟨c0, h0, h1, _⟩ := crashC_mem hc (Nat.le_refl _)
    rw [h1]; exact h.ml c0 h0
theorem Dev.Ok.crashed {D : Dev} {b : Nat} (h : D.Ok b) (keep : List Bool) : (D.crashed keep).Ok b := by
  have h := h.drain keep
  exact ⟨h.at_, h.ws, h.cs, h.mt, h.ml, h.wl⟩
theorem Dev.Ok.flush {D : Dev} {b : Nat} (h : D.Ok b) : D.flush.2.Ok b := by
  unfold Dev.flush
  split
  · exact h
  · split
    · exact h.lives
    · exact h.lives.drain _

/-- A cell is changed. -/
theorem Dev.Ok.set {D : Dev} {b : Nat} (h : D.Ok b) (i : Nat) {c : Cell} (h1 : c.s.length = 256) (h2 : ∀ t ∈ c.miss, 0 ≤ t ∧ t < (D.cells.length : Int)) (h3 : c.miss.length ≤ b) : ({ D with cells := D.cells.set i c } : Dev).Ok b := by
  have hm : ∀ x ∈ D.cells.set i c, x ∈ D.cells ∨ x = c := fun x hx => List.mem_or_eq_of_mem_set hx
  refine ⟨fun x hx => by show _ ∧ _ < ((D.cells.set i c).length : Int); rw [List.length_set]; exact h.at_ x hx, h.ws, fun x hx => ?_, fun x hx t ht => ?_, fun x hx => ?_, h.wl⟩
  · rcases hm x hx with hx | rfl
    · exact h.cs x hx
    · exact h1
  · show _ ∧ _ < ((D.cells.set i c).length : Int)
    rw [List.length_set]
    rcases hm x hx with hx | rfl
    · exact h.mt x hx t ht
    · exact h2 t ht
  · rcases hm x hx with hx | rfl
    · exact h.ml x hx
    · exact h3
theorem Dev.Ok.wait {D : Dev} {b : Nat} (h : D.Ok b) {x : Wr} (h1 : 0 ≤ x.at_ ∧ x.at_ < (D.cells.length : Int)) (h2 : x.s.length = 256) : ({ D with waits := D.waits ++ [x] } : Dev).Ok (b + 1) := by
  have hm : ∀ y ∈ D.waits ++ [x], y ∈ D.waits ∨ y = x := fun y hy => by simpa using hy
  refine ⟨fun y hy => ?_, fun y hy => ?_, h.cs, h.mt, fun c hc => Nat.le_succ_of_le (h.ml c hc), ?_⟩
  · rcases hm y hy with hy | rfl
    · exact h.at_ y hy
    · exact h1
  · rcases hm y hy with hy | rfl
    · exact h.ws y hy
    · exact h2
  · show (D.waits ++ [x]).length ≤ b + 1
    have := h.wl
    simp; omega

theorem Dev.Ok.put {D : Dev} {b : Nat} (h : D.Ok b) {a : Int} (ha : D.has a = true) {s : Bytes} (hs : s.length = 256) : (D.put a s).Ok (b + 1) := by
  have hlt := has_iff ha
  obtain ⟨c, hc, _⟩ := cell_get D ha
  have hcm := List.mem_of_getElem? hc
  obtain ⟨c1, c2, c3, c4⟩ := c
  cases h3 : decide (c3 > 0) with
  | true =>
    rw [put_drop hc h3]
    exact (h.set a.toNat (c := ⟨c1, c2, IntKind.i64.wrap (c3 - 1), c4⟩) (h.cs ⟨c1, c2, c3, c4⟩ hcm) (h.mt ⟨c1, c2, c3, c4⟩ hcm) (h.ml ⟨c1, c2, c3, c4⟩ hcm)).mono (Nat.le_succ _)
  | false =>
    cases c4 with
    | nil =>
      rw [put_plain hc h3]
      exact h.wait hlt.2 hs
    | cons t r =>
      rw [put_miss hc h3]
      have ht := h.mt _ hcm t (by simp)
      have h1 := h.set a.toNat (c := ⟨c1, c2, c3, r⟩) (h.cs ⟨c1, c2, c3, t :: r⟩ hcm) (fun t' ht' => h.mt _ hcm t' (by simp [ht'])) (Nat.le_trans (Nat.le_succ _) (h.ml _ hcm))
      exact h1.wait (x := ⟨t, s⟩) (by show _ ∧ _ < ((D.cells.set _ _).length : Int); rw [List.length_set]; exact ht) hs

theorem Dev.Ok.write {D : Dev} {b : Nat} (h : D.Ok b) (a : Int) (s : Bytes) : (D.write a s).2.Ok (b + 1) := by
  unfold Dev.write
  split
  · exact h.mono (Nat.le_succ _)
  split
  · exact h.mono (Nat.le_succ _)
  rename_i ha
  split
  · exact h.mono (Nat.le_succ _)
  rename_i hs
  split
  · exact h.lives.mono (Nat.le_succ _)
  · have hs : (s.length : Int) = 256 := by simpa using hs
    exact h.lives.count.put (a := a) ha (by omega)

theorem Dev.Ok.upd {D : Dev} {b : Nat} (h : D.Ok b) {a : Int} (ha : D.has a = true) (g : Cell → Cell) (h1 : ∀ c ∈ D.cells, (g c).s.length = 256) (h2 : ∀ c ∈ D.cells, ∀ t ∈ (g c).miss, 0 ≤ t ∧ t < (D.cells.length : Int)) (h3 : ∀ c ∈ D.cells, (g c).miss.length ≤ b) : (D.upd a g).Ok b := by
  obtain ⟨c, hc, _⟩ := cell_get D ha
  have hcm := List.mem_of_getElem? hc
  unfold Dev.upd
  rw [modify_some g hc]
  exact h.set a.toNat (h1 c hcm) (h2 c hcm) (h3 c hcm)

theorem Dev.Ok.fault {D : Dev} {b : Nat} (h : D.Ok b) (f : Flt) : (D.fault f).2.Ok (b + 1) := by
  unfold Dev.fault
  split
  · exact h.mono (Nat.le_succ _)
  rename_i hm
  have hm := may_ok (show D.may f = 0 by simpa using hm)
  have hs := h.settle f.at_
  have ha : (D.settle f.at_).has f.at_ = true := (settle_has D f.at_ f.at_).trans hm.1
  unfold Dev.hurt
  split
  · exact (hs.upd ha (fun c => { c with s := rotB f c.s 4 }) (fun c hc => (rotB_len f c.s 4).trans (hs.cs c hc)) (fun c hc => hs.mt c hc) (fun c hc => hs.ml c hc)).mono (Nat.le_succ _)
  split
  · exact (hs.upd ha (fun c => { c with s := zeros, lost := false }) (fun c hc => List.length_replicate) (fun c hc => hs.mt c hc) (fun c hc => hs.ml c hc)).mono (Nat.le_succ _)
  split
  · exact (hs.upd ha (fun c => { c with lost := true }) (fun c hc => hs.cs c hc) (fun c hc => hs.mt c hc) (fun c hc => hs.ml c hc)).mono (Nat.le_succ _)
  split
  · exact (h.upd hm.1 (fun c => { c with drop := IntKind.i64.wrap (c.drop + f.n) }) (fun c hc => h.cs c hc) (fun c hc => h.mt c hc) (fun c hc => h.ml c hc)).mono (Nat.le_succ _)
  · have h5 : f.kind = 5 := by omega
    have hto := has_iff (hm.2.2.2.2 h5)
    refine (h.mono (Nat.le_succ _)).upd hm.1 (fun c => { c with miss := c.miss ++ [f.to] }) (fun c hc => h.cs c hc) (fun c hc t ht => ?_) (fun c hc => ?_)
    · rcases List.mem_append.1 ht with ht | ht
      · exact h.mt c hc t ht
      · have : t = f.to := by simpa using ht
        rw [this]; exact hto.2
    · have := h.ml c hc
      simp; omega
end Go.Proofs.Ytolefphdldmlkaa.AL
