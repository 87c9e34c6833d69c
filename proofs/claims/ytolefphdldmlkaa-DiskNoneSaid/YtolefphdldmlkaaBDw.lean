/- The law DiskKeeps, as plain lists. -/
import Derived.Test.YtolefphdldmlkaaBDt
namespace Go.Proofs.Ytolefphdldmlkaa.AL
open Go Go.Proofs

structure KeepOk (D : Dev) (a : Int) (v : UInt8) (b : Nat) : Prop where
  ok : D.Ok b
  a0 : 0 ≤ a
  len : D.cells.length = 20
  cell : ∃ c, D.cells[a.toNat]? = some c ∧ c.s = sect v ∧ c.lost = false
  ws : ∀ x ∈ D.waits, x.at_ ≠ a
  ms : ∀ c ∈ D.cells, ∀ t ∈ c.miss, t ≠ a

theorem doneL_ne {C : List Cell} {x : Wr} {a : Int} (h0 : 0 ≤ x.at_) (ha : 0 ≤ a) (h : x.at_ ≠ a) : (doneL C x)[a.toNat]? = C[a.toNat]? := by
  unfold doneL; split
  · rw [List.getElem?_set_ne (by omega)]
  · rfl
theorem crashC_ne {W : List Wr} {keep : List Bool} {C : List Cell} {a : Int} (ha : 0 ≤ a) (h0 : ∀ x ∈ W, 0 ≤ x.at_) (h : ∀ x ∈ W, x.at_ ≠ a) : ∀ i, i ≤ W.length → (crashC W keep i C)[a.toNat]? = C[a.toNat]?
  | 0, _ => rfl
  | i + 1, hi => by
    have ih := crashC_ne (keep := keep) (C := C) ha h0 h i (by omega)
    unfold crashC
    split
    · have hx : W.getD i ⟨0, []⟩ ∈ W := by
        rw [List.getD_eq_getElem?_getD, List.getElem?_eq_getElem (by omega)]
        exact List.getElem_mem _
      rw [doneL_ne (h0 _ hx) ha (h _ hx)]; exact ih
    · exact ih
theorem settleC_ne {W : List Wr} {a p : Int} (ha : 0 ≤ a) (hp : p ≠ a) : ∀ {C : List Cell}, (∀ x ∈ W, 0 ≤ x.at_) → (settleC p W C)[a.toNat]? = C[a.toNat]? := by
  induction W with
  | nil => intro C _; rfl
  | cons x r ih =>
    intro C h0
    show (settleC p r (match hitA p x with | true => doneL C x | false => C))[a.toNat]? = _
    rw [ih fun y hy => h0 y (by simp [hy])]
    split
    · rename_i hh
      have : x.at_ = p := by simpa using hh
      exact doneL_ne (h0 x (by simp)) ha (by rw [this]; exact hp)
    · rfl

theorem KeepOk.lives {D : Dev} {a : Int} {v : UInt8} {b : Nat} (h : KeepOk D a v b) : KeepOk D.lives a v b := ⟨h.ok.lives, h.a0, h.len, h.cell, h.ws, h.ms⟩
theorem KeepOk.count {D : Dev} {a : Int} {v : UInt8} {b : Nat} (h : KeepOk D a v b) : KeepOk D.count a v b := ⟨h.ok.count, h.a0, h.len, h.cell, h.ws, h.ms⟩
theorem KeepOk.arm {D : Dev} {a : Int} {v : UInt8} {b : Nat} (h : KeepOk D a v b) (n : Int) : KeepOk (D.arm n) a v b := ⟨h.ok.arm n, h.a0, h.len, h.cell, h.ws, h.ms⟩
theorem KeepOk.mono {D : Dev} {a : Int} {v : UInt8} {b : Nat} (h : KeepOk D a v b) : KeepOk D a v (b + 1) := ⟨h.ok.mono (Nat.le_succ _), h.a0, h.len, h.cell, h.ws, h.ms⟩

theorem KeepOk.drain {D : Dev} {a : Int} {v : UInt8} {b : Nat} (h : KeepOk D a v b) (keep : List Bool) : KeepOk (D.drain keep) a v b := by
  refine ⟨h.ok.drain keep, h.a0, (crashC_len _ _ _ _).trans h.len, ?_, fun x hx => by simp [Dev.drain] at hx, fun c hc t ht => ?_⟩
  · obtain ⟨c, h1, h2⟩ := h.cell
    exact ⟨c, (crashC_ne h.a0 (fun x hx => (h.ok.at_ x hx).1) h.ws _ (Nat.le_refl _)).trans h1, h2⟩
  · obtain ⟨c0, h0, h1, _⟩ := crashC_mem hc (Nat.le_refl _)
    rw [h1] at ht
    exact h.ms c0 h0 t ht
theorem KeepOk.crashed {D : Dev} {a : Int} {v : UInt8} {b : Nat} (h : KeepOk D a v b) (keep : List Bool) : KeepOk (D.crashed keep) a v b := by
  have h2 := h.drain keep
  exact ⟨h.ok.crashed keep, h.a0, h2.len, h2.cell, h2.ws, h2.ms⟩
theorem KeepOk.flush {D : Dev} {a : Int} {v : UInt8} {b : Nat} (h : KeepOk D a v b) : KeepOk D.flush.2 a v b := by
  unfold Dev.flush
  split
  · exact h
  split
  · exact h.lives
  · exact h.lives.drain _
theorem KeepOk.settle {D : Dev} {a : Int} {v : UInt8} {b : Nat} (h : KeepOk D a v b) {p : Int} (hp : p ≠ a) : KeepOk (D.settle p) a v b := by
  refine ⟨h.ok.settle p, h.a0, (settleC_len _ _ _).trans h.len, ?_, fun x hx => h.ws x (List.mem_filter.1 hx).1, fun c hc t ht => ?_⟩
  · obtain ⟨c, h1, h2⟩ := h.cell
    exact ⟨c, (settleC_ne h.a0 hp (fun x hx => (h.ok.at_ x hx).1)).trans h1, h2⟩
  · obtain ⟨c0, h0, h1, _⟩ := settleC_mem hc
    rw [h1] at ht
    exact h.ms c0 h0 t ht

/-- A cell of another place is changed. -/
theorem KeepOk.upd {D : Dev} {a : Int} {v : UInt8} {b : Nat} (h : KeepOk D a v b) {p : Int} (h0 : 0 ≤ p) (hp : p ≠ a) (g : Cell → Cell) (hok : (D.upd p g).Ok b) (hm : ∀ c ∈ D.cells, ∀ t ∈ (g c).miss, t ≠ a) : KeepOk (D.upd p g) a v b := by
  have ha := h.a0
  refine ⟨hok, h.a0, (List.length_modify ..).trans h.len, ?_, h.ws, fun c hc t ht => ?_⟩
  · obtain ⟨c, h1, h2⟩ := h.cell
    refine ⟨c, ?_, h2⟩
    show (D.cells.modify p.toNat g)[a.toNat]? = some c
    rw [List.getElem?_modify, h1]
    show some (if p.toNat = a.toNat then g c else c) = some c
    rw [if_neg (by omega)]
  · have hc : c ∈ D.cells.modify p.toNat g := hc
    obtain ⟨k, hk⟩ := List.getElem?_of_mem hc
    rw [List.getElem?_modify] at hk
    cases hck : D.cells[k]? with
    | none => rw [hck] at hk; cases hk
    | some c0 =>
      rw [hck] at hk
      have hk : some (if p.toNat = k then g c0 else c0) = some c := hk
      have hmem := List.mem_of_getElem? hck
      by_cases e : p.toNat = k
      · rw [if_pos e] at hk
        obtain rfl := Option.some.inj hk
        exact hm c0 hmem t ht
      · rw [if_neg e] at hk
        obtain rfl := Option.some.inj hk
        exact h.ms c0 hmem t ht

theorem upd_set {D : Dev} {p : Int} {c : Cell} (g : Cell → Cell) (h : D.cells[p.toNat]? = some c) : D.upd p g = { D with cells := D.cells.set p.toNat (g c) } := by
  unfold Dev.upd; rw [modify_some g h]

theorem KeepOk.put {D : Dev} {a : Int} {v : UInt8} {b : Nat} (h : KeepOk D a v b) {p : Int} (hp : D.has p = true) (hpa : p ≠ a) {s : Bytes} (hs : s.length = 256) : KeepOk (D.put p s) a v (b + 1) := by
  have hok := h.ok.put hp hs
  have hlt := has_iff hp
  have ha := h.a0
  obtain ⟨c, hc, _⟩ := cell_get D hp
  have hcm := List.mem_of_getElem? hc
  obtain ⟨c1, c2, c3, c4⟩ := c
  have upd : ∀ (c' : Cell), (∀ t ∈ c'.miss, t ≠ a) → (∃ c, (D.cells.set p.toNat c')[a.toNat]? = some c ∧ c.s = sect v ∧ c.lost = false) ∧ ∀ c ∈ D.cells.set p.toNat c', ∀ t ∈ c.miss, t ≠ a := fun c' h' => by
    refine ⟨?_, fun c hc t ht => ?_⟩
    · obtain ⟨c, h1, h2⟩ := h.cell
      exact ⟨c, by rw [List.getElem?_set_ne (by omega)]; exact h1, h2⟩
    · rcases List.mem_or_eq_of_mem_set hc with hc | rfl
      · exact h.ms c hc t ht
      · exact h' t ht
  cases h3 : decide (c3 > 0) with
  | true =>
    rw [put_drop hc h3] at hok ⊢
    have hu := upd ⟨c1, c2, IntKind.i64.wrap (c3 - 1), c4⟩ (fun t ht => h.ms _ hcm t ht)
    exact ⟨hok, h.a0, (List.length_set ..).trans h.len, hu.1, h.ws, hu.2⟩
  | false =>
    cases c4 with
    | nil =>
      rw [put_plain hc h3] at hok ⊢
      refine ⟨hok, h.a0, h.len, h.cell, fun x hx => ?_, h.ms⟩
      rcases List.mem_append.1 hx with hx | hx
      · exact h.ws x hx
      · have : x = ⟨p, s⟩ := by simpa using hx
        rw [this]; exact hpa
    | cons t r =>
      rw [put_miss hc h3] at hok ⊢
      have ht := h.ms _ hcm t (by simp)
      have hu := upd ⟨c1, c2, c3, r⟩ (fun t' ht' => h.ms _ hcm t' (by simp [ht']))
      refine ⟨hok, h.a0, (List.length_set ..).trans h.len, hu.1, fun x hx => ?_, hu.2⟩
      rcases List.mem_append.1 hx with hx | hx
      · exact h.ws x hx
      · have : x = ⟨t, s⟩ := by simpa using hx
        rw [this]; exact ht

theorem KeepOk.write {D : Dev} {a : Int} {v : UInt8} {b : Nat} (h : KeepOk D a v b) {p : Int} (hpa : p ≠ a) (s : Bytes) : KeepOk (D.write p s).2 a v (b + 1) := by
  unfold Dev.write
  split
  · exact h.mono
  split
  · exact h.mono
  rename_i hp
  split
  · exact h.mono
  rename_i hs
  split
  · exact h.lives.mono
  · have hs : (s.length : Int) = 256 := by simpa using hs
    exact h.lives.count.put (p := p) hp hpa (by omega)

theorem KeepOk.fault {D : Dev} {a : Int} {v : UInt8} {b : Nat} (h : KeepOk D a v b) (f : Flt) (h1 : f.at_ ≠ a) (h2 : f.to ≠ a) : KeepOk (D.fault f).2 a v (b + 1) := by
  have hok := h.ok.fault f
  unfold Dev.fault at hok ⊢
  split
  · exact h.mono
  rename_i hm0
  rw [hm0] at hok
  have hm := may_ok (show D.may f = 0 by simpa using hm0)
  have h0 := (has_iff hm.1).2.1
  have hs := (h.settle h1).mono
  have hok : (D.hurt f).Ok (b + 1) := hok
  show KeepOk (D.hurt f) a v (b + 1)
  unfold Dev.hurt at hok ⊢
  split
  · rename_i hk; rw [if_pos hk] at hok
    exact hs.upd h0 h1 _ hok (fun c hc => hs.ms c hc)
  rename_i k1; rw [if_neg k1] at hok
  split
  · rename_i hk; rw [if_pos hk] at hok
    exact hs.upd h0 h1 _ hok (fun c hc => hs.ms c hc)
  rename_i k2; rw [if_neg k2] at hok
  split
  · rename_i hk; rw [if_pos hk] at hok
    exact hs.upd h0 h1 _ hok (fun c hc => hs.ms c hc)
  rename_i k3; rw [if_neg k3] at hok
  split
  · rename_i hk; rw [if_pos hk] at hok
    exact h.mono.upd h0 h1 _ hok (fun c hc => h.ms c hc)
  rename_i k4; rw [if_neg k4] at hok
  refine h.mono.upd h0 h1 _ hok (fun c hc t ht => ?_)
  rcases List.mem_append.1 ht with ht | ht
  · exact h.ms c hc t ht
  · have : t = f.to := by simpa using ht
    rw [this]; exact h2

/-- Is a call of that place? -/
def Op06.of (x : Op06) (a : Int) : Bool := ((x.kind == 0) && (x.at_ == a)) || ((x.kind == 2) && ((x.f.at_ == a) || (x.f.to == a)))
theorem KeepOk.does {D : Dev} {a : Int} {v : UInt8} {b : Nat} (h : KeepOk D a v b) (x : Op06) (hx : x.of a = false) : KeepOk (D.does x).2 a v (b + 1) := by
  unfold Op06.of at hx
  simp only [Bool.or_eq_false_iff, Bool.and_eq_false_iff, beq_eq_false_iff_ne] at hx
  unfold Dev.does
  split
  · rename_i hk
    have hk : x.kind = 0 := by simpa using hk
    exact h.write (hx.1.resolve_left (fun h => h hk)) _
  split
  · exact h.flush.mono
  split
  · rename_i hk
    have hk : x.kind = 2 := by simpa using hk
    have := hx.2.resolve_left (fun h => h hk)
    exact h.fault _ this.1 this.2
  split
  · exact (h.arm _).mono
  split
  · exact (h.crashed _).mono
  · exact h.mono

theorem keep_end {D : Dev} {a : Int} {v : UInt8} {b : Nat} (h : KeepOk D a v b) (ha : a < 20) : (D.crashed []).holds a v = true := by
  have hl : (D.crashed []).cells.length = 20 := (crashC_len _ _ _ _).trans h.len
  have h1 : (D.crashed []).has a = true := by
    unfold Dev.has; rw [hl, decide_eq_true (show a ≥ 0 from h.a0), decide_eq_true (by omega)]; rfl
  obtain ⟨c, hc, hs, hlost⟩ := (h.crashed []).cell
  have e : (D.crashed []).readAt a = (0, sect v) := by
    rw [readAt_eq]
    show cellAt (D.crashed []).cells[a.toNat]? = _
    rw [hc]
    show (match c.lost with | true => (20, []) | false => ((0 : Int), c.s)) = _
    rw [hlost, ← hs]
  have h2 : (D.crashed []).dead = false := rfl
  generalize D.crashed [] = E at *
  unfold Dev.holds
  have e2 : E.read a = (((E.readAt a).2, (E.readAt a).1), E.count) := by unfold Dev.read; rw [h2, h1]
  rw [e2, e]
  show (match (0 : Int) == 0 with | true => sect v == sect v | false => false) = true
  simp

theorem keep_start {v : UInt8} {a : Int} (ha : 0 ≤ a) (hb : a < 20) : ((Dev.new 20).write a (sect v)).1 = 0 ∧ ((Dev.new 20).write a (sect v)).2.flush.1 = 0 ∧ KeepOk ((Dev.new 20).write a (sect v)).2.flush.2 a v 1 := by
  obtain ⟨h1, h2⟩ := plain_write plain_new ha hb v
  obtain ⟨h3, h4⟩ := plain_flush h2
  refine ⟨h1, h3, ?_⟩
  generalize ((Dev.new 20).write a (sect v)).2 = E at h2 h4 h3
  have e : E.flush = (0, E.lives.drain [true]) := by unfold Dev.flush; rw [h2.dead, h2.lives.2]
  have hv := h4.val a.toNat (by omega)
  rw [Int.toNat_of_nonneg ha, readAt_eq, List.getD_eq_getElem?_getD, List.getElem?_set_self (by simp; omega)] at hv
  have hv : cellAt E.flush.2.cells[a.toNat]? = (0, sect v) := by
    have hw : E.flush.2.waits = [] := by rw [e]; rfl
    rw [hw] at hv; exact hv
  refine ⟨h4.ok, ha, h4.len, ?_, fun x hx => ?_, fun c hc t ht => ?_⟩
  · have hlt : a.toNat < E.flush.2.cells.length := by rw [h4.len]; omega
    have hc := List.getElem?_eq_getElem hlt
    have hp := h4.pl _ (List.getElem_mem hlt)
    generalize E.flush.2.cells[a.toNat] = c at hc hp
    rw [hc] at hv
    have hv : (match c.lost with | true => (20, []) | false => ((0 : Int), c.s)) = (0, sect v) := hv
    rw [hp.2.2] at hv
    exact ⟨c, hc, by simpa using hv, hp.2.2⟩
  · have hw : E.flush.2.waits = [] := by rw [e]; rfl
    rw [hw] at hx; cases hx
  · rw [(h4.pl c hc).2.1] at ht; cases ht
end Go.Proofs.Ytolefphdldmlkaa.AL
