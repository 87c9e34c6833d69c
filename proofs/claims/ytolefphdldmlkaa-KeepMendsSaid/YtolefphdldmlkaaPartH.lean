/- A part of the proof. -/
import Derived.Test.YtolefphdldmlkaaPartG
/- The law DiskKeeps, walked. -/
namespace Go.Proofs.Ytolefphdldmlkaa.AL
open Go Go.Proofs

set_option maxRecDepth 8000 in
theorem disk_keeps (a : Int) (v : UInt8) (l : List Op06) : AF Try.prog f_law06_DiskKeeps [i64 a, .p (u8 v), .p (.sl 14 (opx l))] [] (Pure (bl true) []) := by
  refine af_body hT F_law06_DiskKeeps rfl rfl N_law06_DiskKeeps rfl ?_
  refine aw_seq (aw_region hT ?_)
  refine aw_seq (aw_region hT ?_)
  refine callP law06_awake ?_
  refine aw_cut ⟨⟨97, [(0, i64 a), (1, .p (u8 v)), (2, .p (.sl 14 (opx l)))]⟩, []⟩ (0 ≤ a ∧ a < 20 ∧ l.length ≤ 60) (aw_seq (aw_region hT ?_)) ?_
  · refine boolI (fun h => ?_) (fun h => ?_)
    · refine aw_cond ?_
      refine aw_seq (aw_region hT ?_)
      refine aw_ret ?_
      exact retPick [] ⟨rfl, rfl⟩ rfl
    · refine boolI (fun h2 => ?_) (fun h2 => ?_)
      · refine aw_cond ?_
        refine aw_seq (aw_region hT ?_)
        refine aw_ret ?_
        exact retPick [] ⟨rfl, rfl⟩ rfl
      · refine aw_cond (boolI (fun h3 => ?_) (fun h3 => ?_))
        · refine aw_seq (aw_region hT ?_)
          refine aw_ret ?_
          exact retPick [] ⟨rfl, rfl⟩ rfl
        · have h : decide (a < 0) = false := h
          have h2 : decide (a > 19) = false := h2
          have h3 : decide (((opx l).length : Int) > 60) = false := h3
          have h := of_decide_eq_false h
          have h2 := of_decide_eq_false h2
          have h3 := of_decide_eq_false h3
          rw [opx_len] at h3
          exact aw_skip ⟨wk_pick [] [0, 1, 2] rfl, by omega, by omega, by omega⟩
  rintro ⟨ha, hb, hn⟩
  obtain ⟨k1, k2, k3⟩ := keep_start (v := v) ha hb
  have n1 := disk_New 20 (by omega) (by omega)
  have o1 := ok_new 20 0
  generalize Dev.new 20 = D1 at n1 k1 k2 k3 o1
  have o2 := o1.write a (sect v)
  have w1 := disk_Write D1 a (sect v) (o1.big (by omega)).2.1
  rw [k1] at w1
  generalize (D1.write a (sect v)).2 = D2 at w1 k2 k3 o2
  have w2 := disk_Flush D2 (o2.big (by omega)).1 (o2.big (by omega)).2.1
  rw [k2] at w2
  generalize D2.flush.2 = D3 at w2 k3
  refine aw_seq (aw_region hT ?_)
  refine callP n1 ?_
  refine aw_seq (aw_region hT ?_)
  refine callP (af_at (law06_Sector v) _ rfl rfl) ?_
  refine callP (af_in [0, 1, 2] w1 rfl rfl rfl) ?_
  refine aw_wk (wk_pick [0, 3, 4] [0, 1, 2, 8, 10] rfl) ?_
  refine aw_seq (aw_region hT ?_)
  refine callP (af_in [0, 1, 2] w2 rfl rfl rfl) ?_
  refine aw_wk (wk_pick [0, 3, 4] [0, 1, 2, 8, 10, 11] rfl) ?_
  refine aw_cut2 (fun s1 => ∃ D b, KeepOk D a v b ∧ b ≤ 100 ∧ s1 = ⟨⟨97, [(0, i64 a), (1, .p (u8 v)), (8, .ref 0 0), (10, i64 0), (11, i64 0)]⟩, devH D⟩) (aw_seq (aw_region hT ?_)) ?_
  · refine aw_block ?_
    refine aw_loopW (fun n s => ∃ (i : Nat) (j : Int) (D : Dev), n + i = l.length ∧ j = i ∧ KeepOk D a v (i + 1) ∧ s = ⟨⟨97, [(0, i64 a), (1, .p (u8 v)), (2, .p (.sl 14 (opx l))), (8, .ref 0 0), (10, i64 0), (11, i64 0), (12, i64 j)]⟩, devH D⟩) l.length ⟨⟨97, _⟩, [_, _, _]⟩ (wk_pick [0, 1, 2] [0, 1, 2, 8, 10, 11, 12] rfl) ⟨0, 0, D3, rfl, rfl, k3, rfl⟩ ?_
    rintro n s ⟨i, j, D, hni, rfl, hp, rfl⟩
    refine aw_seq (aw_seq (aw_region hT ?_))
    refine aw_cond (boolI (fun h => ?_) (fun h => ?_))
    · have hi : i < l.length := by
        have := of_decide_eq_true (show decide ((i : Int) < ((opx l).length : Int)) = true from h)
        rw [opx_len] at this; omega
      have hx := List.getElem?_eq_getElem hi
      generalize l[i] = x at hx
      have hx : (opx l)[((i : Nat) : Int).toNat]? = some x.pv := by rw [Int.toNat_natCast]; exact opx_get hx
      refine aw_skip ?_
      refine aw_cut2 (fun s1 => ∃ D, KeepOk D a v (i + 2) ∧ s1 = ⟨⟨97, [(0, i64 a), (1, .p (u8 v)), (2, .p (.sl 14 (opx l))), (8, .ref 0 0), (10, i64 0), (11, i64 0), (12, i64 i)]⟩, devH D⟩) (aw_block (aw_seq (aw_region hT ?_))) ?_
      · refine ⟨Int.natCast_nonneg _, optI hx ?_⟩
        refine aw_wk (wk_boxL 3 x.pv rfl rfl) ?_
        refine aw_seq (aw_cut2 (fun s1 => ∃ bb, bb = x.of a ∧ s1 = ⟨⟨97, [(0, i64 a), (1, .p (u8 v)), (2, .p (.sl 14 (opx l))), (8, .ref 0 0), (10, i64 0), (11, i64 0), (12, i64 i), (13, .p (.box x.pv)), (79, bl bb)]⟩, devH D⟩) (aw_region hT ?_) ?_)
        · refine boolI (fun h0 => ?_) (fun h0 => ?_)
          · have h0 : (x.kind == 0) = true := h0
            refine boolI (fun h1 => ?_) (fun h1 => ?_)
            · refine ⟨_, wk_pick [0, 1, 2] [0, 1, 2, 8, 10, 11, 12, 13, 79] rfl, true, ?_, rfl⟩
              unfold Op06.of
              rw [h0, show (x.at_ == a) = true from h1]; rfl
            · have h1 : (x.at_ == a) = false := h1
              refine boolI (fun h2 => ?_) (fun h2 => ?_)
              · have h2 : (x.kind == 2) = true := h2
                refine boolI (fun h3 => ?_) (fun h3 => ?_)
                · refine ⟨_, wk_pick [0, 1, 2] [0, 1, 2, 8, 10, 11, 12, 13, 79] rfl, true, ?_, rfl⟩
                  unfold Op06.of
                  rw [h0, h1, h2, show (x.f.at_ == a) = true from h3]; rfl
                · refine ⟨_, wk_pick [0, 1, 2] [0, 1, 2, 8, 10, 11, 12, 13, 79] rfl, (x.f.to == a), ?_, rfl⟩
                  unfold Op06.of
                  rw [h0, h1, h2, show (x.f.at_ == a) = false from h3]; rfl
              · refine ⟨_, wk_pick [0, 1, 2] [0, 1, 2, 8, 10, 11, 12, 13, 79] rfl, false, ?_, rfl⟩
                unfold Op06.of
                rw [h0, h1, show (x.kind == 2) = false from h2]; rfl
          · have h0 : (x.kind == 0) = false := h0
            refine boolI (fun h2 => ?_) (fun h2 => ?_)
            · have h2 : (x.kind == 2) = true := h2
              refine boolI (fun h3 => ?_) (fun h3 => ?_)
              · refine ⟨_, wk_pick [0, 1, 2] [0, 1, 2, 8, 10, 11, 12, 13, 79] rfl, true, ?_, rfl⟩
                unfold Op06.of
                rw [h0, h2, show (x.f.at_ == a) = true from h3]; rfl
              · refine ⟨_, wk_pick [0, 1, 2] [0, 1, 2, 8, 10, 11, 12, 13, 79] rfl, (x.f.to == a), ?_, rfl⟩
                unfold Op06.of
                rw [h0, h2, show (x.f.at_ == a) = false from h3]; rfl
            · refine ⟨_, wk_pick [0, 1, 2] [0, 1, 2, 8, 10, 11, 12, 13, 79] rfl, false, ?_, rfl⟩
              unfold Op06.of
              rw [h0, show (x.kind == 2) = false from h2]; rfl
        · rintro _ ⟨bb, hbb, rfl⟩
          refine aw_cond (boolI (fun h4 => ?_) (fun h4 => ?_))
          · refine aw_exit ?_
            exact ⟨_, wk_pick [0, 1, 2] [0, 1, 2, 8, 10, 11, 12] rfl, D, hp.mono, rfl⟩
          · refine aw_skip ?_
            have w := law06_Does D x (i + 1) hp.ok (by omega)
            have hp2 := hp.does x (hbb.symm.trans h4)
            generalize D.does x = R at w hp2
            refine aw_region hT ?_
            refine callP (af_in [0, 1, 2] w rfl rfl rfl) ?_
            exact ⟨_, wk_pick [0, 3, 4] [0, 1, 2, 8, 10, 11, 12] rfl, R.2, hp2, rfl⟩
      · rintro _ ⟨D, hp, rfl⟩
        refine aw_region hT ?_
        refine ⟨n - 1, by omega, _, wk_pick [0, 1, 2] [0, 1, 2, 8, 10, 11, 12] rfl, i + 1, IntKind.i64.wrap ((i : Int) + 1), D, by omega, ?_, hp, rfl⟩
        rw [wrap64 _ (by omega) (by omega)]; rfl
    · refine aw_exit ?_
      refine ⟨_, wk_pick [0, 1, 2] [0, 1, 8, 10, 11] rfl, D, i + 1, hp, by omega, rfl⟩
  · rintro _ ⟨D, b, hp, hb2, rfl⟩
    have w3 := disk_Crash D [] (hp.ok.big (by omega)).1 (hp.ok.big (by omega)).2.1
    have w4 := law06_has (D.crashed []) a v b (hp.ok.crashed []) (by omega)
    rw [keep_end hp hb] at w4
    generalize D.crashed [] = D4 at w3 w4
    refine aw_seq (aw_region hT ?_)
    refine callP (af_args (af_in (args := [.ref 0 0, .p (.sl 1 (kx []))]) [0, 1, 2] w3 rfl rfl rfl) ⟨.inl rfl, .inr ⟨rfl, 1, rfl⟩, trivial⟩) ?_
    refine aw_wk (wk_pick [0, 3, 4] [0, 1, 8, 10, 11] rfl) ?_
    refine aw_seq (aw_region hT ?_)
    refine callP (af_in [0, 1, 2] w4 rfl rfl rfl) ?_
    refine aw_ret ?_
    exact retPick [] ⟨rfl, rfl⟩ rfl
end Go.Proofs.Ytolefphdldmlkaa.AL

/- The layer 06 (disk): a copy. -/
namespace Go.Proofs.Ytolefphdldmlkaa.AL
open Go Go.Proofs

theorem src_row (t : TypeId) (sz : Nat) (xs : List (List PV)) (r : List ABlk) : srcOf (.row t sz xs :: r) sz (.msl 0 sz 0 xs.length) = some xs := by
  have h : Nat.ble xs.length xs.length = true := by rw [Nat.ble_eq]; exact Nat.le_refl _
  simp [srcOf, h]

theorem clone_cells (xs : List (List PV)) (hl : xs.length ≤ 1000000) : AFm Try.prog 1 f_slices_Clone_disk_cell [.msl 0 4 0 xs.length] [.row t_disk_cell 4 xs] (Pure (.msl 1 4 0 xs.length) [.row t_disk_cell 4 xs, .row t_disk_cell 4 xs]) := by
  refine af_bodyM 1 hT F_slices_Clone_disk_cell rfl rfl N_slices_Clone_disk_cell rfl rfl ?_
  refine aw_seq (aw_region hT ?_)
  refine aw_seq (aw_seq (aw_region hT ?_))
  intro b hn
  refine aw_cond (boolI (fun h => ?_) (fun h => ?_))
  · refine aw_seq (aw_region hT ?_)
    refine aw_ret ?_
    have hx : xs = [] := List.length_eq_zero_iff.1 (hn h)
    subst hx
    exact ⟨_, _, Wk.trans (wk_phantom t_disk_cell 4) (Wk.trans (wk_nil 0 1 4 0 rfl) (wk_pick [0, 1] [0] rfl)), rfl, rfl⟩
  · refine aw_skip ?_
    refine aw_seq (aw_region hT ?_)
    refine optI (src_row t_disk_cell 4 xs _) ?_
    refine ⟨rfl, ⟨?_, ?_⟩, ?_⟩
    · show (0 + xs.length) * 64 ≤ _; omega
    · show 0 + xs.length ≤ _; omega
    refine aw_ret ?_
    exact retPick [0, 2] ⟨rfl, rfl⟩ rfl

theorem clone_writes (xs : List (List PV)) (hl : xs.length ≤ 1000000) : AFm Try.prog 1 f_slices_Clone_disk_write [.msl 0 2 0 xs.length] [.row t_disk_write 2 xs] (Pure (.msl 1 2 0 xs.length) [.row t_disk_write 2 xs, .row t_disk_write 2 xs]) := by
  refine af_bodyM 1 hT F_slices_Clone_disk_write rfl rfl N_slices_Clone_disk_write rfl rfl ?_
  refine aw_seq (aw_region hT ?_)
  refine aw_seq (aw_seq (aw_region hT ?_))
  intro b hn
  refine aw_cond (boolI (fun h => ?_) (fun h => ?_))
  · refine aw_seq (aw_region hT ?_)
    refine aw_ret ?_
    have hx : xs = [] := List.length_eq_zero_iff.1 (hn h)
    subst hx
    exact ⟨_, _, Wk.trans (wk_phantom t_disk_write 2) (Wk.trans (wk_nil 0 1 2 0 rfl) (wk_pick [0, 1] [0] rfl)), rfl, rfl⟩
  · refine aw_skip ?_
    refine aw_seq (aw_region hT ?_)
    refine optI (src_row t_disk_write 2 xs _) ?_
    refine ⟨rfl, ⟨?_, ?_⟩, ?_⟩
    · show (0 + xs.length) * 32 ≤ _; omega
    · show 0 + xs.length ≤ _; omega
    refine aw_ret ?_
    exact retPick [0, 2] ⟨rfl, rfl⟩ rfl

theorem disk_Copy (D : Dev) (hc : D.cells.length ≤ 1000000) (hn : D.waits.length ≤ 1000000) : AFm Try.prog 3 f_disk_Disk_Copy [.ref 0 0] (devH D) (Pure (.ref 3 0) (devH D ++ [devC D 4 5, .row t_disk_cell 4 (cx D.cells), .row t_disk_write 2 (wx D.waits)])) := by
  have c1 := clone_cells (cx D.cells) (by rw [cx_len]; exact hc)
  have c2 := clone_writes (wx D.waits) (by rw [wx_len]; exact hn)
  rw [cx_len] at c1
  rw [wx_len] at c2
  refine af_bodyM 3 hT F_disk_Disk_Copy rfl rfl N_disk_Disk_Copy rfl rfl ?_
  refine aw_seq (aw_region hT ?_)
  refine aw_seq (aw_seq (aw_region hT ?_))
  refine aw_cond ?_
  refine aw_skip ?_
  refine aw_seq (aw_region hT ?_)
  refine aw_seq ?_
  refine aw_draw [4, 9, 11, 13] [] hT follows_mixed (by rfl) ?_
  refine ⟨_, _, af_in [1] c1 rfl rfl rfl, ?_⟩
  refine ⟨_, _, af_in [2] c2 rfl rfl rfl, ?_⟩
  refine ⟨rfl, ?_⟩
  refine aw_seq (aw_region hT ?_)
  refine aw_ret ?_
  exact retPick [0, 1, 2, 3, 4, 5] ⟨rfl, rfl⟩ rfl
end Go.Proofs.Ytolefphdldmlkaa.AL

/- The law DiskCrashes. -/
namespace Go.Proofs.Ytolefphdldmlkaa.AL
open Go Go.Proofs

/-- Neither armed nor dead. -/
structure Quiet (D : Dev) (b : Nat) : Prop where
  ok : D.Ok b
  len : D.cells.length = 20
  dead : D.dead = false
  armed : D.armed = false
theorem Quiet.lives {D : Dev} {b : Nat} (h : Quiet D b) : Quiet D.lives b := ⟨h.ok.lives, h.len, by unfold Dev.lives; rw [h.dead, h.armed]; rfl, h.armed⟩
theorem Quiet.mono {D : Dev} {b : Nat} (h : Quiet D b) : Quiet D (b + 1) := ⟨h.ok.mono (Nat.le_succ _), h.len, h.dead, h.armed⟩
theorem Quiet.flush {D : Dev} {b : Nat} (h : Quiet D b) : D.flush = (0, D.lives.drain [true]) ∧ Quiet D.flush.2 b := by
  have e : D.flush = (0, D.lives.drain [true]) := by unfold Dev.flush; rw [h.dead, h.lives.dead]
  refine ⟨e, ?_⟩
  have := h.ok.flush
  rw [e] at this ⊢
  exact ⟨this, (crashC_len _ _ _ _).trans h.len, h.lives.dead, h.armed⟩
theorem put_len (D : Dev) (a : Int) (s : Bytes) : (D.put a s).cells.length = D.cells.length ∧ (D.put a s).dead = D.dead ∧ (D.put a s).armed = D.armed := by
  unfold Dev.put
  split
  · exact ⟨rfl, rfl, rfl⟩
  split
  · exact ⟨List.length_set .., rfl, rfl⟩
  split
  · exact ⟨rfl, rfl, rfl⟩
  · exact ⟨List.length_set .., rfl, rfl⟩
theorem Quiet.write {D : Dev} {b : Nat} (h : Quiet D b) (a : Int) (s : Bytes) : Quiet (D.write a s).2 (b + 1) := by
  have hk := h.ok.write a s
  cases h1 : D.has a with
  | false =>
    have e : D.write a s = (3, D) := by unfold Dev.write; rw [h.dead, h1]
    rw [e]; exact h.mono
  | true => cases h2 : ((s.length : Int) != 256) with
    | true =>
      have e : D.write a s = (1, D) := by unfold Dev.write; rw [h.dead, h1, h2]
      rw [e]; exact h.mono
    | false =>
      have e : D.write a s = (0, D.lives.count.put a s) := by unfold Dev.write; rw [h.dead, h1, h2, h.lives.dead]
      rw [e] at hk ⊢
      have hp := put_len D.lives.count a s
      exact ⟨hk, hp.1.trans h.len, hp.2.1.trans h.lives.dead, hp.2.2.trans h.armed⟩
theorem Quiet.fault {D : Dev} {b : Nat} (h : Quiet D b) (f : Flt) : Quiet (D.fault f).2 (b + 1) := by
  have hk := h.ok.fault f
  refine ⟨hk, ?_, ?_, ?_⟩ <;> unfold Dev.fault <;> split <;> try first | exact h.len | exact h.dead | exact h.armed
  · unfold Dev.hurt
    have hs : (D.settle f.at_).cells.length = 20 := (settleC_len _ _ _).trans h.len
    repeat' split
    all_goals first | exact (List.length_modify ..).trans hs | exact (List.length_modify ..).trans h.len
  · unfold Dev.hurt
    repeat' split
    all_goals exact h.dead
  · unfold Dev.hurt
    repeat' split
    all_goals exact h.armed
theorem Quiet.does {D : Dev} {b : Nat} (h : Quiet D b) (x : Op06) (hx : x.kind < 3) : Quiet (D.does x).2 (b + 1) := by
  unfold Dev.does
  split
  · exact h.write _ _
  split
  · exact h.flush.2.mono
  split
  · exact h.fault _
  split
  · rename_i h3
    have : x.kind = 3 := by simpa using h3
    omega
  split
  · rename_i h4
    have : x.kind = 4 := by simpa using h4
    omega
  · exact h.mono

/-- A device whose cells are so, and of which nothing waits. -/
structure View (D : Dev) (C : List Cell) (b : Nat) : Prop where
  ok : D.Ok b
  cells : D.cells = C
  waits : D.waits = []
  dead : D.dead = false
theorem View.read {D : Dev} {C : List Cell} {b : Nat} (h : View D C b) (a : Int) : View (D.read a).2 C b := by
  refine ⟨h.ok.read a, ?_, ?_, ?_⟩ <;> unfold Dev.read <;> repeat' split
  all_goals first | exact h.cells | exact h.waits | exact h.dead
theorem View.same {D E : Dev} {C : List Cell} {b : Nat} (h : View D C b) (k : View E C b) (a : Int) : (D.read a).1 = (E.read a).1 := by
  have e1 : D.has a = E.has a := by unfold Dev.has; rw [h.cells, k.cells]
  have e2 : D.readAt a = E.readAt a := by rw [readAt_eq, readAt_eq, h.cells, h.waits, k.cells, k.waits]
  unfold Dev.read
  rw [h.dead, k.dead, e1, e2]
  split
  · rfl
  · rename_i hh; cases hh
    split <;> rfl

theorem Quiet.view {D : Dev} {b : Nat} (h : Quiet D b) (keep : List Bool) : View (D.crashed keep) (crashC D.waits keep D.waits.length D.cells) b := ⟨h.ok.crashed keep, rfl, rfl, rfl⟩
theorem Quiet.viewF {D : Dev} {b : Nat} (h : Quiet D b) : View D.flush.2 (crashC D.waits [true] D.waits.length D.cells) b := by
  obtain ⟨e, k⟩ := h.flush
  have hk := k.ok
  rw [e] at hk ⊢
  exact ⟨hk, rfl, rfl, h.lives.dead⟩
theorem View.again {D : Dev} {C : List Cell} {b : Nat} (h : View D C b) (keep : List Bool) : View (D.crashed keep) C b := by
  refine ⟨h.ok.crashed keep, ?_, rfl, rfl⟩
  show crashC D.waits keep D.waits.length D.cells = C
  rw [h.waits, h.cells]; rfl
end Go.Proofs.Ytolefphdldmlkaa.AL

/- The law DiskRots, as plain lists. -/
namespace Go.Proofs.Ytolefphdldmlkaa.AL
open Go Go.Proofs

theorem rotB_get (f : Flt) (h0 : 0 ≤ f.off) (s : Bytes) (k : Nat) : ∀ n, (rotB f s n)[k]? = if f.off.toNat ≤ k ∧ k < f.off.toNat + n then (s[k]?).map (fun c => c ^^^ f.m (k - f.off.toNat)) else s[k]?
  | 0 => by rw [if_neg (by omega)]; rfl
  | n + 1 => by
    have ih := rotB_get f h0 s k n
    have hl := rotB_len f s n
    unfold rotB
    by_cases h : f.off + (n : Int) < (s.length : Int)
    · rw [decide_eq_true h]
      simp only
      by_cases e : f.off.toNat + n = k
      · subst e
        rw [List.getElem?_set_self (by rw [hl]; omega), if_pos (by omega)]
        rw [if_neg (by omega)] at ih
        rw [List.getD_eq_getElem?_getD, ih, List.getElem?_eq_getElem (show f.off.toNat + n < s.length by omega), Nat.add_sub_cancel_left]
        rfl
      · rw [List.getElem?_set_ne e, ih]
        by_cases h2 : f.off.toNat ≤ k ∧ k < f.off.toNat + n
        · rw [if_pos h2, if_pos (by omega)]
        · rw [if_neg h2, if_neg (by omega)]
    · rw [decide_eq_false h]
      simp only
      rw [ih]
      by_cases h2 : f.off.toNat ≤ k ∧ k < f.off.toNat + n
      · rw [if_pos h2, if_pos (by omega)]
      · rw [if_neg h2]
        by_cases h3 : f.off.toNat ≤ k ∧ k < f.off.toNat + (n + 1)
        · rw [if_pos h3, List.getElem?_eq_none (show s.length ≤ k by omega)]; rfl
        · rw [if_neg h3]

theorem rotB_twice (f : Flt) (h0 : 0 ≤ f.off) (s : Bytes) : rotB f (rotB f s 4) 4 = s := by
  apply List.ext_getElem?
  intro k
  rw [rotB_get f h0, rotB_get f h0]
  by_cases h : f.off.toNat ≤ k ∧ k < f.off.toNat + 4
  · rw [if_pos h, if_pos h]
    cases s[k]? with
    | none => rfl
    | some c =>
      show some ((c ^^^ f.m (k - f.off.toNat)) ^^^ f.m (k - f.off.toNat)) = some c
      rw [UInt8.xor_assoc, UInt8.xor_self, UInt8.xor_zero]
  · rw [if_neg h, if_neg h]

theorem lastW_cons (hit : Wr → Bool) (x : Wr) (r : List Wr) : lastW hit (x :: r) = match lastW hit r with | some y => some y | none => match hit x with | true => some x | false => none := rfl

theorem settle_get (a : Int) (ha : 0 ≤ a) : ∀ (W : List Wr) (C : List Cell), (settleC a W C)[a.toNat]? = match lastW (hitA a) W with | some x => (C[a.toNat]?).map (fun c => { c with s := x.s, lost := false }) | none => C[a.toNat]?
  | [], _ => rfl
  | x :: r, C => by
    have ih := settle_get a ha r (match hitA a x with | true => doneL C x | false => C)
    have h : settleC a (x :: r) C = settleC a r (match hitA a x with | true => doneL C x | false => C) := rfl
    rw [h, ih]
    rw [lastW_cons]
    cases hh : hitA a x with
    | false => cases lastW (hitA a) r <;> rfl
    | true =>
      have hx : x.at_ = a := by simpa using hh
      have hd : (doneL C x)[a.toNat]? = (C[a.toNat]?).map (fun c => { c with s := x.s, lost := false }) := by
        unfold doneL
        rw [hx]
        cases hc : C[a.toNat]? with
        | none => simp only [hc]; rfl
        | some c => simp only; rw [List.getElem?_set_self (List.getElem?_eq_some_iff.1 hc).1]; rfl
      cases lastW (hitA a) r with
      | none => exact hd
      | some y =>
        simp only
        rw [hd]
        cases C[a.toNat]? <;> rfl

theorem lastW_settle (a i : Int) (W : List Wr) : lastW (hitA i) (settleW a W) = if i = a then none else lastW (hitA i) W := by
  induction W with
  | nil => by_cases h : i = a <;> simp [h, settleW, lastW]
  | cons x r ih =>
    unfold settleW at ih ⊢
    rw [List.filter_cons]
    by_cases e : i = a
    · subst e
      rw [if_pos rfl] at ih ⊢
      cases hh : hitA i x with
      | true => simpa using ih
      | false =>
        simp only [Bool.not_false, if_true]
        rw [lastW_cons, ih, hh]
    · rw [if_neg e] at ih ⊢
      cases hh : hitA a x with
      | true =>
        have hx : x.at_ = a := by simpa using hh
        have hi : hitA i x = false := by simp [hx]; omega
        simp only [Bool.not_true, Bool.false_eq_true, if_false]
        rw [ih]
        rw [lastW_cons, hi]
        cases lastW (hitA i) r <;> rfl
      | false =>
        simp only [Bool.not_false, if_true]
        rw [lastW_cons, lastW_cons, ih]

theorem settleC_at {a : Int} {W : List Wr} {C : List Cell} {c : Cell} (h : c ∈ settleC a W C) (hp : ∀ c ∈ C, c.drop = 0 ∧ c.miss = [] ∧ c.lost = false) : c.drop = 0 ∧ c.miss = [] ∧ c.lost = false := by
  induction W generalizing C with
  | nil => exact hp c h
  | cons x r ih =>
    refine ih (C := match hitA a x with | true => doneL C x | false => C) h (fun d hd => ?_)
    split at hd
    · rcases doneL_mem hd with hd | ⟨c0, h0, rfl⟩
      · exact hp d hd
      · exact ⟨(hp c0 h0).1, (hp c0 h0).2.1, rfl⟩
    · exact hp d hd

theorem plain_settle {D : Dev} {L : Bytes} {b : Nat} (h : PlainOk D L b) {a : Int} (ha : 0 ≤ a) (hb : a < 20) : PlainOk (D.settle a) L b := by
  refine ⟨h.ok.settle a, (settleC_len _ _ _).trans h.len, h.dead, h.armed, fun c hc => settleC_at hc h.pl, h.ll, fun i hi => ?_⟩
  have hv := h.val i hi
  rw [readAt_eq] at hv ⊢
  unfold readIn at hv ⊢
  show (match lastW (hitA (i : Int)) (settleW a D.waits) with | some x => (0, x.s) | none => cellAt (settleC a D.waits D.cells)[((i : Nat) : Int).toNat]?) = _
  rw [lastW_settle]
  by_cases e : (i : Int) = a
  · rw [if_pos e]
    subst e
    show cellAt (settleC (i : Int) D.waits D.cells)[((i : Nat) : Int).toNat]? = _
    rw [settle_get _ ha]
    cases hl : lastW (hitA (i : Int)) D.waits with
    | none => rw [hl] at hv; exact hv
    | some x =>
      rw [hl] at hv
      rw [List.getElem?_eq_getElem (show ((i : Nat) : Int).toNat < D.cells.length by rw [h.len]; omega)]
      exact hv
  · rw [if_neg e, show (settleC a D.waits D.cells)[((i : Nat) : Int).toNat]? = D.cells[((i : Nat) : Int).toNat]? from settleC_ne (by omega) (fun h => e h.symm) (fun x hx => (h.ok.at_ x hx).1)]
    exact hv
end Go.Proofs.Ytolefphdldmlkaa.AL

/- The document's device: settle, a read. -/
namespace Go.Proofs.Ytolefphdldmlkaa.AL
open Go Go.Proofs

theorem settleC_take {a : Int} {W : List Wr} {C : List Cell} {i : Nat} {x : Wr} (hx : W[i]? = some x) : settleC a (W.take (i + 1)) C = match hitA a x with | true => doneL (settleC a (W.take i) C) x | false => settleC a (W.take i) C := by
  rw [List.take_add_one, hx]; exact settleC_snoc a _ x C
theorem settleW_take {a : Int} {W : List Wr} {i : Nat} {x : Wr} (hx : W[i]? = some x) : settleW a (W.take (i + 1)) = match hitA a x with | true => settleW a (W.take i) | false => settleW a (W.take i) ++ [x] := by
  rw [List.take_add_one, hx]; exact settleW_snoc a _ x

abbrev refS (R : Dev) (C : List Cell) (V : List Wr) : List ABlk := [refC { R with cells := C } 1 2 3 4 5, .row 37 1 (sx C), .row 4 1 (lx C), .row t_ref06_Wait 2 (wx R.waits), .row 3 1 (dx C), .row 60 1 (mx C), .row t_ref06_Wait 2 (wx V)]

theorem ref_settle (R : Dev) (a : Int) (hw : R.waitsIn) (hn : R.waits.length ≤ 1000000) : AFm Try.prog 1 f_ref06_Disk_settle [.ref 0 0, i64 a] (refH R) (Pure (.tup []) (refH (R.settle a))) := by
  refine af_bodyM 1 hT F_ref06_Disk_settle rfl rfl N_ref06_Disk_settle rfl rfl ?_
  refine aw_seq (aw_region hT ?_)
  refine aw_wk (Wk.trans (wk_phantom t_ref06_Wait 2) (wk_nil 4 6 2 0 rfl)) ?_
  refine aw_cut ⟨⟨48, [(0, .ref 0 0), (4, .msl 6 2 0 (settleW a R.waits).length)]⟩, refS R (settleC a R.waits R.cells) (settleW a R.waits)⟩ True (aw_seq (aw_region hT ?_)) (fun _ => ?_)
  · refine aw_block ?_
    refine aw_loopW (fun n s => ∃ (i : Nat) (j : Int) (C : List Cell) (V : List Wr), n + i = R.waits.length ∧ j = i ∧ C = settleC a (R.waits.take i) R.cells ∧ V = settleW a (R.waits.take i) ∧ s = ⟨⟨48, [(0, .ref 0 0), (1, i64 a), (4, .msl 6 2 0 V.length), (5, i64 j)]⟩, refS R C V⟩) R.waits.length ⟨⟨48, _⟩, [_, _, _, _, _, _, _]⟩ (wk_pick [0, 1, 2, 3, 4, 5, 6] [0, 1, 4, 5] rfl) ⟨0, 0, R.cells, [], by omega, rfl, rfl, rfl, rfl⟩ ?_
    rintro n s ⟨i, j, C, V, hni, rfl, hC, hV, rfl⟩
    refine aw_seq (aw_seq (aw_region hT ?_))
    refine aw_cond (boolI (fun h => ?_) (fun h => ?_))
    · have hi : i < R.waits.length := by
        have := of_decide_eq_true (show decide ((i : Int) < (R.waits.length : Int)) = true from h)
        omega
      have hx := List.getElem?_eq_getElem hi
      have hin := hw _ (List.getElem_mem hi)
      generalize R.waits[i] = x at hx hin
      have hCl : C.length = R.cells.length := by rw [hC, settleC_len]
      have hVl : V.length ≤ R.waits.length := by rw [hV]; exact Nat.le_trans (settleW_le a _) (by rw [List.length_take]; omega)
      have g1 : (wx R.waits)[0 + ((i : Nat) : Int).toNat]? = some x.pv := by rw [Nat.zero_add, Int.toNat_natCast]; exact wx_get hx
      have b1 : (0 : Int) ≤ (i : Int) ∧ (i : Int) < (R.waits.length : Int) := ⟨Int.natCast_nonneg _, of_decide_eq_true h⟩
      refine aw_skip ?_
      refine aw_cut ⟨⟨48, [(0, .ref 0 0), (1, i64 a), (4, .msl 6 2 0 (settleW a (R.waits.take (i + 1))).length), (5, i64 i)]⟩, refS R (settleC a (R.waits.take (i + 1)) R.cells) (settleW a (R.waits.take (i + 1)))⟩ True (aw_block (aw_seq (aw_region hT ?_))) (fun _ => ?_)
      · refine ⟨b1, ?_⟩
        refine optI g1 ?_
        refine aw_cond (boolI (fun h2 => ?_) (fun h2 => ?_))
        · have h2 : hitA a x = true := h2
          refine aw_region hT ?_
          refine ⟨b1, ?_⟩
          refine optI g1 ?_
          refine callP (af_in [0, 1, 2, 3, 4, 5] (ref_does { R with cells := C } x hin.1 (by show x.at_.toNat < C.length; omega)) rfl rfl rfl) ?_
          rw [settleC_take hx, settleW_take hx, h2, ← hC, ← hV]
          exact ⟨wk_pick [0, 1, 2, 3, 4, 5, 6] [0, 1, 4, 5] rfl, trivial⟩
        · have h2 : hitA a x = false := h2
          refine aw_region hT ?_
          refine ⟨b1, ?_⟩
          refine optI g1 ?_
          refine ⟨wx_len _, ⟨?_, ?_⟩, ?_⟩
          · show ((wx V).length + 1) * 32 ≤ 140737488355328
            rw [wx_len]; omega
          · show (wx V).length + 1 ≤ 140737488355328
            rw [wx_len]; omega
          rw [settleC_take hx, settleW_take hx, h2, ← hC, ← hV]
          show Wk _ _ ⟨⟨48, [(0, .ref 0 0), (1, i64 a), (4, .msl 6 2 0 (V ++ [x]).length), (5, i64 i)]⟩, [refC { R with cells := C } 1 2 3 4 5, .row 37 1 (sx C), .row 4 1 (lx C), .row t_ref06_Wait 2 (wx R.waits), .row 3 1 (dx C), .row 60 1 (mx C), .row t_ref06_Wait 2 (wx (V ++ [x]))]⟩ ∧ True
          rw [← wx_len (V ++ [x]), wx_put]
          exact ⟨wk_pick [0, 1, 2, 3, 4, 5, 8] [0, 1, 4, 5] rfl, trivial⟩
      · refine aw_region hT ?_
        refine ⟨n - 1, by omega, _, wk_pick [0, 1, 2, 3, 4, 5, 6] [0, 1, 4, 5] rfl, i + 1, IntKind.i64.wrap ((i : Int) + 1), _, _, by omega, ?_, rfl, rfl, rfl⟩
        rw [wrap64 _ (by omega) (by omega)]; rfl
    · have hi : i = R.waits.length := by
        have : ¬ ((i : Int) < (R.waits.length : Int)) := of_decide_eq_false h
        omega
      refine aw_exit ?_
      subst hi
      rw [List.take_length] at hC hV
      rw [← hC, ← hV]
      exact ⟨wk_pick [0, 1, 2, 3, 4, 5, 6] [0, 4] rfl, trivial⟩
  · refine aw_region hT ?_
    exact retPick [0, 1, 2, 6, 4, 5] ⟨rfl, rfl⟩ rfl

theorem ref_Read (R : Dev) (a : Int) (hn : R.waits.length ≤ 1000000) : AFm Try.prog 6 f_ref06_Disk_Read [.ref 0 0, i64 a] (refH R) (Pure (.tup [bA (R.read a).1.1, i64 (R.read a).1.2]) (refH (R.read a).2)) := by
  refine af_bodyM 6 hT F_ref06_Disk_Read rfl rfl N_ref06_Disk_Read rfl rfl ?_
  refine aw_seq (aw_region hT ?_)
  refine aw_seq (aw_seq (aw_region hT ?_))
  refine aw_cond (boolI (fun h => ?_) (fun h => ?_))
  · have h : R.dead = true := h
    have e : R.read a = (([], 21), R) := by unfold Dev.read; rw [h]
    refine aw_seq (aw_region hT ?_)
    refine aw_wk (wk_nilP 4 1 rfl) ?_
    refine aw_ret ?_
    rw [e]
    exact retPick [0, 1, 2, 3, 4, 5] ⟨rfl, rfl⟩ rfl
  have h : R.dead = false := h
  refine aw_skip ?_
  have no : R.has a = false → R.read a = (([], 3), R) := fun h1 => by unfold Dev.read; rw [h, h1]
  refine aw_cut ⟨⟨71, [(0, .ref 0 0), (1, i64 a)]⟩, refH R⟩ (0 ≤ a ∧ a < (R.cells.length : Int)) (aw_seq (aw_region hT ?_)) ?_
  · refine boolI (fun h1 => ?_) (fun h1 => ?_)
    · have h1 : decide (a < 0) = true := h1
      have h1 := of_decide_eq_true h1
      have e := no (by unfold Dev.has; rw [decide_eq_false (by omega)]; rfl)
      refine aw_cond ?_
      refine aw_seq (aw_region hT ?_)
      refine aw_wk (wk_nilP 4 1 rfl) ?_
      refine aw_ret ?_
      rw [e]
      exact retPick [0, 1, 2, 3, 4, 5] ⟨rfl, rfl⟩ rfl
    · have h1 : decide (a < 0) = false := h1
      have h1 := of_decide_eq_false h1
      refine aw_cond (boolI (fun h2 => ?_) (fun h2 => ?_))
      · have h2 : decide (a ≥ (R.cells.length : Int)) = true := h2
        have h2 := of_decide_eq_true h2
        have e := no (by unfold Dev.has; rw [decide_eq_true (show a ≥ 0 by omega), decide_eq_false (by omega)]; rfl)
        refine aw_seq (aw_region hT ?_)
        refine aw_wk (wk_nilP 4 1 rfl) ?_
        refine aw_ret ?_
        rw [e]
        exact retPick [0, 1, 2, 3, 4, 5] ⟨rfl, rfl⟩ rfl
      · have h2 : decide (a ≥ (R.cells.length : Int)) = false := h2
        have h2 := of_decide_eq_false h2
        exact aw_skip ⟨wk_pick [0, 1, 2, 3, 4, 5] [0, 1] rfl, by omega, by omega⟩
  rintro ⟨ha, hb⟩
  have h1 : R.has a = true := by unfold Dev.has; rw [decide_eq_true (show a ≥ 0 from ha), decide_eq_true hb]; rfl
  have e : R.read a = (((R.readAt a).2, (R.readAt a).1), R.count) := by unfold Dev.read; rw [h, h1]
  rw [e]
  obtain ⟨c, hc, _⟩ := cell_get R h1
  have g1 : (sx R.cells)[0 + a.toNat]? = some [bP c.s] := by rw [Nat.zero_add]; exact map_get _ hc
  have g2 : (lx R.cells)[0 + a.toNat]? = some [.raw (.bool c.lost)] := by rw [Nat.zero_add]; exact map_get _ hc
  refine aw_seq (aw_region hT ?_)
  refine aw_cut ⟨⟨71, [(0, .ref 0 0), (1, i64 a)]⟩, refH R.count⟩ (lastW (hitA a) R.waits = none) (aw_seq (aw_region hT ?_)) ?_
  · refine aw_block ?_
    refine aw_loopW (fun n s => ∃ j : Int, j = (n : Int) - 1 ∧ n ≤ R.waits.length ∧ lastW (hitA a) R.waits = lastW (hitA a) (R.waits.take n) ∧ s = ⟨⟨71, [(0, .ref 0 0), (1, i64 a), (6, i64 j)]⟩, refH R.count⟩) R.waits.length ⟨⟨71, _⟩, [_, _, _, _, _, _]⟩ (wk_pick [0, 1, 2, 3, 4, 5] [0, 1, 6] rfl) ⟨_, ?_, Nat.le_refl _, by rw [List.take_length], rfl⟩ ?_
    · exact wrap64 _ (by omega) (by omega)
    rintro n s ⟨j, hj, hle, hl, rfl⟩
    refine aw_seq (aw_seq (aw_region hT ?_))
    refine aw_cond (boolI (fun h => ?_) (fun h => ?_))
    · have h := of_decide_eq_true h
      cases n with
      | zero => omega
      | succ n =>
      have hj : j = (n : Int) := by omega
      subst hj
      have hx := List.getElem?_eq_getElem (show n < R.waits.length by omega)
      generalize R.waits[n] = x at hx
      have g3 : (wx R.waits)[0 + ((n : Nat) : Int).toNat]? = some x.pv := by rw [Nat.zero_add, Int.toNat_natCast]; exact wx_get hx
      have b3 : (0 : Int) ≤ (n : Int) ∧ (n : Int) < (R.waits.length : Int) := ⟨Int.natCast_nonneg _, by omega⟩
      refine aw_skip ?_
      refine aw_seq (aw_block (aw_seq (aw_region hT ?_)))
      refine ⟨b3, ?_⟩
      refine optI g3 ?_
      refine aw_cond (boolI (fun h2 => ?_) (fun h2 => ?_))
      · have h2 : hitA a x = true := h2
        have er : R.readAt a = (0, x.s) := by
          rw [readAt_eq]; unfold readIn; rw [hl, lastW_take _ hx, h2]
        refine aw_seq (aw_region hT ?_)
        refine ⟨b3, ?_⟩
        refine optI g3 ?_
        refine aw_ret ?_
        rw [er]
        exact retPick [0, 1, 2, 3, 4, 5] ⟨rfl, rfl⟩ rfl
      · have h2 : hitA a x = false := h2
        refine aw_skip ?_
        refine aw_region hT ?_
        refine ⟨n, by omega, _, wk_pick [0, 1, 2, 3, 4, 5] [0, 1, 6] rfl, _, ?_, by omega, ?_, rfl⟩
        · exact wrap64 _ (by omega) (by omega)
        · rw [hl, lastW_take _ hx, h2]
    · have h := of_decide_eq_false h
      refine aw_exit ?_
      have hn0 : n = 0 := by omega
      subst hn0
      exact ⟨wk_pick [0, 1, 2, 3, 4, 5] [0, 1] rfl, hl⟩
  · intro hl
    have er : R.readAt a = match c.lost with | true => (20, []) | false => (0, c.s) := by
      rw [readAt_eq]; unfold readIn; rw [hl, hc]; rfl
    refine aw_seq (aw_seq (aw_region hT ?_))
    refine ⟨⟨ha, hb⟩, ?_⟩
    refine optI g2 ?_
    refine aw_cond (boolI (fun h2 => ?_) (fun h2 => ?_))
    · have h2 : c.lost = true := h2
      rw [h2] at er
      refine aw_seq (aw_region hT ?_)
      refine aw_wk (wk_nilP 4 1 rfl) ?_
      refine aw_ret ?_
      rw [er]
      exact retPick [0, 1, 2, 3, 4, 5] ⟨rfl, rfl⟩ rfl
    · have h2 : c.lost = false := h2
      rw [h2] at er
      refine aw_skip ?_
      refine aw_seq (aw_region hT ?_)
      refine ⟨⟨ha, hb⟩, ?_⟩
      refine optI g1 ?_
      refine aw_ret ?_
      rw [er]
      exact retPick [0, 1, 2, 3, 4, 5] ⟨rfl, rfl⟩ rfl
end Go.Proofs.Ytolefphdldmlkaa.AL

/- The document's device: a write. -/
namespace Go.Proofs.Ytolefphdldmlkaa.AL
open Go Go.Proofs

def Dev.rwrite (R : Dev) (a : Int) (s : Bytes) : Int × Dev := match R.dead with
  | true => (21, R)
  | false => match R.has a with
    | false => (3, R)
    | true => match ((s.length : Int) != 256) with
      | true => (1, R)
      | false => match R.dies.1 with
        | true => (21, R.dies.2)
        | false => (0, R.dies.2.count.put a s)

theorem refH_drop (R : Dev) (i : Nat) (c1 : Bytes) (c2 : Bool) (c3 d : Int) (c4 : List Int) (hc : R.cells[i]? = some ⟨c1, c2, c3, c4⟩) : refH { R with cells := R.cells.set i ⟨c1, c2, d, c4⟩ } =
    [refC R 1 2 3 4 5, .row 37 1 (sx R.cells), .row 4 1 (lx R.cells), .row t_ref06_Wait 2 (wx R.waits), .row 3 1 ((dx R.cells).set (0 + i) [.raw (.int .i64 d)]), .row 60 1 (mx R.cells)] := by
  unfold refH refC
  rw [List.length_set, Nat.zero_add]
  have h1 : sx (R.cells.set i ⟨c1, c2, d, c4⟩) = sx R.cells := map_set_same _ hc rfl
  have h2 : lx (R.cells.set i ⟨c1, c2, d, c4⟩) = lx R.cells := map_set_same _ hc rfl
  have h3 : dx (R.cells.set i ⟨c1, c2, d, c4⟩) = (dx R.cells).set i [.raw (.int .i64 d)] := by simp [dx, List.map_set]
  have h4 : mx (R.cells.set i ⟨c1, c2, d, c4⟩) = mx R.cells := map_set_same _ hc rfl
  rw [h1, h2, h3, h4]
theorem refH_miss (R : Dev) (i : Nat) (c1 : Bytes) (c2 : Bool) (c3 : Int) (c4 m : List Int) (hc : R.cells[i]? = some ⟨c1, c2, c3, c4⟩) : refH { R with cells := R.cells.set i ⟨c1, c2, c3, m⟩ } =
    [refC R 1 2 3 4 5, .row 37 1 (sx R.cells), .row 4 1 (lx R.cells), .row t_ref06_Wait 2 (wx R.waits), .row 3 1 (dx R.cells), .row 60 1 ((mx R.cells).set (0 + i) [iP m])] := by
  unfold refH refC
  rw [List.length_set, Nat.zero_add]
  have h1 : sx (R.cells.set i ⟨c1, c2, c3, m⟩) = sx R.cells := map_set_same _ hc rfl
  have h2 : lx (R.cells.set i ⟨c1, c2, c3, m⟩) = lx R.cells := map_set_same _ hc rfl
  have h3 : dx (R.cells.set i ⟨c1, c2, c3, m⟩) = dx R.cells := map_set_same _ hc rfl
  have h4 : mx (R.cells.set i ⟨c1, c2, c3, m⟩) = (mx R.cells).set i [iP m] := by simp [mx, List.map_set]
  rw [h1, h2, h3, h4]
theorem refH_put (R : Dev) (x : Wr) : refH { R with waits := R.waits ++ [x] } = [.cells t_ref06_Disk [.msl 1 1 0 R.cells.length, .msl 2 1 0 R.cells.length, .msl 3 2 0 (wx R.waits ++ [x.pv]).length, .msl 4 1 0 R.cells.length, .msl 5 1 0 R.cells.length, bl R.armed, bl R.dead, i64 R.left, i64 R.ops],
    .row 37 1 (sx R.cells), .row 4 1 (lx R.cells), .row t_ref06_Wait 2 (wx R.waits ++ [x.pv]), .row 3 1 (dx R.cells), .row 60 1 (mx R.cells)] := by
  unfold refH refC; rw [← wx_put, wx_len]

theorem ref_Write (R : Dev) (a : Int) (s : Bytes) (hn : R.waits.length ≤ 1000000) (hsl : s.length ≤ 1000000) : AFm Try.prog 1 f_ref06_Disk_Write [.ref 0 0, i64 a, bA s] (refH R) (Pure (i64 (R.rwrite a s).1) (refH (R.rwrite a s).2)) := by
  refine af_bodyM 1 hT F_ref06_Disk_Write rfl rfl N_ref06_Disk_Write rfl rfl ?_
  refine aw_seq (aw_region hT ?_)
  refine aw_seq (aw_seq (aw_region hT ?_))
  refine aw_cond (boolI (fun h => ?_) (fun h => ?_))
  · have h : R.dead = true := h
    have e : R.rwrite a s = (21, R) := by unfold Dev.rwrite; rw [h]
    refine aw_seq (aw_region hT ?_)
    refine aw_ret ?_
    rw [e]
    exact retPick [0, 1, 2, 3, 4, 5] ⟨rfl, rfl⟩ rfl
  have h : R.dead = false := h
  refine aw_skip ?_
  have no : R.has a = false → R.rwrite a s = (3, R) := fun h1 => by unfold Dev.rwrite; rw [h, h1]
  refine aw_cut ⟨⟨98, [(0, .ref 0 0), (1, i64 a), (2, bA s)]⟩, refH R⟩ (0 ≤ a ∧ a < (R.cells.length : Int)) (aw_seq (aw_region hT ?_)) ?_
  · refine boolI (fun h1 => ?_) (fun h1 => ?_)
    · have h1 : decide (a < 0) = true := h1
      have h1 := of_decide_eq_true h1
      have e := no (by unfold Dev.has; rw [decide_eq_false (by omega)]; rfl)
      refine aw_cond ?_
      refine aw_seq (aw_region hT ?_)
      refine aw_ret ?_
      rw [e]
      exact retPick [0, 1, 2, 3, 4, 5] ⟨rfl, rfl⟩ rfl
    · have h1 : decide (a < 0) = false := h1
      have h1 := of_decide_eq_false h1
      refine aw_cond (boolI (fun h2 => ?_) (fun h2 => ?_))
      · have h2 : decide (a ≥ (R.cells.length : Int)) = true := h2
        have h2 := of_decide_eq_true h2
        have e := no (by unfold Dev.has; rw [decide_eq_true (show a ≥ 0 by omega), decide_eq_false (by omega)]; rfl)
        refine aw_seq (aw_region hT ?_)
        refine aw_ret ?_
        rw [e]
        exact retPick [0, 1, 2, 3, 4, 5] ⟨rfl, rfl⟩ rfl
      · have h2 : decide (a ≥ (R.cells.length : Int)) = false := h2
        have h2 := of_decide_eq_false h2
        exact aw_skip ⟨wk_pick [0, 1, 2, 3, 4, 5] [0, 1, 2] rfl, by omega, by omega⟩
  rintro ⟨ha, hb⟩
  have h1 : R.has a = true := by unfold Dev.has; rw [decide_eq_true (show a ≥ 0 from ha), decide_eq_true hb]; rfl
  refine aw_seq (aw_seq (aw_region hT ?_))
  refine aw_cond (boolI (fun h2 => ?_) (fun h2 => ?_))
  · have h2 : (((bx s).length : Int) != 256) = true := h2
    rw [bx_len] at h2
    have e : R.rwrite a s = (1, R) := by unfold Dev.rwrite; rw [h, h1, h2]
    refine aw_seq (aw_region hT ?_)
    refine aw_ret ?_
    rw [e]
    exact retPick [0, 1, 2, 3, 4, 5] ⟨rfl, rfl⟩ rfl
  have h2 : (((bx s).length : Int) != 256) = false := h2
  rw [bx_len] at h2
  refine aw_skip ?_
  refine aw_cut ⟨⟨98, [(0, .ref 0 0), (1, i64 a), (2, bA s)]⟩, refH R.dies.2⟩ (R.dies.1 = false) (aw_seq (aw_region hT ?_)) ?_
  · refine callP (af_in [0, 1, 2, 3, 4, 5] (ref_dies R) rfl rfl rfl) ?_
    refine aw_cond (boolI (fun h3 => ?_) (fun h3 => ?_))
    · have h3 : R.dies.1 = true := h3
      have e : R.rwrite a s = (21, R.dies.2) := by unfold Dev.rwrite; rw [h, h1, h2, h3]
      refine aw_seq (aw_region hT ?_)
      refine aw_ret ?_
      rw [e]
      exact retPick [0, 1, 2, 3, 4, 5] ⟨rfl, rfl⟩ rfl
    · exact aw_skip ⟨wk_pick [0, 1, 2, 3, 4, 5] [0, 1, 2] rfl, h3⟩
  intro h3
  have e : R.rwrite a s = (0, R.dies.2.count.put a s) := by unfold Dev.rwrite; rw [h, h1, h2, h3]
  rw [e]
  obtain ⟨hE1, hE2⟩ := dies_same R
  have hbE : a < (R.dies.2.cells.length : Int) := by rw [hE1]; exact hb
  have hnE : R.dies.2.waits.length ≤ 1000000 := by rw [hE2]; exact hn
  generalize R.dies.2 = E at hbE hnE
  have h1E : E.has a = true := by unfold Dev.has; rw [decide_eq_true (show a ≥ 0 from ha), decide_eq_true hbE]; rfl
  obtain ⟨c, hc, _⟩ := cell_get E h1E
  obtain ⟨c1, c2, c3, c4⟩ := c
  have gd : (dx E.cells)[0 + a.toNat]? = some [.raw (.int .i64 c3)] := by rw [Nat.zero_add]; exact map_get _ hc
  have gm : (mx E.cells)[0 + a.toNat]? = some [iP c4] := by rw [Nat.zero_add]; exact map_get _ hc
  refine aw_seq (aw_region hT ?_)
  refine aw_seq (aw_seq (aw_region hT ?_))
  refine ⟨⟨ha, hbE⟩, ?_⟩
  refine optI gd ?_
  refine aw_cond (boolI (fun h4 => ?_) (fun h4 => ?_))
  · have h4 : decide (c3 > 0) = true := h4
    refine aw_seq (aw_region hT ?_)
    refine ⟨⟨ha, hbE⟩, ?_⟩
    refine optI gd ?_
    refine ⟨⟨ha, hbE⟩, ?_⟩
    refine optI gd ?_
    refine aw_seq (aw_region hT ?_)
    refine aw_ret ?_
    rw [put_drop (D := E.count) hc h4]
    exact retPick [0, 1, 2, 3, 4, 5] ⟨rfl, (refH_drop E.count a.toNat c1 c2 c3 _ c4 hc).symm⟩ rfl
  have h4 : decide (c3 > 0) = false := h4
  refine aw_skip ?_
  refine aw_seq (aw_region hT ?_)
  refine aw_cut2 (fun s1 => ∃ C t, s1 = ⟨⟨98, [(0, .ref 0 0), (2, bA s), (7, i64 t)]⟩, refH { E.count with cells := C }⟩ ∧ E.count.put a s = { E.count with cells := C, waits := E.waits ++ [⟨t, s⟩] }) (aw_seq (aw_region hT ?_)) ?_
  · refine ⟨⟨ha, hbE⟩, ?_⟩
    refine optI gm ?_
    refine aw_cond (boolI (fun h5 => ?_) (fun h5 => ?_))
    · cases c4 with
      | nil => cases h5
      | cons t r =>
        refine aw_seq (aw_region hT ?_)
        refine ⟨⟨ha, hbE⟩, ?_⟩
        refine optI gm ?_
        refine ⟨Int.le_refl _, optI rfl ?_⟩
        refine aw_draw [14] [] hT follows_mixed (by rfl) ?_
        refine ⟨⟨ha, hbE⟩, ?_⟩
        refine optI gm ?_
        refine ⟨⟨by omega, by rw [ix_len]; simp; omega, Int.le_refl _⟩, ?_⟩
        refine ⟨⟨ha, hbE⟩, ?_⟩
        refine optI gm ?_
        refine ⟨_, wk_pick [0, 1, 2, 3, 4, 5] [0, 2, 7] rfl, E.cells.set a.toNat ⟨c1, c2, c3, r⟩, t, ?_, put_miss (D := E.count) hc h4⟩
        refine congrArg (St.mk _) ?_
        refine Eq.trans ?_ (refH_miss E.count a.toNat c1 c2 c3 (t :: r) r hc).symm
        show [_, _, _, _, _, ABlk.row 60 1 ((mx E.cells).set (0 + a.toNat) [.sl 1 ((ix r).take (ix r).length)])] = _
        rw [List.take_length]
        rfl
    · have h5 : ¬ ((ix c4).length : Int) > 0 := of_decide_eq_false h5
      have hc4 : c4 = [] := by cases c4 with | nil => rfl | cons t r => exact absurd (show ((ix (t :: r)).length : Int) > 0 by rw [ix_len]; simp) h5
      subst hc4
      refine aw_skip ⟨_, wk_pick [0, 1, 2, 3, 4, 5] [0, 2, 7] rfl, E.cells, a, rfl, put_plain (D := E.count) hc h4⟩
  · rintro _ ⟨C, t, rfl, ep⟩
    rw [ep]
    refine aw_seq ?_
    refine aw_draw [7, 9, 10, 13] [7] hT follows_mixed (by rfl) ?_
    have hbs := bx_len s
    refine ⟨⟨?_, ?_⟩, ?_⟩
    · show (bx s).length * 1 ≤ 140737488355328
      omega
    · omega
    refine ⟨⟨rfl, rfl⟩, ?_⟩
    refine ⟨wx_len _, ⟨?_, ?_⟩, ?_⟩
    · show ((wx E.waits).length + 1) * 32 ≤ 140737488355328
      rw [wx_len]; omega
    · show (wx E.waits).length + 1 ≤ 140737488355328
      rw [wx_len]; omega
    refine ⟨rfl, rfl, ?_⟩
    refine aw_seq (aw_region hT ?_)
    refine aw_ret ?_
    exact retPick [0, 1, 2, 7, 4, 5] ⟨rfl, (refH_put { E.count with cells := C } ⟨t, s⟩).symm⟩ rfl
end Go.Proofs.Ytolefphdldmlkaa.AL

/- The document's device: in which bits do two bytes differ. -/
namespace Go.Proofs.Ytolefphdldmlkaa.AL
open Go Go.Proofs

def diffN (a b : Nat) : Nat → Nat
  | 0 => 0
  | k + 1 => match a / 2 ^ k % 2 != b / 2 ^ k % 2 with
    | true => diffN a b k + 2 ^ k
    | false => diffN a b k

theorem xor_bit (a b k : Nat) : (a ^^^ b) / 2 ^ k % 2 = if (a / 2 ^ k % 2 != b / 2 ^ k % 2) = true then 1 else 0 := by
  have h := Nat.testBit_xor (x := a) (y := b) (i := k)
  rw [Nat.testBit_eq_decide_div_mod_eq, Nat.testBit_eq_decide_div_mod_eq, Nat.testBit_eq_decide_div_mod_eq] at h
  have h1 : (a ^^^ b) / 2 ^ k % 2 < 2 := Nat.mod_lt _ (by omega)
  have h2 : a / 2 ^ k % 2 < 2 := Nat.mod_lt _ (by omega)
  have h3 : b / 2 ^ k % 2 < 2 := Nat.mod_lt _ (by omega)
  generalize (a ^^^ b) / 2 ^ k % 2 = x at *
  generalize a / 2 ^ k % 2 = y at *
  generalize b / 2 ^ k % 2 = z at *
  have hx : x = 0 ∨ x = 1 := by omega
  have hy : y = 0 ∨ y = 1 := by omega
  have hz : z = 0 ∨ z = 1 := by omega
  rcases hx with rfl | rfl <;> rcases hy with rfl | rfl <;> rcases hz with rfl | rfl <;> simp at h ⊢

theorem diffN_eq (a b : Nat) : ∀ k, diffN a b k = (a ^^^ b) % 2 ^ k
  | 0 => by rw [Nat.pow_zero, Nat.mod_one]; rfl
  | k + 1 => by
    have ih := diffN_eq a b k
    rw [Nat.mod_pow_succ, xor_bit]
    unfold diffN
    cases h : (a / 2 ^ k % 2 != b / 2 ^ k % 2) with
    | true => simp only [ih, if_true, Nat.mul_one]
    | false => simp only [ih, Bool.false_eq_true, if_false, Nat.mul_zero, Nat.add_zero]

theorem diffN_lt (a b k : Nat) : diffN a b k < 2 ^ k := by rw [diffN_eq]; exact Nat.mod_lt _ (Nat.two_pow_pos k)
theorem diffN_xor (a b : UInt8) : diffN a.toNat b.toNat 8 = (a ^^^ b).toNat := by
  rw [diffN_eq, UInt8.toNat_xor]
  have h1 : a.toNat < 2 ^ 8 := a.toNat_lt
  have h2 : b.toNat < 2 ^ 8 := b.toNat_lt
  exact Nat.mod_eq_of_lt (Nat.xor_lt_two_pow h1 h2)

theorem ref_differ (a b : UInt8) : AF Try.prog f_ref06_differ [.p (u8 a), .p (u8 b)] [] (Pure (.p (u8 (a ^^^ b))) []) := by
  have ha : a.toNat < 256 := a.toNat_lt
  have hb : b.toNat < 256 := b.toNat_lt
  refine af_body hT F_ref06_differ rfl rfl N_ref06_differ rfl ?_
  refine aw_seq (aw_region hT ?_)
  refine aw_seq (aw_region hT ?_)
  refine aw_seq (aw_region hT ?_)
  refine aw_seq (aw_region hT ?_)
  refine aw_seq (aw_region hT ?_)
  refine aw_seq (aw_seq (aw_region hT ?_))
  refine aw_block ?_
  refine aw_loopW (fun n s => ∃ (k : Nat) (k' : Int) (d p x y : Int), n + k = 8 ∧ k' = k ∧ d = diffN a.toNat b.toNat k ∧ p = ((2 ^ k : Nat) : Int) ∧ x = ((a.toNat / 2 ^ k : Nat) : Int) ∧ y = ((b.toNat / 2 ^ k : Nat) : Int) ∧ s = ⟨⟨34, [(5, i64 d), (6, i64 p), (7, i64 x), (8, i64 y), (9, i64 k')]⟩, []⟩) 8 ⟨⟨34, _⟩, []⟩ (wk_pick [] [5, 6, 7, 8, 9] rfl) ⟨0, 0, 0, 1, _, _, rfl, rfl, rfl, rfl, ?_, ?_, rfl⟩ ?_
  · rw [Nat.pow_zero, Nat.div_one]; exact wrap64 _ (by omega) (by omega)
  · rw [Nat.pow_zero, Nat.div_one]; exact wrap64 _ (by omega) (by omega)
  rintro n s ⟨k, k', d, p, x, y, hk, rfl, rfl, rfl, rfl, rfl, rfl⟩
  have hd := diffN_lt a.toNat b.toNat k
  have hm : ∀ q : Nat, ((q : Int).tmod 2) = ((q % 2 : Nat) : Int) := fun q => by
    rw [Int.tmod_eq_emod_of_nonneg (Int.natCast_nonneg _)]; exact (Int.natCast_emod q 2).symm
  have hq : ∀ q : Nat, q < 256 → IntKind.i64.wrap ((q : Int).tdiv 2) = ((q / 2 : Nat) : Int) := fun q hq => by
    rw [Int.tdiv_eq_ediv_of_nonneg (Int.natCast_nonneg _), wrap64 _ (by omega) (by omega)]; omega
  refine aw_seq (aw_seq (aw_region hT ?_))
  refine aw_cond (boolI (fun h => ?_) (fun h => ?_))
  · have hk8 : k < 8 := by
      have := of_decide_eq_true (show decide ((k : Int) < 8) = true from h)
      omega
    have hp : 2 ^ k ≤ 2 ^ 7 := Nat.pow_le_pow_right (by omega) (by omega)
    have hp2 : 2 ^ (k + 1) = 2 ^ k * 2 := Nat.pow_succ ..
    have hdx : a.toNat / 2 ^ k < 256 := Nat.lt_of_le_of_lt (Nat.div_le_self _ _) ha
    have hdy : b.toNat / 2 ^ k < 256 := Nat.lt_of_le_of_lt (Nat.div_le_self _ _) hb
    have hx2 : a.toNat / 2 ^ (k + 1) = a.toNat / 2 ^ k / 2 := by rw [hp2, Nat.div_div_eq_div_mul]
    have hy2 : b.toNat / 2 ^ (k + 1) = b.toNat / 2 ^ k / 2 := by rw [hp2, Nat.div_div_eq_div_mul]
    refine aw_skip ?_
    refine aw_cut ⟨⟨34, [(5, i64 (diffN a.toNat b.toNat (k + 1) : Nat)), (6, i64 ((2 ^ (k + 1) : Nat) : Int)), (7, i64 ((a.toNat / 2 ^ (k + 1) : Nat) : Int)), (8, i64 ((b.toNat / 2 ^ (k + 1) : Nat) : Int)), (9, i64 (k : Nat))]⟩, []⟩ True (aw_block ?_) (fun _ => ?_)
    · refine aw_cut ⟨⟨34, [(5, i64 (diffN a.toNat b.toNat (k + 1) : Nat)), (6, i64 ((2 ^ k : Nat) : Int)), (7, i64 ((a.toNat / 2 ^ k : Nat) : Int)), (8, i64 ((b.toNat / 2 ^ k : Nat) : Int)), (9, i64 (k : Nat))]⟩, []⟩ True (aw_seq (aw_region hT ?_)) (fun _ => ?_)
      · refine aw_cond (boolI (fun h1 => ?_) (fun h1 => ?_))
        · have h1 : (((a.toNat / 2 ^ k : Nat) : Int).tmod 2 != ((b.toNat / 2 ^ k : Nat) : Int).tmod 2) = true := h1
          rw [hm, hm] at h1
          have h2 : (a.toNat / 2 ^ k % 2 != b.toNat / 2 ^ k % 2) = true := by
            rw [bne_iff_ne] at h1 ⊢; omega
          have e : diffN a.toNat b.toNat (k + 1) = diffN a.toNat b.toNat k + 2 ^ k := by
            conv => lhs; unfold diffN
            rw [h2]
          refine aw_region hT ?_
          have e2 : IntKind.i64.wrap (((diffN a.toNat b.toNat k : Nat) : Int) + ((2 ^ k : Nat) : Int)) = ((diffN a.toNat b.toNat (k + 1) : Nat) : Int) := by
            rw [e, wrap64 _ (by omega) (by omega)]; omega
          rw [← e2]
          exact ⟨wk_pick [] [5, 6, 7, 8, 9] rfl, trivial⟩
        · have h1 : (((a.toNat / 2 ^ k : Nat) : Int).tmod 2 != ((b.toNat / 2 ^ k : Nat) : Int).tmod 2) = false := h1
          rw [hm, hm] at h1
          have h2 : (a.toNat / 2 ^ k % 2 != b.toNat / 2 ^ k % 2) = false := by
            rw [bne_eq_false_iff_eq] at h1 ⊢; omega
          have e : diffN a.toNat b.toNat (k + 1) = diffN a.toNat b.toNat k := by
            conv => lhs; unfold diffN
            rw [h2]
          rw [e]
          exact aw_skip ⟨wk_pick [] [5, 6, 7, 8, 9] rfl, trivial⟩
      · refine aw_seq (aw_region hT ?_)
        refine aw_seq (aw_region hT ?_)
        refine aw_region hT ?_
        have e3 : IntKind.i64.wrap (((2 ^ k : Nat) : Int) * 2) = ((2 ^ (k + 1) : Nat) : Int) := by
          rw [hp2, wrap64 _ (by omega) (by omega)]; omega
        rw [hx2, hy2, ← hq _ hdx, ← hq _ hdy, ← e3]
        exact ⟨wk_pick [] [5, 6, 7, 8, 9] rfl, trivial⟩
    · refine aw_region hT ?_
      refine ⟨n - 1, by omega, _, wk_pick [] [5, 6, 7, 8, 9] rfl, k + 1, IntKind.i64.wrap ((k : Int) + 1), _, _, _, _, by omega, ?_, rfl, rfl, rfl, rfl, rfl⟩
      rw [wrap64 _ (by omega) (by omega)]; rfl
  · have hk8 : k = 8 := by
      have := of_decide_eq_false (show decide ((k : Int) < 8) = false from h)
      omega
    subst hk8
    refine aw_exit ?_
    refine aw_seq (aw_region hT ?_)
    refine aw_ret ?_
    have e : IntKind.u8.wrap ((diffN a.toNat b.toNat 8 : Nat) : Int) = (((a ^^^ b).toNat : Nat) : Int) := by
      rw [diffN_xor, IntKind.wrap_u8]
      have := (a ^^^ b).toNat_lt
      omega
    show ∃ u2 H2, Wk 0 ⟨⟨1, [(0, .p (.raw (.int .u8 (IntKind.u8.wrap ((diffN a.toNat b.toNat 8 : Nat) : Int)))))]⟩, []⟩ ⟨⟨1, [(0, u2)]⟩, H2⟩ ∧ _
    rw [e]
    exact retPick [] ⟨rfl, rfl⟩ rfl
end Go.Proofs.Ytolefphdldmlkaa.AL

/- The document's device: a fault. -/
namespace Go.Proofs.Ytolefphdldmlkaa.AL
open Go Go.Proofs

theorem settle_has2 (D : Dev) (a : Int) : (D.settle a).cells.length = D.cells.length := settleC_len _ _ _

theorem refH_s (R : Dev) (a : Int) (g : Cell → Cell) {c : Cell} (hc : R.cells[a.toNat]? = some c) (s : Bytes) (hs : (g c).s = s) (h2 : (g c).lost = c.lost) (h3 : (g c).drop = c.drop) (h4 : (g c).miss = c.miss) : refH (R.upd a g) =
    [refC R 1 2 3 4 5, .row 37 1 ((sx R.cells).set (0 + a.toNat) [bP s]), .row 4 1 (lx R.cells), .row t_ref06_Wait 2 (wx R.waits), .row 3 1 (dx R.cells), .row 60 1 (mx R.cells)] := by
  unfold refH refC Dev.upd
  rw [modify_some g hc, List.length_set, Nat.zero_add]
  have e1 : sx (R.cells.set a.toNat (g c)) = (sx R.cells).set a.toNat [bP s] := by rw [← hs]; simp [sx, List.map_set]
  have e2 : lx (R.cells.set a.toNat (g c)) = lx R.cells := map_set_same _ hc (by rw [h2])
  have e3 : dx (R.cells.set a.toNat (g c)) = dx R.cells := map_set_same _ hc (by rw [h3])
  have e4 : mx (R.cells.set a.toNat (g c)) = mx R.cells := map_set_same _ hc (by rw [h4])
  rw [e1, e2, e3, e4]
theorem refH_l (R : Dev) (a : Int) (g : Cell → Cell) {c : Cell} (hc : R.cells[a.toNat]? = some c) (l : Bool) (hs : (g c).s = c.s) (h2 : (g c).lost = l) (h3 : (g c).drop = c.drop) (h4 : (g c).miss = c.miss) : refH (R.upd a g) =
    [refC R 1 2 3 4 5, .row 37 1 (sx R.cells), .row 4 1 ((lx R.cells).set (0 + a.toNat) [.raw (.bool l)]), .row t_ref06_Wait 2 (wx R.waits), .row 3 1 (dx R.cells), .row 60 1 (mx R.cells)] := by
  unfold refH refC Dev.upd
  rw [modify_some g hc, List.length_set, Nat.zero_add]
  have e1 : sx (R.cells.set a.toNat (g c)) = sx R.cells := map_set_same _ hc (by rw [hs])
  have e2 : lx (R.cells.set a.toNat (g c)) = (lx R.cells).set a.toNat [.raw (.bool l)] := by rw [← h2]; simp [lx, List.map_set]
  have e3 : dx (R.cells.set a.toNat (g c)) = dx R.cells := map_set_same _ hc (by rw [h3])
  have e4 : mx (R.cells.set a.toNat (g c)) = mx R.cells := map_set_same _ hc (by rw [h4])
  rw [e1, e2, e3, e4]

theorem may_kind {R : Dev} {f : Flt} (h : R.has f.at_ = true) : R.may f = if f.kind < 1 ∨ f.kind > 5 then 1 else if f.kind = 1 ∧ (f.off < 0 ∨ f.off ≥ 256) then 1 else if f.kind = 4 ∧ (f.n < 1 ∨ f.n > 1000) then 1 else if f.kind = 5 ∧ R.has f.to = false then 3 else 0 := by
  unfold Dev.may
  simp only [h]
  by_cases h1 : f.kind < 1 ∨ f.kind > 5
  · rw [if_pos h1, show (decide (f.kind < 1) || decide (f.kind > 5)) = true by rw [Bool.or_eq_true, decide_eq_true_eq, decide_eq_true_eq]; exact h1]
  rw [if_neg h1, show (decide (f.kind < 1) || decide (f.kind > 5)) = false by rw [Bool.or_eq_false_iff, decide_eq_false_iff_not, decide_eq_false_iff_not]; omega]
  by_cases h2 : f.kind = 1 ∧ (f.off < 0 ∨ f.off ≥ 256)
  · rw [if_pos h2, show ((f.kind == 1) && (decide (f.off < 0) || decide (f.off ≥ 256))) = true by simp [h2.1]; omega]
  rw [if_neg h2, show ((f.kind == 1) && (decide (f.off < 0) || decide (f.off ≥ 256))) = false by
    cases h5 : ((f.kind == 1) && (decide (f.off < 0) || decide (f.off ≥ 256))) with
    | false => rfl
    | true => simp at h5; omega]
  by_cases h3 : f.kind = 4 ∧ (f.n < 1 ∨ f.n > 1000)
  · rw [if_pos h3, show ((f.kind == 4) && (decide (f.n < 1) || decide (f.n > 1000))) = true by simp [h3.1]; omega]
  rw [if_neg h3, show ((f.kind == 4) && (decide (f.n < 1) || decide (f.n > 1000))) = false by
    cases h5 : ((f.kind == 4) && (decide (f.n < 1) || decide (f.n > 1000))) with
    | false => rfl
    | true => simp at h5; omega]
  by_cases h4 : f.kind = 5 ∧ R.has f.to = false
  · rw [if_pos h4, show ((f.kind == 5) && !(R.has f.to)) = true by simp [h4.1, h4.2]]
  · rw [if_neg h4, show ((f.kind == 5) && !(R.has f.to)) = false by
      cases h5 : ((f.kind == 5) && !(R.has f.to)) with
      | false => rfl
      | true => simp at h5; exact absurd h5 h4]
end Go.Proofs.Ytolefphdldmlkaa.AL

/- The document's device: a fault, walked. -/
namespace Go.Proofs.Ytolefphdldmlkaa.AL
open Go Go.Proofs

theorem fault_no {R : Dev} {f : Flt} {e : Int} (h : R.may f = e) (he : e ≠ 0) : R.fault f = (e, R) := by
  unfold Dev.fault; rw [h]
  rw [show (e == 0) = false by simpa using he]
theorem fault_yes {R : Dev} {f : Flt} (h : R.may f = 0) : R.fault f = (0, R.hurt f) := by
  unfold Dev.fault; rw [h]; rfl

set_option maxRecDepth 4000 in
set_option maxHeartbeats 1000000 in
theorem ref_Fault (R : Dev) (f : Flt) (b : Nat) (hR : R.Ok b) (hb : b ≤ 1000000) : AFm Try.prog 1 f_ref06_Disk_Fault [.ref 0 0, f.av] (refH R) (Pure (i64 (R.fault f).1) (refH (R.fault f).2)) := by
  have hw : R.waitsIn := fun x hx => hR.at_ x hx
  have hn : R.waits.length ≤ 1000000 := Nat.le_trans hR.wl hb
  refine af_bodyM 1 hT F_ref06_Disk_Fault rfl rfl N_ref06_Disk_Fault rfl rfl ?_
  refine aw_seq (aw_region hT ?_)
  refine aw_wk (wk_boxL 6 f.pv rfl rfl) ?_
  refine aw_cut ⟨⟨181, [(0, .ref 0 0), (3, .p (.box f.pv))]⟩, refH R⟩ (0 ≤ f.at_ ∧ f.at_ < (R.cells.length : Int)) (aw_seq ?_) ?_
  · refine aw_draw [] [] hT follows_mixed (by rfl) ?_
    have no : R.has f.at_ = false → R.fault f = (3, R) := fun h1 => by
      refine fault_no ?_ (by omega)
      unfold Dev.may; rw [h1]
    refine boolI (fun h1 => ?_) (fun h1 => ?_)
    · have h1 : decide (f.at_ < 0) = true := h1
      have h1 := of_decide_eq_true h1
      have e := no (by unfold Dev.has; rw [decide_eq_false (by omega)]; rfl)
      refine aw_cond ?_
      refine aw_seq (aw_region hT ?_)
      refine aw_ret ?_
      rw [e]
      exact retPick [0, 1, 2, 3, 4, 5] ⟨rfl, rfl⟩ rfl
    · have h1 : decide (f.at_ < 0) = false := h1
      have h1 := of_decide_eq_false h1
      refine aw_cond (boolI (fun h2 => ?_) (fun h2 => ?_))
      · have h2 : decide (f.at_ ≥ (R.cells.length : Int)) = true := h2
        have h2 := of_decide_eq_true h2
        have e := no (by unfold Dev.has; rw [decide_eq_true (show f.at_ ≥ 0 by omega), decide_eq_false (by omega)]; rfl)
        refine aw_seq (aw_region hT ?_)
        refine aw_ret ?_
        rw [e]
        exact retPick [0, 1, 2, 3, 4, 5] ⟨rfl, rfl⟩ rfl
      · have h2 : decide (f.at_ ≥ (R.cells.length : Int)) = false := h2
        have h2 := of_decide_eq_false h2
        exact aw_skip ⟨wk_pick [0, 1, 2, 3, 4, 5] [0, 3] rfl, by omega, by omega⟩
  rintro ⟨ha, hb2⟩
  have h1 : R.has f.at_ = true := by unfold Dev.has; rw [decide_eq_true (show f.at_ ≥ 0 from ha), decide_eq_true hb2]; rfl
  have hm := may_kind h1
  refine aw_cut2 (fun s1 => ∃ R2, R.fault f = (0, R2) ∧ s1 = ⟨⟨181, []⟩, refH R2⟩) (aw_seq (aw_region hT ?_)) ?_
  · refine aw_block (aw_seq (aw_region hT ?_))
    refine aw_cond (boolI (fun k1 => ?_) (fun k1 => ?_))
    · have k1 : f.kind = 1 := by
        have k1 : (f.kind == 1) = true := k1
        simpa using k1
      have bad : (f.off < 0 ∨ f.off ≥ 256) → R.fault f = (1, R) := fun h => by
        refine fault_no ?_ (by omega)
        rw [hm, if_neg (by omega), if_pos ⟨k1, h⟩]
      refine aw_cut ⟨⟨181, [(0, .ref 0 0), (3, .p (.box f.pv))]⟩, refH R⟩ (0 ≤ f.off ∧ f.off < 256) (aw_seq (aw_region hT ?_)) ?_
      · refine boolI (fun h1 => ?_) (fun h1 => ?_)
        · have h1 : decide (f.off < 0) = true := h1
          have e := bad (.inl (of_decide_eq_true h1))
          refine aw_cond ?_
          refine aw_seq (aw_region hT ?_)
          refine aw_ret ?_
          rw [e]
          exact retPick [0, 1, 2, 3, 4, 5] ⟨rfl, rfl⟩ rfl
        · have h1 : decide (f.off < 0) = false := h1
          have h1 := of_decide_eq_false h1
          refine aw_cond (boolI (fun h2 => ?_) (fun h2 => ?_))
          · have h2 : decide (f.off > 255) = true := h2
            have h2 := of_decide_eq_true h2
            have e := bad (.inr (by omega))
            refine aw_seq (aw_region hT ?_)
            refine aw_ret ?_
            rw [e]
            exact retPick [0, 1, 2, 3, 4, 5] ⟨rfl, rfl⟩ rfl
          · have h2 : decide (f.off > 255) = false := h2
            have h2 := of_decide_eq_false h2
            exact aw_skip ⟨wk_pick [0, 1, 2, 3, 4, 5] [0, 3] rfl, by omega, by omega⟩
      rintro ⟨o0, o1⟩
      have e : R.fault f = (0, (R.settle f.at_).upd f.at_ fun c => { c with s := rotB f c.s 4 }) := by
        rw [fault_yes (by rw [hm, if_neg (by omega), if_neg (by omega), if_neg (by omega), if_neg (by omega)])]
        unfold Dev.hurt; rw [if_pos k1]
      obtain ⟨c, hc, _⟩ := cell_get (R.settle f.at_) ((settle_has R f.at_ f.at_).trans h1)
      have hl := settle_has2 R f.at_
      have hcs := (hR.settle f.at_).cs c (List.mem_of_getElem? hc)
      have hbx := bx_len c.s
      have g1 : (sx (R.settle f.at_).cells)[0 + f.at_.toNat]? = some [bP c.s] := by rw [Nat.zero_add]; exact map_get _ hc
      refine aw_seq (aw_region hT ?_)
      refine callP (af_in [0, 1, 2, 3, 4, 5] (ref_settle R f.at_ hw hn) rfl rfl rfl) ?_
      refine aw_wk (wk_pick [0, 6, 7, 8, 9, 10] [0, 3] rfl) ?_
      refine aw_seq ?_
      refine aw_draw [8] [] hT follows_mixed (by rfl) ?_
      refine ⟨⟨ha, by omega⟩, ?_⟩
      refine optI g1 ?_
      refine ⟨⟨?_, ?_⟩, ?_⟩
      · show (bx c.s).length * 1 ≤ 140737488355328
        omega
      · show (bx c.s).length ≤ 140737488355328
        omega
      have hgo : ∀ i : Nat, ¬ (f.off + (i : Int) < 256) → ∀ k, rotB f c.s (i + k) = rotB f c.s i := fun i hi k => by
        induction k with
        | zero => rfl
        | succ k ih =>
          rw [← Nat.add_assoc, rot_no f c.s (i + k) (by rw [hcs]; omega), ih]
      refine aw_cut ⟨⟨181, [(0, .ref 0 0), (3, .p (.box f.pv)), (5, .msl 6 1 0 c.s.length)]⟩, refH (R.settle f.at_) ++ [.row t_u8 1 (bx (rotB f c.s 4))]⟩ True (aw_seq (aw_region hT ?_)) (fun _ => ?_)
      · refine aw_block ?_
        refine aw_loopW (fun n s => ∃ (i : Nat) (j : Int), n + i = 4 ∧ j = i ∧ s = ⟨⟨181, [(0, .ref 0 0), (3, .p (.box f.pv)), (5, .msl 6 1 0 c.s.length), (6, i64 j)]⟩, refH (R.settle f.at_) ++ [.row t_u8 1 (bx (rotB f c.s i))]⟩) 4 ⟨⟨181, _⟩, [_, _, _, _, _, _, _]⟩ (wk_pick [0, 1, 2, 3, 4, 5, 6] [0, 3, 5, 6] rfl) ⟨0, 0, rfl, rfl, by rw [← hbx]; rfl⟩ ?_
        rintro n s ⟨i, j, hni, rfl, rfl⟩
        refine aw_cut2 (fun s1 => i < 4 ∧ f.off + (i : Int) < 256 ∧ s1 = ⟨⟨181, [(0, .ref 0 0), (3, .p (.box f.pv)), (5, .msl 6 1 0 c.s.length), (6, i64 i)]⟩, refH (R.settle f.at_) ++ [.row t_u8 1 (bx (rotB f c.s i))]⟩) (aw_seq (aw_region hT ?_)) ?_
        · refine boolI (fun q1 => ?_) (fun q1 => ?_)
          · have hi : i < 4 := by
              have := of_decide_eq_true (show decide ((i : Int) < 4) = true from q1)
              omega
            have ha2 := rot_at f i o0 o1 hi
            refine aw_cond (boolI (fun q2 => ?_) (fun q2 => ?_))
            · have q2 : decide (IntKind.i64.wrap (f.off + (i : Int)) < 256) = true := q2
              have q2 := of_decide_eq_true q2
              rw [ha2.1] at q2
              exact aw_skip ⟨_, wk_pick [0, 1, 2, 3, 4, 5, 6] [0, 3, 5, 6] rfl, hi, q2, rfl⟩
            · have q2 : decide (IntKind.i64.wrap (f.off + (i : Int)) < 256) = false := q2
              have q2 := of_decide_eq_false q2
              rw [ha2.1] at q2
              have e4 : rotB f c.s 4 = rotB f c.s i := by
                have := hgo i q2 (4 - i)
                rwa [show i + (4 - i) = 4 by omega] at this
              refine aw_exit ?_
              rw [e4]
              exact ⟨wk_pick [0, 1, 2, 3, 4, 5, 6] [0, 3, 5] rfl, trivial⟩
          · have hi : i = 4 := by
              have := of_decide_eq_false (show decide ((i : Int) < 4) = false from q1)
              omega
            subst hi
            refine aw_cond ?_
            refine aw_exit ?_
            exact ⟨wk_pick [0, 1, 2, 3, 4, 5, 6] [0, 3, 5] rfl, trivial⟩
        · rintro _ ⟨hi, q2, rfl⟩
          have h3 : f.off + (i : Int) < (c.s.length : Int) := by rw [hcs]; exact q2
          have ha2 := rot_at f i o0 o1 hi
          have g3 := rot_get f c.s i o0 o1 hi h3
          have hy := rot_yes f c.s i o0 o1 hi h3
          rw [xor_u8] at hy
          obtain rfl | rfl | rfl | rfl : i = 0 ∨ i = 1 ∨ i = 2 ∨ i = 3 := by omega
          · refine aw_seq (aw_block ?_)
            refine aw_draw [18] [] hT follows_mixed (by rfl) ?_
            refine ⟨⟨by rw [ha2.1]; omega, by rw [ha2.1]; exact h3⟩, ?_⟩
            refine optI g3 ?_
            refine ⟨⟨by omega, by omega⟩, ?_⟩
            refine ⟨_, af_at (ref_differ ((rotB f c.s 0).getD (f.off.toNat + 0) 0) (f.m 0)) _ rfl rfl, ?_⟩
            refine ⟨⟨by rw [ha2.1]; omega, by rw [ha2.1]; exact h3⟩, ?_⟩
            refine optI g3 ?_
            refine aw_region hT ?_
            refine ⟨n - 1, by omega, _, wk_pick [0, 1, 2, 3, 4, 5, 6] [0, 3, 5, 6] rfl, 0 + 1, IntKind.i64.wrap (((0 : Nat) : Int) + 1), by omega, by decide, ?_⟩
            refine congrArg (St.mk _) ?_
            rw [hy]
            rfl
          · refine aw_seq (aw_block ?_)
            refine aw_draw [18] [] hT follows_mixed (by rfl) ?_
            refine ⟨⟨by rw [ha2.1]; omega, by rw [ha2.1]; exact h3⟩, ?_⟩
            refine optI g3 ?_
            refine ⟨⟨by omega, by omega⟩, ?_⟩
            refine ⟨_, af_at (ref_differ ((rotB f c.s 1).getD (f.off.toNat + 1) 0) (f.m 1)) _ rfl rfl, ?_⟩
            refine ⟨⟨by rw [ha2.1]; omega, by rw [ha2.1]; exact h3⟩, ?_⟩
            refine optI g3 ?_
            refine aw_region hT ?_
            refine ⟨n - 1, by omega, _, wk_pick [0, 1, 2, 3, 4, 5, 6] [0, 3, 5, 6] rfl, 1 + 1, IntKind.i64.wrap (((1 : Nat) : Int) + 1), by omega, by decide, ?_⟩
            refine congrArg (St.mk _) ?_
            rw [hy]
            rfl
          · refine aw_seq (aw_block ?_)
            refine aw_draw [18] [] hT follows_mixed (by rfl) ?_
            refine ⟨⟨by rw [ha2.1]; omega, by rw [ha2.1]; exact h3⟩, ?_⟩
            refine optI g3 ?_
            refine ⟨⟨by omega, by omega⟩, ?_⟩
            refine ⟨_, af_at (ref_differ ((rotB f c.s 2).getD (f.off.toNat + 2) 0) (f.m 2)) _ rfl rfl, ?_⟩
            refine ⟨⟨by rw [ha2.1]; omega, by rw [ha2.1]; exact h3⟩, ?_⟩
            refine optI g3 ?_
            refine aw_region hT ?_
            refine ⟨n - 1, by omega, _, wk_pick [0, 1, 2, 3, 4, 5, 6] [0, 3, 5, 6] rfl, 2 + 1, IntKind.i64.wrap (((2 : Nat) : Int) + 1), by omega, by decide, ?_⟩
            refine congrArg (St.mk _) ?_
            rw [hy]
            rfl
          · refine aw_seq (aw_block ?_)
            refine aw_draw [18] [] hT follows_mixed (by rfl) ?_
            refine ⟨⟨by rw [ha2.1]; omega, by rw [ha2.1]; exact h3⟩, ?_⟩
            refine optI g3 ?_
            refine ⟨⟨by omega, by omega⟩, ?_⟩
            refine ⟨_, af_at (ref_differ ((rotB f c.s 3).getD (f.off.toNat + 3) 0) (f.m 3)) _ rfl rfl, ?_⟩
            refine ⟨⟨by rw [ha2.1]; omega, by rw [ha2.1]; exact h3⟩, ?_⟩
            refine optI g3 ?_
            refine aw_region hT ?_
            refine ⟨n - 1, by omega, _, wk_pick [0, 1, 2, 3, 4, 5, 6] [0, 3, 5, 6] rfl, 3 + 1, IntKind.i64.wrap (((3 : Nat) : Int) + 1), by omega, by decide, ?_⟩
            refine congrArg (St.mk _) ?_
            rw [hy]
            rfl
      · refine aw_wk (wk_frz1 5 6 rfl rfl (by rw [bx_len, rotB_len]; omega)) ?_
        refine aw_draw [8] [] hT follows_mixed (by rfl) ?_
        refine ⟨⟨ha, by omega⟩, ?_⟩
        refine optI g1 ?_
        refine ⟨_, wk_pick [0, 1, 2, 3, 4, 5] [] rfl, _, e, ?_⟩
        refine congrArg (St.mk _) ?_
        refine Eq.trans ?_ (refH_s (R.settle f.at_) f.at_ _ hc (rotB f c.s 4) rfl rfl rfl rfl).symm
        have e3 : ((bx (rotB f c.s 4)).drop 0).take c.s.length = bx (rotB f c.s 4) := by
          rw [List.drop_zero, ← rotB_len f c.s 4, ← bx_len, List.take_length]
        show [_, ABlk.row 37 1 ((sx (R.settle f.at_).cells).set (0 + f.at_.toNat) [.sl 1 (((bx (rotB f c.s 4)).drop 0).take c.s.length)]), _, _, _, _] = _
        rw [e3]
        rfl
    refine aw_seq (aw_region hT ?_)
    refine aw_cond (boolI (fun k2 => ?_) (fun k2 => ?_))
    · have k2 : f.kind = 2 := by
        have k2 : (f.kind == 2) = true := k2
        simpa using k2
      obtain ⟨c, hc, _⟩ := cell_get (R.settle f.at_) ((settle_has R f.at_ f.at_).trans h1)
      have hl := settle_has2 R f.at_
      have e : R.fault f = (0, ((R.settle f.at_).upd f.at_ fun c => { c with s := zeros }).upd f.at_ fun c => { c with lost := false }) := by
        rw [fault_yes (by rw [hm, if_neg (by omega), if_neg (by omega), if_neg (by omega), if_neg (by omega)])]
        unfold Dev.hurt; rw [if_neg (by omega), if_pos k2]
        have hlt := (List.getElem?_eq_some_iff.1 hc).1
        rw [upd_set _ hc, upd_set (fun c => { c with s := zeros }) hc, upd_set (D := { R.settle f.at_ with cells := (R.settle f.at_).cells.set f.at_.toNat { c with s := zeros } }) (c := { c with s := zeros }) (fun c => { c with lost := false }) (List.getElem?_set_self hlt)]
        simp [List.set_set]
      have g1 : (sx (R.settle f.at_).cells)[0 + f.at_.toNat]? = some [bP c.s] := by rw [Nat.zero_add]; exact map_get _ hc
      have hu := refH_s (R.settle f.at_) f.at_ (fun c => { c with s := zeros }) hc zeros rfl rfl rfl rfl
      have hc2 : ((R.settle f.at_).upd f.at_ fun c => { c with s := zeros }).cells[f.at_.toNat]? = some { c with s := zeros } := by
        rw [upd_set (fun c => { c with s := zeros }) hc]
        exact List.getElem?_set_self (List.getElem?_eq_some_iff.1 hc).1
      have hl2 : ((R.settle f.at_).upd f.at_ fun c => { c with s := zeros }).cells.length = R.cells.length := (List.length_modify ..).trans hl
      generalize hE : ((R.settle f.at_).upd f.at_ fun c => { c with s := zeros }) = E at e hu hc2 hl2
      have g2 : (lx E.cells)[0 + f.at_.toNat]? = some [.raw (.bool c.lost)] := by
        rw [Nat.zero_add]
        have h := map_get (fun c => [PV.raw (.bool c.lost)]) hc2
        exact h
      refine aw_seq (aw_region hT ?_)
      refine callP (af_in [0, 1, 2, 3, 4, 5] (ref_settle R f.at_ hw hn) rfl rfl rfl) ?_
      refine aw_wk (wk_pick [0, 6, 7, 8, 9, 10] [0, 3] rfl) ?_
      refine aw_cut ⟨⟨181, [(0, .ref 0 0), (3, .p (.box f.pv))]⟩, refH E⟩ True ?_ (fun _ => ?_)
      · refine aw_draw [8] [6] hT follows_mixed (by rfl) ?_
        refine ⟨⟨rfl, by omega, by decide, by omega⟩, ?_⟩
        refine ⟨⟨rfl, List.length_replicate.symm⟩, ?_⟩
        refine ⟨⟨ha, by omega⟩, ?_⟩
        refine optI g1 ?_
        rw [hu, show bP zeros = PV.sl 1 (List.replicate 256 [PV.raw (.int .u8 0)]) from congrArg (PV.sl 1) bx_zeros]
        exact ⟨wk_pick [0, 1, 2, 3, 4, 5] [0, 3] rfl, trivial⟩
      · refine aw_draw [7] [] hT follows_mixed (by rfl) ?_
        refine ⟨⟨ha, by omega⟩, ?_⟩
        refine optI g2 ?_
        refine ⟨_, wk_pick [0, 1, 2, 3, 4, 5] [] rfl, _, e, ?_⟩
        refine congrArg (St.mk _) ?_
        exact (refH_l E f.at_ _ hc2 false rfl rfl rfl rfl).symm
    refine aw_seq (aw_region hT ?_)
    refine aw_cond (boolI (fun k3 => ?_) (fun k3 => ?_))
    · have k3 : f.kind = 3 := by
        have k3 : (f.kind == 3) = true := k3
        simpa using k3
      have e : R.fault f = (0, (R.settle f.at_).upd f.at_ fun c => { c with lost := true }) := by
        rw [fault_yes (by rw [hm, if_neg (by omega), if_neg (by omega), if_neg (by omega), if_neg (by omega)])]
        unfold Dev.hurt; rw [if_neg (by omega), if_neg (by omega), if_pos k3]
      obtain ⟨c, hc, _⟩ := cell_get (R.settle f.at_) ((settle_has R f.at_ f.at_).trans h1)
      have hl := settle_has2 R f.at_
      have g2 : (lx (R.settle f.at_).cells)[0 + f.at_.toNat]? = some [.raw (.bool c.lost)] := by rw [Nat.zero_add]; exact map_get _ hc
      refine aw_seq (aw_region hT ?_)
      refine callP (af_in [0, 1, 2, 3, 4, 5] (ref_settle R f.at_ hw hn) rfl rfl rfl) ?_
      refine aw_wk (wk_pick [0, 6, 7, 8, 9, 10] [0, 3] rfl) ?_
      refine aw_draw [7] [] hT follows_mixed (by rfl) ?_
      refine ⟨⟨ha, by omega⟩, ?_⟩
      refine optI g2 ?_
      refine ⟨_, wk_pick [0, 1, 2, 3, 4, 5] [] rfl, _, e, ?_⟩
      refine congrArg (St.mk _) ?_
      exact (refH_l (R.settle f.at_) f.at_ _ hc true rfl rfl rfl rfl).symm
    refine aw_seq (aw_region hT ?_)
    refine aw_cond (boolI (fun k4 => ?_) (fun k4 => ?_))
    · have k4 : f.kind = 4 := by
        have k4 : (f.kind == 4) = true := k4
        simpa using k4
      have gd : ∃ c, R.cells[f.at_.toNat]? = some c := ⟨_, List.getElem?_eq_getElem (by omega)⟩
      obtain ⟨⟨c1, c2, c3, c4⟩, hc⟩ := gd
      have gd : (dx R.cells)[0 + f.at_.toNat]? = some [.raw (.int .i64 c3)] := by rw [Nat.zero_add]; exact map_get _ hc
      have bad : (f.n < 1 ∨ f.n > 1000) → R.fault f = (1, R) := fun h => by
        refine fault_no ?_ (by omega)
        rw [hm, if_neg (by omega), if_neg (by omega), if_pos ⟨k4, h⟩]
      refine aw_cut ⟨⟨181, [(0, .ref 0 0), (3, .p (.box f.pv))]⟩, refH R⟩ (1 ≤ f.n ∧ f.n ≤ 1000) (aw_seq (aw_region hT ?_)) ?_
      · refine boolI (fun h1 => ?_) (fun h1 => ?_)
        · have h1 : decide (f.n < 1) = true := h1
          have e := bad (.inl (of_decide_eq_true h1))
          refine aw_cond ?_
          refine aw_seq (aw_region hT ?_)
          refine aw_ret ?_
          rw [e]
          exact retPick [0, 1, 2, 3, 4, 5] ⟨rfl, rfl⟩ rfl
        · have h1 : decide (f.n < 1) = false := h1
          have h1 := of_decide_eq_false h1
          refine aw_cond (boolI (fun h2 => ?_) (fun h2 => ?_))
          · have h2 : decide (f.n > 1000) = true := h2
            have e := bad (.inr (of_decide_eq_true h2))
            refine aw_seq (aw_region hT ?_)
            refine aw_ret ?_
            rw [e]
            exact retPick [0, 1, 2, 3, 4, 5] ⟨rfl, rfl⟩ rfl
          · have h2 : decide (f.n > 1000) = false := h2
            have h2 := of_decide_eq_false h2
            exact aw_skip ⟨wk_pick [0, 1, 2, 3, 4, 5] [0, 3] rfl, by omega, by omega⟩
      rintro ⟨h1, h2⟩
      have e : R.fault f = (0, { R with cells := R.cells.set f.at_.toNat ⟨c1, c2, IntKind.i64.wrap (c3 + f.n), c4⟩ }) := by
        rw [fault_yes (by rw [hm, if_neg (by omega), if_neg (by omega), if_neg (by omega), if_neg (by omega)])]
        unfold Dev.hurt; rw [if_neg (by omega), if_neg (by omega), if_neg (by omega), if_pos k4, upd_set _ hc]
      refine aw_draw [18] [] hT follows_mixed (by rfl) ?_
      refine ⟨⟨ha, hb2⟩, ?_⟩
      refine optI gd ?_
      refine ⟨⟨ha, hb2⟩, ?_⟩
      refine optI gd ?_
      refine ⟨_, wk_pick [0, 1, 2, 3, 4, 5] [] rfl, _, e, ?_⟩
      refine congrArg (St.mk _) ?_
      exact (refH_drop R f.at_.toNat c1 c2 c3 _ c4 hc).symm
    refine aw_seq (aw_region hT ?_)
    refine aw_cond (boolI (fun k5 => ?_) (fun k5 => ?_))
    · have k5 : f.kind = 5 := by
        have k5 : (f.kind == 5) = true := k5
        simpa using k5
      obtain ⟨⟨c1, c2, c3, c4⟩, hc⟩ : ∃ c, R.cells[f.at_.toNat]? = some c := ⟨_, List.getElem?_eq_getElem (by omega)⟩
      have gm : (mx R.cells)[0 + f.at_.toNat]? = some [iP c4] := by rw [Nat.zero_add]; exact map_get _ hc
      have hc4 : c4.length ≤ 1000000 := Nat.le_trans (hR.ml _ (List.mem_of_getElem? hc)) hb
      have hix := ix_len c4
      have bad : R.has f.to = false → R.fault f = (3, R) := fun h => by
        refine fault_no ?_ (by omega)
        rw [hm, if_neg (by omega), if_neg (by omega), if_neg (by omega), if_pos ⟨k5, h⟩]
      refine aw_cut ⟨⟨181, [(0, .ref 0 0), (3, .p (.box f.pv))]⟩, refH R⟩ (0 ≤ f.to ∧ f.to < (R.cells.length : Int)) (aw_seq ?_) ?_
      · refine aw_draw [] [] hT follows_mixed (by rfl) ?_
        refine boolI (fun h1 => ?_) (fun h1 => ?_)
        · have h1 : decide (f.to < 0) = true := h1
          have h1 := of_decide_eq_true h1
          have e := bad (by unfold Dev.has; rw [decide_eq_false (by omega)]; rfl)
          refine aw_cond ?_
          refine aw_seq (aw_region hT ?_)
          refine aw_ret ?_
          rw [e]
          exact retPick [0, 1, 2, 3, 4, 5] ⟨rfl, rfl⟩ rfl
        · have h1 : decide (f.to < 0) = false := h1
          have h1 := of_decide_eq_false h1
          refine aw_cond (boolI (fun h2 => ?_) (fun h2 => ?_))
          · have h2 : decide (f.to ≥ (R.cells.length : Int)) = true := h2
            have h2 := of_decide_eq_true h2
            have e := bad (by unfold Dev.has; rw [decide_eq_true (show f.to ≥ 0 by omega), decide_eq_false (by omega)]; rfl)
            refine aw_seq (aw_region hT ?_)
            refine aw_ret ?_
            rw [e]
            exact retPick [0, 1, 2, 3, 4, 5] ⟨rfl, rfl⟩ rfl
          · have h2 : decide (f.to ≥ (R.cells.length : Int)) = false := h2
            have h2 := of_decide_eq_false h2
            exact aw_skip ⟨wk_pick [0, 1, 2, 3, 4, 5] [0, 3] rfl, by omega, by omega⟩
      rintro ⟨h1, h2⟩
      have ht : R.has f.to = true := by unfold Dev.has; rw [decide_eq_true (show f.to ≥ 0 from h1), decide_eq_true h2]; rfl
      have e : R.fault f = (0, { R with cells := R.cells.set f.at_.toNat ⟨c1, c2, c3, c4 ++ [f.to]⟩ }) := by
        rw [fault_yes (by rw [hm, if_neg (by omega), if_neg (by omega), if_neg (by omega), if_neg (by rw [ht]; simp)])]
        unfold Dev.hurt; rw [if_neg (by omega), if_neg (by omega), if_neg (by omega), if_neg (by omega), upd_set _ hc]
      refine aw_seq ?_
      refine aw_draw [8] [] hT follows_mixed (by rfl) ?_
      refine ⟨⟨ha, hb2⟩, ?_⟩
      refine optI gm ?_
      refine ⟨⟨?_, ?_⟩, ?_⟩
      · show (ix c4).length * 8 ≤ 140737488355328
        omega
      · show (ix c4).length ≤ 140737488355328
        omega
      refine aw_draw [10, 12] [9, 10] hT follows_mixed (by rfl) ?_
      refine ⟨⟨rfl, rfl⟩, ?_⟩
      refine ⟨rfl, ⟨?_, ?_⟩, ?_⟩
      · show ((ix c4).length + 1) * 8 ≤ 140737488355328
        omega
      · show (ix c4).length + 1 ≤ 140737488355328
        omega
      refine ⟨⟨rfl, rfl⟩, ?_⟩
      refine ⟨⟨ha, hb2⟩, ?_⟩
      refine optI gm ?_
      refine ⟨rfl, rfl, ?_⟩
      refine ⟨_, wk_pick [0, 1, 2, 3, 4, 5] [] rfl, _, e, ?_⟩
      refine congrArg (St.mk _) ?_
      refine Eq.trans ?_ (refH_miss R f.at_.toNat c1 c2 c3 c4 (c4 ++ [f.to]) hc).symm
      have e2 : ix (c4 ++ [f.to]) = ix c4 ++ [[.raw (.int .i64 f.to)]] := by simp [ix]
      show _ = [_, _, _, _, _, ABlk.row 60 1 ((mx R.cells).set (0 + f.at_.toNat) [.sl 1 (ix (c4 ++ [f.to]))])]
      rw [e2]
      rfl
    · have hk : f.kind < 1 ∨ f.kind > 5 := by
        have k1 : (f.kind == 1) = false := k1
        have k2 : (f.kind == 2) = false := k2
        have k3 : (f.kind == 3) = false := k3
        have k4 : (f.kind == 4) = false := k4
        have k5 : (f.kind == 5) = false := k5
        simp at k1 k2 k3 k4 k5
        omega
      have e : R.fault f = (1, R) := fault_no (by rw [hm, if_pos hk]) (by omega)
      refine aw_seq (aw_region hT ?_)
      refine aw_ret ?_
      rw [e]
      exact retPick [0, 1, 2, 3, 4, 5] ⟨rfl, rfl⟩ rfl
  · rintro _ ⟨R2, e, rfl⟩
    refine aw_seq (aw_region hT ?_)
    refine aw_ret ?_
    rw [e]
    exact retPick [0, 1, 2, 3, 4, 5] ⟨rfl, rfl⟩ rfl
end Go.Proofs.Ytolefphdldmlkaa.AL
