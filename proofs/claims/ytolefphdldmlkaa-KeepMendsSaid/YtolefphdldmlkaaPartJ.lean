/- A part of the proof. -/
import Derived.Test.YtolefphdldmlkaaPartI
import Derived.Test.YtolefphdldmlkaaPartH
/- The layer 09 (keep): what is mended. -/
namespace Go.Proofs.Ytolefphdldmlkaa.AL
open Go Go.Proofs

def mendG (D : Dev) (m a : Int) (s : Bytes) : Int × (Dev × Int) := match (D.hhas a s).1.1 || ((D.hhas a s).1.2 != 0) with
  | true => ((D.hhas a s).1.2, ((D.hhas a s).2, m))
  | false => oneG (D.hhas a s).2 m a s

theorem hhas_ok {D : Dev} {b : Nat} (h : D.Ok b) (a : Int) (s : Bytes) : (D.hhas a s).2.Ok b := by
  unfold Dev.hhas
  split
  · exact h.read a
  · exact h.read a

theorem steps_mend : Steps f_keep_hand_mend mendG := fun D m a s b hD hb => by
  have w := hand_has D m a s b hD (by omega)
  have ok := hhas_ok hD a s
  have he : mendG D m a s = (match (D.hhas a s).1.1 || ((D.hhas a s).1.2 != 0) with | true => ((D.hhas a s).1.2, ((D.hhas a s).2, m)) | false => oneG (D.hhas a s).2 m a s) := rfl
  generalize D.hhas a s = Y at w ok he
  obtain ⟨⟨y1, y2⟩, E⟩ := Y
  replace ok : E.Ok b := ok
  replace he : mendG D m a s = (match y1 || (y2 != 0) with | true => (y2, (E, m)) | false => oneG E m a s) := he
  have w1 := hand_one E m a s b ok hb
  have ok1 := one_ok2 ok a s
  generalize mendG D m a s = Z at he
  refine ⟨?_, ?_⟩
  · refine af_bodyM 2 hT F_keep_hand_mend rfl rfl N_keep_hand_mend rfl rfl ?_
    refine aw_seq (aw_region hT ?_)
    refine aw_wk (wk_boxL 4 [.raw (.int .i64 a), bP s] rfl rfl) ?_
    refine aw_cut ⟨⟨22, [(0, .ref 0 0), (3, .p (.box [.raw (.int .i64 a), bP s]))]⟩, hH E m⟩ ((y1 || (y2 != 0)) = false) (aw_seq (aw_region hT ?_)) ?_
    · refine callP (af_in [0, 1, 2, 3] w rfl rfl rfl) ?_
      refine aw_seq (aw_region hT ?_)
      refine boolI (fun h => ?_) (fun h => ?_)
      · have h : y1 = true := h
        rw [h] at he; subst he
        refine aw_cond ?_
        refine aw_seq (aw_region hT ?_)
        refine aw_ret ?_
        exact retPick [0, 1, 2, 3] ⟨rfl, rfl⟩ rfl
      · have h : y1 = false := h
        refine aw_cond (boolI (fun h2 => ?_) (fun h2 => ?_))
        · have h2 : (y2 != 0) = true := h2
          rw [h2, Bool.or_true] at he; subst he
          refine aw_seq (aw_region hT ?_)
          refine aw_ret ?_
          exact retPick [0, 1, 2, 3] ⟨rfl, rfl⟩ rfl
        · have h2 : (y2 != 0) = false := h2
          exact aw_skip ⟨wk_pick [0, 1, 2, 3] [0, 3] rfl, by rw [h, h2]; rfl⟩
    · intro h
      rw [h] at he; subst he
      unfold oneG
      generalize E.one a s = Z at w1
      obtain ⟨z, E2⟩ := Z
      refine aw_seq (aw_region hT ?_)
      refine callP (af_in [0, 1, 2, 3] w1 rfl rfl rfl) ?_
      refine aw_ret ?_
      exact retPick [0, 1, 4, 5] ⟨rfl, rfl⟩ rfl
  · rw [he]
    split
    · exact ok.mono (by omega)
    · exact ok1

def Dev.mend9 (D : Dev) (l : List Put9) : (Int × Int) × Dev := (((eachK mendG l D 0).2.2, (eachK mendG l D 0).1), (eachK mendG l D 0).2.1)
theorem keep_Mend (D : Dev) (l : List Put9) (b : Nat) (hD : D.Ok b) (hb : b + 4 * l.length < 1000000) : AFm Try.prog 1 f_keep_Mend [.ref 0 0, .p (.sl 2 (px l))] (devH D) (Pure (.tup [i64 (D.mend9 l).1.1, i64 (D.mend9 l).1.2]) (devH (D.mend9 l).2)) := by
  have w := keep_each steps_mend l D 0 b hD hb
  unfold Dev.mend9
  generalize eachK mendG l D 0 = Y at w
  obtain ⟨e, E, k⟩ := Y
  refine af_bodyM 1 hT F_keep_Mend rfl rfl N_keep_Mend rfl rfl ?_
  refine aw_seq (aw_region hT ?_)
  refine aw_seq (aw_region hT ?_)
  refine aw_seq (aw_region hT ?_)
  refine callP (af_in [3, 0, 1, 2] w rfl rfl rfl) ?_
  refine aw_seq (aw_region hT ?_)
  refine aw_ret ?_
  exact retPick [0, 4, 5] ⟨rfl, rfl⟩ rfl
end Go.Proofs.Ytolefphdldmlkaa.AL

/- The law of layer 09: the chapter's examples; what is to be written. -/
namespace Go.Proofs.Ytolefphdldmlkaa.AL
open Go Go.Proofs

def av1 : Dev := Dev.new 2
def av2 : Dev := (av1.fault ⟨4, 0, 0, 3, 0, 0, 0, 0, 0⟩).2
def av3 : Dev := (av2.one 0 (sect 1)).2
def av4 : Dev := (av3.read 0).2
def av5 : Dev := (av4.fault ⟨4, 0, 0, 4, 0, 0, 0, 0, 0⟩).2
theorem av_e : (av2.one 0 (sect 1)).1 = 0 := by decide +kernel
theorem av_f : (av3.read 0).1 = (sect 1, 0) := by decide +kernel
theorem av_g : (av5.one 0 (sect 2)).1 = 22 := by decide +kernel

set_option maxRecDepth 8000 in
theorem awake9_of (D1 D2 D3 D4 D5 D6 : Dev) (s1 s2 : Bytes) (e1 : Dev.new 2 = D1) (q1 : sect 1 = s1) (q2 : sect 2 = s2) (ls : s1.length ≤ 256) (e2 : (D1.fault ⟨4, 0, 0, 3, 0, 0, 0, 0, 0⟩).2 = D2) (e3 : (D2.one 0 s1).2 = D3) (f3 : (D2.one 0 s1).1 = 0) (e4 : (D3.read 0).2 = D4) (f4 : (D3.read 0).1 = (s1, 0)) (e5 : (D4.fault ⟨4, 0, 0, 4, 0, 0, 0, 0, 0⟩).2 = D5) (e6 : (D5.one 0 s2).2 = D6) (f6 : (D5.one 0 s2).1 = 22) :
    AF Try.prog f_law09_awake [] [] (Pure (bl true) []) := by
  have o1 : D1.Ok 1 := e1 ▸ ok_new 2 1
  have o2 : D2.Ok 2 := by have := o1.fault ⟨4, 0, 0, 3, 0, 0, 0, 0, 0⟩; rw [e2] at this; exact this
  have o3 : D3.Ok 6 := by have := one_ok2 o2 0 s1; rw [e3] at this; exact this
  have o4 : D4.Ok 6 := by have := o3.read 0; rw [e4] at this; exact this
  have o5 : D5.Ok 7 := by have := o4.fault ⟨4, 0, 0, 4, 0, 0, 0, 0, 0⟩; rw [e5] at this; exact this
  have y1 := law06_Sector 1
  have y2 := law06_Sector 2
  have n1 := disk_New 2 (by omega) (by omega)
  rw [q1] at y1
  rw [q2] at y2
  rw [e1] at n1
  refine af_body hT F_law09_awake rfl rfl N_law09_awake rfl ?_
  refine aw_seq (aw_region hT ?_)
  refine aw_cut ⟨⟨47, [(1, .ref 0 0)]⟩, devH D1⟩ True (aw_region hT ?_) (fun _ => ?_)
  · refine callP n1 ?_
    exact ⟨wk_pick [0, 1, 2] [1] rfl, trivial⟩
  refine aw_cut ⟨⟨47, [(1, .ref 0 0)]⟩, devH D2⟩ True (aw_region hT ?_) (fun _ => ?_)
  · have w := disk_Fault D1 ⟨4, 0, 0, 3, 0, 0, 0, 0, 0⟩ _ o1 (by omega)
    rw [e2] at w
    refine callP (af_in [0, 1, 2] w rfl rfl rfl) ?_
    exact ⟨wk_pick [0, 1, 2] [1] rfl, trivial⟩
  refine aw_cut ⟨⟨47, [(1, .ref 0 0), (3, i64 0)]⟩, devH D3⟩ True (aw_region hT ?_) (fun _ => ?_)
  · refine callP (af_at y1 _ rfl rfl) ?_
    have w := keep_One D2 0 s1 _ o2 (by omega)
    rw [f3, e3] at w
    refine callP (af_in [0, 1, 2] w rfl rfl rfl) ?_
    exact ⟨wk_pick [0, 3, 4] [1, 3] rfl, trivial⟩
  refine aw_cut ⟨⟨47, [(1, .ref 0 0), (3, i64 0), (4, bA s1), (5, i64 0)]⟩, devH D4⟩ True (aw_region hT ?_) (fun _ => ?_)
  · have w := disk_Read D3 0 (o3.big (by omega)).2.1 (o3.big (by omega)).2.2.1 (o3.big (by omega)).2.2.2
    rw [f4, e4] at w
    refine callP (af_in [0, 1, 2] w rfl rfl rfl) ?_
    exact ⟨wk_pick [0, 1, 2] [1, 3, 4, 5] rfl, trivial⟩
  refine aw_cut ⟨⟨47, [(1, .ref 0 0), (3, i64 0), (4, bA s1), (5, i64 0)]⟩, devH D5⟩ True (aw_region hT ?_) (fun _ => ?_)
  · have w := disk_Fault D4 ⟨4, 0, 0, 4, 0, 0, 0, 0, 0⟩ _ o4 (by omega)
    rw [e5] at w
    refine callP (af_in [0, 1, 2] w rfl rfl rfl) ?_
    exact ⟨wk_pick [0, 1, 2] [1, 3, 4, 5] rfl, trivial⟩
  refine aw_cut ⟨⟨47, [(1, .ref 0 0), (3, i64 0), (4, bA s1), (5, i64 0), (6, i64 22)]⟩, devH D6⟩ True (aw_region hT ?_) (fun _ => ?_)
  · refine callP (af_at y2 _ rfl rfl) ?_
    have w := keep_One D5 0 s2 _ o5 (by omega)
    rw [f6, e6] at w
    refine callP (af_in [0, 1, 2] w rfl rfl rfl) ?_
    exact ⟨wk_pick [0, 3, 4] [1, 3, 4, 5, 6] rfl, trivial⟩
  have sm := ref04_Same s1 s1 (by omega)
  rw [beq_self_eq_true] at sm
  refine aw_seq (aw_region hT ?_)
  refine callP (af_at y1 _ rfl rfl) ?_
  refine callP (af_at sm _ rfl rfl) ?_
  refine aw_seq (aw_region hT ?_)
  refine aw_ret ?_
  exact retPick [] ⟨rfl, rfl⟩ rfl

theorem law09_awake : AF Try.prog f_law09_awake [] [] (Pure (bl true) []) :=
  awake9_of av1 av2 av3 av4 av5 (av5.one 0 (sect 2)).2 (sect 1) (sect 2) rfl rfl rfl (by rw [sect_len]; omega) rfl rfl av_e rfl av_f rfl rfl av_g

structure Want where
  at_ : Int
  b : UInt8
def Want.pv (x : Want) : List PV := [.raw (.int .i64 x.at_), u8 x.b]
def wnx (l : List Want) : List (List PV) := l.map Want.pv
theorem wnx_len (l : List Want) : (wnx l).length = l.length := by simp [wnx]
theorem wnx_get {l : List Want} {i : Nat} {c : Want} (h : l[i]? = some c) : (wnx l)[i]? = some c.pv := by rw [wnx, List.getElem?_map, h]; rfl
def Want.put (x : Want) : Put9 := ⟨x.at_, match ((x.b.toNat : Int).tmod 7 == 6) with | true => (sect x.b).drop 1 | false => sect x.b⟩
theorem px_put (l : List Put9) (x : Put9) : px (l ++ [x]) = px l ++ [x.pv] := by simp [px]

theorem law09_puts (l : List Want) (hl : l.length ≤ 1000) : AF Try.prog f_law09_puts [.p (.sl 2 (wnx l))] [] (Pure (.msl 0 2 0 l.length) [.row 63 2 (px (l.map Want.put))]) := by
  refine af_body hT F_law09_puts rfl rfl N_law09_puts rfl ?_
  refine aw_seq (aw_region hT ?_)
  refine aw_seq (aw_region hT ?_)
  refine aw_wk (Wk.trans (wk_phantom 63 2) (wk_nil 3 0 2 0 rfl)) ?_
  refine aw_seq (aw_seq (aw_region hT ?_))
  refine aw_block ?_
  refine aw_loopW (fun n s => ∃ (i : Nat) (j : Int) (L : List Put9), n + i = l.length ∧ j = i ∧ L = (l.take i).map Want.put ∧ s = ⟨⟨38, [(0, .p (.sl 2 (wnx l))), (3, .msl 0 2 0 (px L).length), (4, i64 j)]⟩, [.row 63 2 (px L)]⟩) l.length ⟨⟨38, _⟩, [_]⟩ (wk_pick [0] [0, 3, 4] rfl) ⟨0, 0, [], rfl, rfl, rfl, rfl⟩ ?_
  rintro n s ⟨i, j, L, hni, rfl, hL, rfl⟩
  have hLl : L.length = i := by rw [hL, List.length_map, List.length_take]; omega
  refine aw_seq (aw_seq (aw_region hT ?_))
  refine aw_cond (boolI (fun h => ?_) (fun h => ?_))
  · have hi : i < l.length := by
      have := of_decide_eq_true (show decide ((i : Int) < ((wnx l).length : Int)) = true from h)
      rw [wnx_len] at this; omega
    have hx := List.getElem?_eq_getElem hi
    have htk : l.take (i + 1) = l.take i ++ [l[i]] := by rw [List.take_add_one, hx]; rfl
    generalize l[i] = x at hx htk
    have hxp : (wnx l)[((i : Nat) : Int).toNat]? = some x.pv := by rw [Int.toNat_natCast]; exact wnx_get hx
    refine aw_skip ?_
    refine aw_seq (aw_block ?_)
    refine aw_seq (aw_region hT ?_)
    refine ⟨Int.natCast_nonneg _, optI hxp ?_⟩
    refine callP (af_at (law06_Sector x.b) _ rfl rfl) ?_
    refine aw_cut ⟨⟨38, [(0, .p (.sl 2 (wnx l))), (3, .msl 0 2 0 (px L).length), (4, i64 i), (5, bA x.put.s)]⟩, [.row 63 2 (px L)]⟩ True (aw_seq (aw_region hT ?_)) (fun _ => ?_)
    · refine ⟨Int.natCast_nonneg _, optI hxp ?_⟩
      refine aw_cond (boolI (fun h2 => ?_) (fun h2 => ?_))
      · have h2 : ((x.b.toNat : Int).tmod 7 == 6) = true := h2
        have e : x.put.s = (sect x.b).drop 1 := by unfold Want.put; rw [h2]
        refine aw_region hT ?_
        refine ⟨⟨by omega, by rw [bx_len, sect_len]; decide, Int.le_refl _⟩, ?_⟩
        have e2 : bx x.put.s = ((bx (sect x.b)).take ((bx (sect x.b)).length : Int).toNat).drop (1 : Int).toNat := by
          rw [e, Int.toNat_natCast, List.take_length]
          show bx ((sect x.b).drop 1) = (bx (sect x.b)).drop 1
          rw [bx, bx, List.map_drop]
        show Wk _ _ ⟨⟨38, [(0, .p (.sl 2 (wnx l))), (3, .msl 0 2 0 (px L).length), (4, i64 i), (5, .p (.sl 1 (bx x.put.s)))]⟩, [.row 63 2 (px L)]⟩ ∧ True
        rw [e2]
        exact ⟨wk_pick [0] [0, 3, 4, 5] rfl, trivial⟩
      · have h2 : ((x.b.toNat : Int).tmod 7 == 6) = false := h2
        have e : x.put.s = sect x.b := by unfold Want.put; rw [h2]
        rw [e]
        exact aw_skip ⟨wk_pick [0] [0, 3, 4, 5] rfl, trivial⟩
    · refine aw_regionF (fun k => Nat.beq 8 k) hT ?_
      refine ⟨Int.natCast_nonneg _, optI hxp ?_⟩
      refine ⟨⟨rfl, rfl⟩, ?_⟩
      refine ⟨rfl, ⟨?_, ?_⟩, ?_⟩
      · show ((px L).length + 1) * 32 ≤ 140737488355328
        rw [px_len]; omega
      · show (px L).length + 1 ≤ 140737488355328
        rw [px_len]; omega
      refine aw_region hT ?_
      refine ⟨n - 1, by omega, _, wk_pick [1] [0, 3, 4] rfl, i + 1, IntKind.i64.wrap ((i : Int) + 1), L ++ [x.put], by omega, ?_, ?_, ?_⟩
      · rw [wrap64 _ (by omega) (by omega)]; rfl
      · rw [htk, List.map_append, ← hL]; rfl
      · rw [px_put]; rfl
  · have hi : i = l.length := by
      have : ¬ (i : Int) < ((wnx l).length : Int) := of_decide_eq_false h
      rw [wnx_len] at this; omega
    refine aw_exit ?_
    refine aw_seq (aw_region hT ?_)
    refine aw_ret ?_
    have e : px L = px (l.map Want.put) := by rw [hL, hi, List.take_length]
    have e2 : (px L).length = l.length := by rw [px_len, hLl, hi]
    rw [← e, ← e2]
    exact retPick [0] ⟨rfl, rfl⟩ rfl
theorem law09_putsF (l : List Want) (hl : l.length ≤ 1000) : AF Try.prog f_law09_puts [.p (.sl 2 (wnx l))] [] (Pure (.p (.sl 2 (px (l.map Want.put)))) []) :=
  af_frz (law09_puts l hl) (by rw [px_len, List.length_map])
end Go.Proofs.Ytolefphdldmlkaa.AL

/- The law of layer 09: a device behind faults; the document's one. -/
namespace Go.Proofs.Ytolefphdldmlkaa.AL
open Go Go.Proofs

def fx (l : List Flt) : List (List PV) := l.map Flt.pv
theorem fx_len (l : List Flt) : (fx l).length = l.length := by simp [fx]
theorem fx_get {l : List Flt} {i : Nat} {c : Flt} (h : l[i]? = some c) : (fx l)[i]? = some c.pv := by rw [fx, List.getElem?_map, h]; rfl

def Dev.faults (D : Dev) (l : List Flt) : Dev := l.foldl (fun D x => (D.fault x).2) D
theorem faults_snoc (D : Dev) (l : List Flt) (x : Flt) : D.faults (l ++ [x]) = ((D.faults l).fault x).2 := by unfold Dev.faults; rw [List.foldl_append]; rfl
theorem fault_len (D : Dev) (x : Flt) : (D.fault x).2.cells.length = D.cells.length := by
  have := does_len D ⟨2, 0, 0, false, x, []⟩
  exact this
theorem faults_ok {D : Dev} {b : Nat} (h : D.Ok b) (l : List Flt) : (D.faults l).Ok (b + l.length) := by
  induction l generalizing D b with
  | nil => exact h
  | cons x r ih => rw [List.length_cons, show b + (r.length + 1) = b + 1 + r.length by omega]; exact ih (h.fault x)
theorem faults_len (D : Dev) (l : List Flt) : (D.faults l).cells.length = D.cells.length := by
  induction l generalizing D with
  | nil => rfl
  | cons x r ih => exact (ih (D := (D.fault x).2)).trans (fault_len D x)

set_option maxRecDepth 8000 in
theorem law09_spoilt (f : List Flt) (die : Int) (hf : f.length ≤ 1000) : AF Try.prog f_law09_spoilt [.p (.sl 9 (fx f)), i64 die] [] (Pure (.tup [.ref 0 0, .ref 3 0]) (drH (((Dev.new 8).faults f).arm die) (((Dev.new 8).faults f).arm die))) := by
  have n1 := disk_New 8 (by omega) (by omega)
  have n2 := ref_New 8 (by omega) (by omega)
  have o1 := ok_new 8 0
  generalize Dev.new 8 = D0 at n1 n2 o1
  refine af_body hT F_law09_spoilt rfl rfl N_law09_spoilt rfl ?_
  refine aw_seq (aw_region hT ?_)
  refine aw_seq (aw_region hT ?_)
  refine callP n1 ?_
  refine aw_cut ⟨⟨51, [(0, .p (.sl 9 (fx f))), (1, i64 die), (6, .ref 0 0), (8, .ref 3 0)]⟩, drH D0 D0⟩ True (aw_region hT ?_) (fun _ => ?_)
  · refine callP (af_lift n2 _ rfl) ?_
    exact ⟨wk_pick [0, 1, 2, 3, 4, 5, 6, 7, 8] [0, 1, 6, 8] rfl, trivial⟩
  refine aw_cut ⟨⟨51, [(1, i64 die), (6, .ref 0 0), (8, .ref 3 0)]⟩, drH (D0.faults f) (D0.faults f)⟩ True (aw_seq (aw_region hT ?_)) (fun _ => ?_)
  · refine aw_block ?_
    refine aw_loopW (fun n s => ∃ (i : Nat) (j : Int) (D : Dev), n + i = f.length ∧ j = i ∧ D.Ok i ∧ D = D0.faults (f.take i) ∧ s = ⟨⟨51, [(0, .p (.sl 9 (fx f))), (1, i64 die), (6, .ref 0 0), (8, .ref 3 0), (10, i64 j)]⟩, drH D D⟩) f.length ⟨⟨51, _⟩, [_, _, _, _, _, _, _, _, _]⟩ (wk_pick [0, 1, 2, 3, 4, 5, 6, 7, 8] [0, 1, 6, 8, 10] rfl) ⟨0, 0, D0, rfl, rfl, o1, rfl, rfl⟩ ?_
    rintro n s ⟨i, j, D, hni, rfl, hD, he, rfl⟩
    refine aw_seq (aw_seq (aw_region hT ?_))
    refine aw_cond (boolI (fun h => ?_) (fun h => ?_))
    · have hi : i < f.length := by
        have := of_decide_eq_true (show decide ((i : Int) < ((fx f).length : Int)) = true from h)
        rw [fx_len] at this; omega
      have hx := List.getElem?_eq_getElem hi
      have htk : f.take (i + 1) = f.take i ++ [f[i]] := by rw [List.take_add_one, hx]; rfl
      generalize f[i] = x at hx htk
      have hxp : (fx f)[((i : Nat) : Int).toNat]? = some x.pv := by rw [Int.toNat_natCast]; exact fx_get hx
      have w := disk_Fault D x i hD (by omega)
      have v := ref_Fault D x i hD (by omega)
      have ok := hD.fault x
      have hs : D0.faults (f.take (i + 1)) = (D.fault x).2 := by rw [htk, faults_snoc, ← he]
      generalize D.fault x = Y at w v ok hs
      obtain ⟨y, E⟩ := Y
      refine aw_skip ?_
      refine aw_cut ⟨⟨51, [(0, .p (.sl 9 (fx f))), (1, i64 die), (6, .ref 0 0), (8, .ref 3 0), (10, i64 i)]⟩, drH E E⟩ True (aw_block ?_) (fun _ => ?_)
      · refine aw_cut ⟨⟨51, [(0, .p (.sl 9 (fx f))), (1, i64 die), (6, .ref 0 0), (8, .ref 3 0), (10, i64 i)]⟩, drH E D⟩ True (aw_region hT ?_) (fun _ => ?_)
        · refine ⟨Int.natCast_nonneg _, optI hxp ?_⟩
          refine callP (af_in [0, 1, 2] w rfl rfl rfl) ?_
          exact ⟨wk_pick [0, 1, 2, 3, 4, 5, 6, 7, 8] [0, 1, 6, 8, 10] rfl, trivial⟩
        · refine aw_region hT ?_
          refine ⟨Int.natCast_nonneg _, optI hxp ?_⟩
          refine callP (af_in [3, 4, 5, 6, 7, 8] v rfl rfl rfl) ?_
          exact ⟨wk_pick [0, 1, 2, 3, 9, 10, 11, 12, 13] [0, 1, 6, 8, 10] rfl, trivial⟩
      · refine aw_region hT ?_
        refine ⟨n - 1, by omega, _, wk_pick [0, 1, 2, 3, 4, 5, 6, 7, 8] [0, 1, 6, 8, 10] rfl, i + 1, IntKind.i64.wrap ((i : Int) + 1), E, by omega, ?_, ok, hs.symm, rfl⟩
        rw [wrap64 _ (by omega) (by omega)]; rfl
    · have hi : i = f.length := by
        have : ¬ (i : Int) < ((fx f).length : Int) := of_decide_eq_false h
        rw [fx_len] at this; omega
      refine aw_exit ?_
      rw [hi, List.take_length] at he
      rw [← he]
      exact ⟨wk_pick [0, 1, 2, 3, 4, 5, 6, 7, 8] [1, 6, 8] rfl, trivial⟩
  · generalize D0.faults f = D
    refine aw_seq (aw_region hT ?_)
    refine callP (af_in [0, 1, 2] (disk_Arm D die) rfl rfl rfl) ?_
    refine aw_seq (aw_region hT ?_)
    refine aw_seq (aw_region hT ?_)
    refine aw_seq (aw_region hT ?_)
    refine aw_ret ?_
    exact retPick [0, 1, 2, 3, 4, 5, 6, 7, 8] ⟨rfl, rfl⟩ rfl

/-! The document's. -/
def Dev.rtryK : Nat → Dev → Int → Bytes → Int × Dev
  | 0, R, _, _ => (22, R)
  | n + 1, R, a, s => match (R.rwrite a s).1 != 0 with
    | true => R.rwrite a s
    | false => match (R.rwrite a s).2.rflush.1 != 0 with
      | true => (R.rwrite a s).2.rflush
      | false => match ((R.rwrite a s).2.rflush.2.read a).1.2 != 0 && ((R.rwrite a s).2.rflush.2.read a).1.2 != 20 with
        | true => (((R.rwrite a s).2.rflush.2.read a).1.2, ((R.rwrite a s).2.rflush.2.read a).2)
        | false => match ((R.rwrite a s).2.rflush.2.read a).1.2 == 0 && ((R.rwrite a s).2.rflush.2.read a).1.1 == s with
          | true => (0, ((R.rwrite a s).2.rflush.2.read a).2)
          | false => Dev.rtryK n ((R.rwrite a s).2.rflush.2.read a).2 a s
def Dev.rone (R : Dev) (a : Int) (s : Bytes) : Int × Dev := Dev.rtryK 4 R a s

theorem al_tryK : ∀ (n : Nat) {D R : Dev}, Al D R → ∀ (a : Int) (s : Bytes), (Dev.rtryK n R a s).1 = (Dev.tryK n D a s).1 ∧ Al (Dev.tryK n D a s).2 (Dev.rtryK n R a s).2
  | 0, D, R, h, a, s => ⟨rfl, h⟩
  | n + 1, D, R, h, a, s => by
    obtain ⟨w1, w2⟩ := al_write h a s
    obtain ⟨f1, f2⟩ := al_flush w2
    obtain ⟨r1, r2⟩ := al_read f2 a
    unfold Dev.rtryK Dev.tryK
    have e : D.once a s = (match (D.write a s).1 != 0 with | true => ((false, (D.write a s).1), (D.write a s).2) | false => match (D.write a s).2.flush.1 != 0 with | true => ((false, (D.write a s).2.flush.1), (D.write a s).2.flush.2) | false => (D.write a s).2.flush.2.hhas a s) := rfl
    rw [w1, f1, r1]
    cases h1 : (D.write a s).1 != 0 with
    | true =>
      rw [h1] at e; simp only at e
      rw [e]; simp only [h1]
      exact ⟨w1, w2⟩
    | false =>
      rw [h1] at e; simp only at e
      simp only
      cases h2 : (D.write a s).2.flush.1 != 0 with
      | true =>
        rw [h2] at e; simp only at e
        rw [e]; simp only [h2]
        exact ⟨f1, f2⟩
      | false =>
        rw [h2] at e; simp only at e
        rw [e]
        simp only
        unfold Dev.hhas
        generalize (D.write a s).2.flush.2.read a = X at r1 r2
        generalize ((R.rwrite a s).2.rflush.2.read a).2 = Y at r2
        obtain ⟨⟨x1, x2⟩, E⟩ := X
        simp only at r2 ⊢
        cases h3 : x2 == 20 with
        | true =>
          have h3 : x2 = 20 := by simpa using h3
          subst h3
          exact al_tryK n r2 a s
        | false =>
          have h3' : x2 ≠ 20 := by simpa using h3
          simp only
          cases h4 : x2 != 0 with
          | true =>
            have : (x2 != 20) = true := by simpa using h3'
            rw [this]
            exact ⟨rfl, r2⟩
          | false =>
            have h4' : x2 = 0 := by simpa using h4
            subst h4'
            simp only [Bool.false_and, beq_self_eq_true, Bool.true_and]
            cases x1 == s with
            | true => exact ⟨rfl, r2⟩
            | false => exact al_tryK n r2 a s
theorem al_one {D R : Dev} (h : Al D R) (a : Int) (s : Bytes) : (R.rone a s).1 = (D.one a s).1 ∧ Al (D.one a s).2 (R.rone a s).2 := al_tryK 4 h a s
end Go.Proofs.Ytolefphdldmlkaa.AL

/- The law of layer 09: the document's keep, walked. -/
namespace Go.Proofs.Ytolefphdldmlkaa.AL
open Go Go.Proofs

theorem al_refl (R : Dev) : Al R R := ⟨R.left, rfl, fun _ _ => rfl⟩
theorem rwrite_ok {R : Dev} {b : Nat} (h : R.Ok b) (a : Int) (s : Bytes) : (R.rwrite a s).2.Ok (b + 1) := (al_write (al_refl R) a s).2.ok (h.write a s)
theorem rflush_ok {R : Dev} {b : Nat} (h : R.Ok b) : R.rflush.2.Ok b := (al_flush (al_refl R)).2.ok h.flush
theorem rone_ok {R : Dev} {b : Nat} (h : R.Ok b) (a : Int) (s : Bytes) : (R.rone a s).2.Ok (b + 4) := (al_one (al_refl R) a s).2.ok (one_ok2 h a s)

set_option maxRecDepth 8000 in
theorem ref_One (R : Dev) (a : Int) (s : Bytes) (b : Nat) (hR : R.Ok b) (hb : b + 4 < 1000000) (hs : s.length ≤ 1000) : AFm Try.prog 1 f_ref09_One [.ref 0 0, putAV a s] (refH R) (Pure (i64 (R.rone a s).1) (refH (R.rone a s).2)) := by
  refine af_bodyM 1 hT F_ref09_One rfl rfl N_ref09_One rfl rfl ?_
  refine aw_seq (aw_region hT ?_)
  refine aw_wk (wk_boxL 6 [.raw (.int .i64 a), bP s] rfl rfl) ?_
  refine aw_cut2 (fun s1 => ∃ E, R.rone a s = (22, E) ∧ s1 = ⟨⟨52, []⟩, refH E⟩) (aw_seq (aw_region hT ?_)) ?_
  · refine aw_block ?_
    refine aw_loopW (fun n s1 => ∃ (i : Nat) (j : Int) (E : Dev), n + i = 4 ∧ j = i ∧ E.Ok (b + i) ∧ R.rone a s = Dev.rtryK n E a s ∧ s1 = ⟨⟨52, [(0, .ref 0 0), (3, .p (.box [.raw (.int .i64 a), bP s])), (5, i64 j)]⟩, refH E⟩) 4 ⟨⟨52, _⟩, [_, _, _, _, _, _]⟩ (wk_pick [0, 1, 2, 3, 4, 5] [0, 3, 5] rfl) ⟨0, 0, R, rfl, rfl, hR, rfl, rfl⟩ ?_
    rintro n s1 ⟨i, j, E, hni, rfl, hE, hone, rfl⟩
    refine aw_seq (aw_seq (aw_region hT ?_))
    refine aw_cond (boolI (fun h => ?_) (fun h => ?_))
    · have hi : i < 4 := by
        have := of_decide_eq_true (show decide ((i : Int) < 4) = true from h)
        omega
      obtain ⟨n, rfl⟩ : ∃ k, n = k + 1 := ⟨n - 1, by omega⟩
      have big := hE.big (show b + i ≤ 1000000 by omega)
      have w1 := ref_Write E a s big.2.1 (by omega)
      have ok1 := rwrite_ok hE a s
      unfold Dev.rtryK at hone
      generalize E.rwrite a s = W at w1 ok1 hone
      obtain ⟨e1, E1⟩ := W
      replace ok1 : E1.Ok (b + i + 1) := ok1
      have big1 := ok1.big (show b + i + 1 ≤ 1000000 by omega)
      have w2 := ref_Flush E1 big1.1 big1.2.1
      have ok2 := rflush_ok ok1
      simp only at hone
      generalize E1.rflush = W at w2 ok2 hone
      obtain ⟨e2, E2⟩ := W
      replace ok2 : E2.Ok (b + i + 1) := ok2
      have big2 := ok2.big (show b + i + 1 ≤ 1000000 by omega)
      have w3 := ref_Read E2 a big2.2.1
      have ok3 := ok2.read a
      have xl := read_len ok2 a
      simp only at hone
      generalize E2.read a = W at w3 ok3 hone xl
      obtain ⟨⟨x1, x2⟩, E3⟩ := W
      replace ok3 : E3.Ok (b + i + 1) := ok3
      replace xl : x1.length ≤ 256 := xl
      have sm := ref04_Same x1 s (by omega)
      simp only at hone
      refine aw_skip ?_
      refine aw_cut ⟨⟨52, [(0, .ref 0 0), (3, .p (.box [.raw (.int .i64 a), bP s])), (5, i64 i)]⟩, refH E3⟩ (R.rone a s = Dev.rtryK n E3 a s) (aw_block ?_) ?_
      · refine aw_cut ⟨⟨52, [(0, .ref 0 0), (3, .p (.box [.raw (.int .i64 a), bP s])), (5, i64 i), (6, i64 e1)]⟩, refH E1⟩ True (aw_region hT ?_) (fun _ => ?_)
        · refine callP (af_in [0, 1, 2, 3, 4, 5] w1 rfl rfl rfl) ?_
          exact ⟨wk_pick [0, 6, 7, 8, 9, 10] [0, 3, 5, 6] rfl, trivial⟩
        refine aw_seq (aw_seq (aw_region hT ?_))
        refine aw_cond (boolI (fun h1 => ?_) (fun h1 => ?_))
        · have h1 : (e1 != 0) = true := h1
          rw [h1] at hone; simp only at hone
          refine aw_seq (aw_region hT ?_)
          refine aw_ret ?_
          rw [hone]
          exact retPick [0, 1, 2, 3, 4, 5] ⟨rfl, rfl⟩ rfl
        have h1 : (e1 != 0) = false := h1
        rw [h1] at hone; simp only at hone
        refine aw_skip ?_
        refine aw_cut ⟨⟨52, [(0, .ref 0 0), (3, .p (.box [.raw (.int .i64 a), bP s])), (5, i64 i), (7, i64 e2)]⟩, refH E2⟩ True (aw_region hT ?_) (fun _ => ?_)
        · refine callP (af_in [0, 1, 2, 3, 4, 5] w2 rfl rfl rfl) ?_
          exact ⟨wk_pick [0, 6, 7, 8, 9, 10] [0, 3, 5, 7] rfl, trivial⟩
        refine aw_seq (aw_seq (aw_region hT ?_))
        refine aw_cond (boolI (fun h2 => ?_) (fun h2 => ?_))
        · have h2 : (e2 != 0) = true := h2
          rw [h2] at hone; simp only at hone
          refine aw_seq (aw_region hT ?_)
          refine aw_ret ?_
          rw [hone]
          exact retPick [0, 1, 2, 3, 4, 5] ⟨rfl, rfl⟩ rfl
        have h2 : (e2 != 0) = false := h2
        rw [h2] at hone; simp only at hone
        refine aw_skip ?_
        refine aw_cut ⟨⟨52, [(0, .ref 0 0), (3, .p (.box [.raw (.int .i64 a), bP s])), (5, i64 i), (8, bA x1), (9, i64 x2)]⟩, refH E3⟩ True (aw_region hT ?_) (fun _ => ?_)
        · refine callP (af_in [0, 1, 2, 3, 4, 5] w3 rfl rfl rfl) ?_
          exact ⟨wk_pick [0, 1, 2, 3, 4, 5] [0, 3, 5, 8, 9] rfl, trivial⟩
        refine aw_cut ⟨⟨52, [(0, .ref 0 0), (3, .p (.box [.raw (.int .i64 a), bP s])), (5, i64 i), (8, bA x1), (9, i64 x2)]⟩, refH E3⟩ ((x2 != 0 && x2 != 20) = false) (aw_seq (aw_region hT ?_)) ?_
        · refine boolI (fun h3 => ?_) (fun h3 => ?_)
          · have h3 : (x2 != 0) = true := h3
            refine aw_cond (boolI (fun h4 => ?_) (fun h4 => ?_))
            · have h4 : (x2 != 20) = true := h4
              rw [h3, h4] at hone; simp only [Bool.true_and] at hone
              refine aw_seq (aw_region hT ?_)
              refine aw_ret ?_
              rw [hone]
              exact retPick [0, 1, 2, 3, 4, 5] ⟨rfl, rfl⟩ rfl
            · have h4 : (x2 != 20) = false := h4
              exact aw_skip ⟨wk_pick [0, 1, 2, 3, 4, 5] [0, 3, 5, 8, 9] rfl, by rw [h4, Bool.and_false]⟩
          · have h3 : (x2 != 0) = false := h3
            refine aw_cond ?_
            exact aw_skip ⟨wk_pick [0, 1, 2, 3, 4, 5] [0, 3, 5, 8, 9] rfl, by rw [h3, Bool.false_and]⟩
        intro h3
        rw [h3] at hone; simp only at hone
        refine aw_seq (aw_region hT ?_)
        refine callP (af_at sm _ rfl rfl) ?_
        refine aw_seq (aw_region hT ?_)
        refine boolI (fun h4 => ?_) (fun h4 => ?_)
        · have h4 : (x2 == 0) = true := h4
          refine aw_cond (boolI (fun h5 => ?_) (fun h5 => ?_))
          · have h5 : (x1 == s) = true := h5
            rw [h4, h5] at hone; simp only [Bool.true_and] at hone
            refine aw_seq (aw_region hT ?_)
            refine aw_ret ?_
            rw [hone]
            exact retPick [0, 1, 2, 3, 4, 5] ⟨rfl, rfl⟩ rfl
          · have h5 : (x1 == s) = false := h5
            rw [h5] at hone; simp only [Bool.and_false] at hone
            exact aw_skip ⟨wk_pick [0, 1, 2, 3, 4, 5] [0, 3, 5] rfl, hone⟩
        · have h4 : (x2 == 0) = false := h4
          rw [h4] at hone; simp only [Bool.false_and] at hone
          refine aw_cond ?_
          exact aw_skip ⟨wk_pick [0, 1, 2, 3, 4, 5] [0, 3, 5] rfl, hone⟩
      · intro hone
        refine aw_region hT ?_
        refine ⟨n, by omega, _, wk_pick [0, 1, 2, 3, 4, 5] [0, 3, 5] rfl, i + 1, IntKind.i64.wrap ((i : Int) + 1), E3, by omega, ?_, by rw [← Nat.add_assoc]; exact ok3, hone, rfl⟩
        rw [wrap64 _ (by omega) (by omega)]; rfl
    · have hi : ¬ (i : Int) < 4 := of_decide_eq_false h
      have hn0 : n = 0 := by omega
      subst hn0
      refine aw_exit ?_
      exact ⟨_, wk_pick [0, 1, 2, 3, 4, 5] [] rfl, E, hone, rfl⟩
  · rintro _ ⟨E, e, rfl⟩
    refine aw_seq (aw_region hT ?_)
    refine aw_ret ?_
    rw [e]
    exact retPick [0, 1, 2, 3, 4, 5] ⟨rfl, rfl⟩ rfl
end Go.Proofs.Ytolefphdldmlkaa.AL

/- The law of layer 09: the document's all and mend. -/
namespace Go.Proofs.Ytolefphdldmlkaa.AL
open Go Go.Proofs

def Dev.rall : List Put9 → Dev → Int × Dev
  | [], R => (0, R)
  | x :: r, R => match (R.rone x.at_ x.s).1 != 0 with
    | true => R.rone x.at_ x.s
    | false => Dev.rall r (R.rone x.at_ x.s).2
theorem rall_cons (x : Put9) (r : List Put9) (R : Dev) : Dev.rall (x :: r) R = match (R.rone x.at_ x.s).1 != 0 with
    | true => R.rone x.at_ x.s
    | false => Dev.rall r (R.rone x.at_ x.s).2 := rfl
theorem al_all : ∀ (l : List Put9) {D R : Dev} (m : Int), Al D R → (Dev.rall l R).1 = (eachK oneG l D m).1 ∧ Al (eachK oneG l D m).2.1 (Dev.rall l R).2
  | [], D, R, m, h => ⟨rfl, h⟩
  | x :: r, D, R, m, h => by
    obtain ⟨g1, g2⟩ := al_one h x.at_ x.s
    have ih := al_all r (more (D.one x.at_ x.s).1 m) g2
    rw [rall_cons, eachK_cons]
    rw [g1]
    show _ = (match (D.one x.at_ x.s).1 != 0 with | true => oneG D m x.at_ x.s | false => eachK oneG r (D.one x.at_ x.s).2 (more (D.one x.at_ x.s).1 m)).1 ∧ Al (match (D.one x.at_ x.s).1 != 0 with | true => oneG D m x.at_ x.s | false => eachK oneG r (D.one x.at_ x.s).2 (more (D.one x.at_ x.s).1 m)).2.1 _
    cases (D.one x.at_ x.s).1 != 0 with
    | true => exact ⟨g1, g2⟩
    | false => exact ih

theorem ref_All (R : Dev) (l : List Put9) (b : Nat) (hR : R.Ok b) (hb : b + 4 * l.length < 1000000) (hs : ∀ x ∈ l, x.s.length ≤ 1000) : AFm Try.prog 1 f_ref09_All [.ref 0 0, .p (.sl 2 (px l))] (refH R) (Pure (i64 (R.rall l).1) (refH (R.rall l).2)) := by
  refine af_bodyM 1 hT F_ref09_All rfl rfl N_ref09_All rfl rfl ?_
  refine aw_seq (aw_region hT ?_)
  refine aw_cut2 (fun s1 => ∃ E, R.rall l = (0, E) ∧ s1 = ⟨⟨22, []⟩, refH E⟩) (aw_seq (aw_region hT ?_)) ?_
  · refine aw_block ?_
    refine aw_loopW (fun n s1 => ∃ (i : Nat) (j : Int) (E : Dev), n + i = l.length ∧ j = i ∧ E.Ok (b + 4 * i) ∧ R.rall l = E.rall (l.drop i) ∧ s1 = ⟨⟨22, [(0, .ref 0 0), (1, .p (.sl 2 (px l))), (5, i64 j)]⟩, refH E⟩) l.length ⟨⟨22, _⟩, [_, _, _, _, _, _]⟩ (wk_pick [0, 1, 2, 3, 4, 5] [0, 1, 5] rfl) ⟨0, 0, R, rfl, rfl, hR, rfl, rfl⟩ ?_
    rintro n s1 ⟨i, j, E, hni, rfl, hE, he, rfl⟩
    refine aw_seq (aw_seq (aw_region hT ?_))
    refine aw_cond (boolI (fun h => ?_) (fun h => ?_))
    · have hi : i < l.length := by
        have := of_decide_eq_true (show decide ((i : Int) < ((px l).length : Int)) = true from h)
        rw [px_len] at this; omega
      have hx := List.getElem?_eq_getElem hi
      have hdr : l.drop i = l[i] :: l.drop (i + 1) := List.drop_eq_getElem_cons hi
      have hsx := hs _ (List.getElem_mem hi)
      generalize l[i] = x at hx hdr hsx
      have hxp : (px l)[((i : Nat) : Int).toNat]? = some x.pv := by rw [Int.toNat_natCast]; exact px_get hx
      have w := ref_One E x.at_ x.s (b + 4 * i) hE (by omega) hsx
      have ok := rone_ok hE x.at_ x.s
      rw [hdr, rall_cons] at he
      generalize E.rone x.at_ x.s = Y at w ok he
      obtain ⟨e, E2⟩ := Y
      replace ok : E2.Ok (b + 4 * i + 4) := ok
      simp only at he
      refine aw_skip ?_
      refine aw_cut ⟨⟨22, [(0, .ref 0 0), (1, .p (.sl 2 (px l))), (5, i64 i)]⟩, refH E2⟩ (e = 0) (aw_block (aw_seq (aw_region hT ?_))) ?_
      · refine ⟨Int.natCast_nonneg _, optI hxp ?_⟩
        refine callP (af_in [0, 1, 2, 3, 4, 5] w rfl rfl rfl) ?_
        refine aw_seq (aw_region hT ?_)
        refine aw_cond (boolI (fun h1 => ?_) (fun h1 => ?_))
        · have h1 : (e != 0) = true := h1
          rw [h1] at he; simp only at he
          refine aw_seq (aw_region hT ?_)
          refine aw_ret ?_
          rw [he]
          exact retPick [0, 6, 7, 8, 9, 10] ⟨rfl, rfl⟩ rfl
        · have h1 : (e != 0) = false := h1
          exact aw_skip ⟨wk_pick [0, 6, 7, 8, 9, 10] [0, 1, 5] rfl, by simpa using h1⟩
      · intro h1
        rw [show (e != 0) = false by simpa using h1] at he; simp only at he
        refine aw_region hT ?_
        refine ⟨n - 1, by omega, _, wk_pick [0, 1, 2, 3, 4, 5] [0, 1, 5] rfl, i + 1, IntKind.i64.wrap ((i : Int) + 1), E2, by omega, ?_, by rw [show b + 4 * (i + 1) = b + 4 * i + 4 by omega]; exact ok, he, rfl⟩
        rw [wrap64 _ (by omega) (by omega)]; rfl
    · have hi : ¬ (i : Int) < ((px l).length : Int) := of_decide_eq_false h
      rw [px_len] at hi
      have hil : i = l.length := by omega
      subst hil
      rw [List.drop_length] at he
      refine aw_exit ?_
      exact ⟨_, wk_pick [0, 1, 2, 3, 4, 5] [] rfl, E, he, rfl⟩
  · rintro _ ⟨E, e, rfl⟩
    refine aw_seq (aw_region hT ?_)
    refine aw_ret ?_
    rw [e]
    exact retPick [0, 1, 2, 3, 4, 5] ⟨rfl, rfl⟩ rfl

def Dev.rmend : List Put9 → Dev → Int → (Int × Int) × Dev
  | [], R, n => ((n, 0), R)
  | x :: r, R, n => match (R.read x.at_).1.2 != 0 && (R.read x.at_).1.2 != 20 with
    | true => ((n, (R.read x.at_).1.2), (R.read x.at_).2)
    | false => match (R.read x.at_).1.2 == 0 && (R.read x.at_).1.1 == x.s with
      | true => Dev.rmend r (R.read x.at_).2 n
      | false => match ((R.read x.at_).2.rone x.at_ x.s).1 != 0 with
        | true => ((n, ((R.read x.at_).2.rone x.at_ x.s).1), ((R.read x.at_).2.rone x.at_ x.s).2)
        | false => Dev.rmend r ((R.read x.at_).2.rone x.at_ x.s).2 (IntKind.i64.wrap (n + 1))
theorem rmend_cons (x : Put9) (r : List Put9) (R : Dev) (n : Int) : Dev.rmend (x :: r) R n = match (R.read x.at_).1.2 != 0 && (R.read x.at_).1.2 != 20 with
    | true => ((n, (R.read x.at_).1.2), (R.read x.at_).2)
    | false => match (R.read x.at_).1.2 == 0 && (R.read x.at_).1.1 == x.s with
      | true => Dev.rmend r (R.read x.at_).2 n
      | false => match ((R.read x.at_).2.rone x.at_ x.s).1 != 0 with
        | true => ((n, ((R.read x.at_).2.rone x.at_ x.s).1), ((R.read x.at_).2.rone x.at_ x.s).2)
        | false => Dev.rmend r ((R.read x.at_).2.rone x.at_ x.s).2 (IntKind.i64.wrap (n + 1)) := rfl

theorem al_mend : ∀ (l : List Put9) {D R : Dev} (n : Int), Al D R → (Dev.rmend l R n).1 = ((eachK mendG l D n).2.2, (eachK mendG l D n).1) ∧ Al (eachK mendG l D n).2.1 (Dev.rmend l R n).2
  | [], D, R, n, h => ⟨rfl, h⟩
  | x :: r, D, R, n, h => by
    obtain ⟨r1, r2⟩ := al_read h x.at_
    rw [rmend_cons, eachK_cons]
    rw [r1]
    have em : mendG D n x.at_ x.s = (match (D.hhas x.at_ x.s).1.1 || ((D.hhas x.at_ x.s).1.2 != 0) with | true => ((D.hhas x.at_ x.s).1.2, ((D.hhas x.at_ x.s).2, n)) | false => oneG (D.hhas x.at_ x.s).2 n x.at_ x.s) := rfl
    unfold Dev.hhas at em
    generalize (R.read x.at_).2 = R2 at r2
    generalize D.read x.at_ = X at r2 em
    obtain ⟨⟨x1, x2⟩, E⟩ := X
    simp only at r2 em ⊢
    obtain ⟨o1, o2⟩ := al_one r2 x.at_ x.s
    have one : (match (R2.rone x.at_ x.s).1 != 0 with | true => ((n, (R2.rone x.at_ x.s).1), (R2.rone x.at_ x.s).2) | false => Dev.rmend r (R2.rone x.at_ x.s).2 (IntKind.i64.wrap (n + 1))).1 =
        ((match (oneG E n x.at_ x.s).1 != 0 with | true => oneG E n x.at_ x.s | false => eachK mendG r (oneG E n x.at_ x.s).2.1 (oneG E n x.at_ x.s).2.2).2.2, (match (oneG E n x.at_ x.s).1 != 0 with | true => oneG E n x.at_ x.s | false => eachK mendG r (oneG E n x.at_ x.s).2.1 (oneG E n x.at_ x.s).2.2).1) ∧
        Al (match (oneG E n x.at_ x.s).1 != 0 with | true => oneG E n x.at_ x.s | false => eachK mendG r (oneG E n x.at_ x.s).2.1 (oneG E n x.at_ x.s).2.2).2.1 (match (R2.rone x.at_ x.s).1 != 0 with | true => ((n, (R2.rone x.at_ x.s).1), (R2.rone x.at_ x.s).2) | false => Dev.rmend r (R2.rone x.at_ x.s).2 (IntKind.i64.wrap (n + 1))).2 := by
      unfold oneG
      simp only
      rw [o1]
      cases h1 : (E.one x.at_ x.s).1 != 0 with
      | true =>
        simp only
        have hm : more (E.one x.at_ x.s).1 n = n := by unfold more; rw [show ((E.one x.at_ x.s).1 == 0) = false by simpa using h1]
        rw [hm]
        exact ⟨rfl, o2⟩
      | false =>
        simp only
        have hm : more (E.one x.at_ x.s).1 n = IntKind.i64.wrap (n + 1) := by unfold more; rw [show ((E.one x.at_ x.s).1 == 0) = true by simpa using h1]
        rw [hm]
        exact al_mend r _ o2
    rw [em]
    cases h3 : x2 == 20 with
    | true =>
      have h3 : x2 = 20 := by simpa using h3
      subst h3
      exact one
    | false =>
      have h3' : x2 ≠ 20 := by simpa using h3
      simp only
      cases h4 : x2 != 0 with
      | true =>
        have e20 : (x2 != 20) = true := by simpa using h3'
        have e0 : (x2 == 0) = false := by simpa using h4
        rw [e20, e0]
        simp only [Bool.and_self, Bool.false_and, Bool.or_true, h4]
        exact ⟨trivial, r2⟩
      | false =>
        have h4' : x2 = 0 := by simpa using h4
        subst h4'
        simp only [Bool.false_and, beq_self_eq_true, Bool.true_and, Bool.or_false]
        cases x1 == x.s with
        | true => exact al_mend r n r2
        | false => exact one
end Go.Proofs.Ytolefphdldmlkaa.AL

/- The law of layer 09: the document's mend, walked; are both alike? -/
namespace Go.Proofs.Ytolefphdldmlkaa.AL
open Go Go.Proofs

set_option maxRecDepth 8000 in
theorem ref_Mend (R : Dev) (l : List Put9) (b : Nat) (hR : R.Ok b) (hb : b + 4 * l.length < 1000000) (hs : ∀ x ∈ l, x.s.length ≤ 1000) : AFm Try.prog 1 f_ref09_Mend [.ref 0 0, .p (.sl 2 (px l))] (refH R) (Pure (.tup [i64 (R.rmend l 0).1.1, i64 (R.rmend l 0).1.2]) (refH (R.rmend l 0).2)) := by
  refine af_bodyM 1 hT F_ref09_Mend rfl rfl N_ref09_Mend rfl rfl ?_
  refine aw_seq (aw_region hT ?_)
  refine aw_seq (aw_region hT ?_)
  refine aw_cut2 (fun s1 => ∃ E n, R.rmend l 0 = ((n, 0), E) ∧ s1 = ⟨⟨61, [(6, i64 n)]⟩, refH E⟩) (aw_seq (aw_region hT ?_)) ?_
  · refine aw_block ?_
    refine aw_loopW (fun n s1 => ∃ (i : Nat) (j : Int) (E : Dev) (k : Int), n + i = l.length ∧ j = i ∧ E.Ok (b + 4 * i) ∧ R.rmend l 0 = E.rmend (l.drop i) k ∧ s1 = ⟨⟨61, [(0, .ref 0 0), (1, .p (.sl 2 (px l))), (6, i64 k), (7, i64 j)]⟩, refH E⟩) l.length ⟨⟨61, _⟩, [_, _, _, _, _, _]⟩ (wk_pick [0, 1, 2, 3, 4, 5] [0, 1, 6, 7] rfl) ⟨0, 0, R, 0, rfl, rfl, hR, rfl, rfl⟩ ?_
    rintro n s1 ⟨i, j, E, k, hni, rfl, hE, he, rfl⟩
    refine aw_seq (aw_seq (aw_region hT ?_))
    refine aw_cond (boolI (fun h => ?_) (fun h => ?_))
    · have hi : i < l.length := by
        have := of_decide_eq_true (show decide ((i : Int) < ((px l).length : Int)) = true from h)
        rw [px_len] at this; omega
      have hx := List.getElem?_eq_getElem hi
      have hdr : l.drop i = l[i] :: l.drop (i + 1) := List.drop_eq_getElem_cons hi
      have hsx := hs _ (List.getElem_mem hi)
      generalize l[i] = x at hx hdr hsx
      have hxp : (px l)[((i : Nat) : Int).toNat]? = some x.pv := by rw [Int.toNat_natCast]; exact px_get hx
      have big := hE.big (show b + 4 * i ≤ 1000000 by omega)
      have w1 := ref_Read E x.at_ big.2.1
      have ok1 := hE.read x.at_
      have xl := read_len hE x.at_
      rw [hdr, rmend_cons] at he
      generalize E.read x.at_ = W at w1 ok1 xl he
      obtain ⟨⟨x1, x2⟩, E1⟩ := W
      replace ok1 : E1.Ok (b + 4 * i) := ok1
      replace xl : x1.length ≤ 256 := xl
      have sm := ref04_Same x1 x.s (by omega)
      have w2 := ref_One E1 x.at_ x.s (b + 4 * i) ok1 (by omega) hsx
      have ok2 := rone_ok ok1 x.at_ x.s
      simp only at he
      generalize E1.rone x.at_ x.s = Y at w2 ok2 he
      obtain ⟨e, E2⟩ := Y
      replace ok2 : E2.Ok (b + 4 * i + 4) := ok2
      simp only at he
      refine aw_skip ?_
      refine aw_cut2 (fun s1 => ∃ F q, F.Ok (b + 4 * (i + 1)) ∧ R.rmend l 0 = F.rmend (l.drop (i + 1)) q ∧ s1 = ⟨⟨61, [(0, .ref 0 0), (1, .p (.sl 2 (px l))), (6, i64 q), (7, i64 i)]⟩, refH F⟩) (aw_block ?_) ?_
      · refine aw_cut ⟨⟨61, [(0, .ref 0 0), (1, .p (.sl 2 (px l))), (6, i64 k), (7, i64 i), (8, bA x1), (9, i64 x2)]⟩, refH E1⟩ True (aw_region hT ?_) (fun _ => ?_)
        · refine ⟨Int.natCast_nonneg _, optI hxp ?_⟩
          refine callP (af_in [0, 1, 2, 3, 4, 5] w1 rfl rfl rfl) ?_
          exact ⟨wk_pick [0, 1, 2, 3, 4, 5] [0, 1, 6, 7, 8, 9] rfl, trivial⟩
        refine aw_cut ⟨⟨61, [(0, .ref 0 0), (1, .p (.sl 2 (px l))), (6, i64 k), (7, i64 i), (8, bA x1), (9, i64 x2)]⟩, refH E1⟩ ((x2 != 0 && x2 != 20) = false) (aw_seq (aw_region hT ?_)) ?_
        · refine boolI (fun h3 => ?_) (fun h3 => ?_)
          · have h3 : (x2 != 0) = true := h3
            refine aw_cond (boolI (fun h4 => ?_) (fun h4 => ?_))
            · have h4 : (x2 != 20) = true := h4
              rw [h3, h4] at he; simp only [Bool.true_and] at he
              refine aw_seq (aw_region hT ?_)
              refine aw_ret ?_
              rw [he]
              exact retPick [0, 1, 2, 3, 4, 5] ⟨rfl, rfl⟩ rfl
            · have h4 : (x2 != 20) = false := h4
              exact aw_skip ⟨wk_pick [0, 1, 2, 3, 4, 5] [0, 1, 6, 7, 8, 9] rfl, by rw [h4, Bool.and_false]⟩
          · have h3 : (x2 != 0) = false := h3
            refine aw_cond ?_
            exact aw_skip ⟨wk_pick [0, 1, 2, 3, 4, 5] [0, 1, 6, 7, 8, 9] rfl, by rw [h3, Bool.false_and]⟩
        intro h3
        rw [h3] at he; simp only at he
        refine aw_seq (aw_region hT ?_)
        refine ⟨Int.natCast_nonneg _, optI hxp ?_⟩
        refine callP (af_at sm _ rfl rfl) ?_
        refine aw_cut ⟨⟨61, [(0, .ref 0 0), (1, .p (.sl 2 (px l))), (6, i64 k), (7, i64 i)]⟩, refH E1⟩ ((x2 == 0 && x1 == x.s) = false) (aw_seq (aw_region hT ?_)) ?_
        · refine boolI (fun h4 => ?_) (fun h4 => ?_)
          · have h4 : (x2 == 0) = true := h4
            refine aw_cond (boolI (fun h5 => ?_) (fun h5 => ?_))
            · have h5 : (x1 == x.s) = true := h5
              rw [h4, h5] at he; simp only [Bool.true_and] at he
              refine aw_exit ?_
              exact ⟨_, wk_pick [0, 1, 2, 3, 4, 5] [0, 1, 6, 7] rfl, E1, k, ok1.mono (by omega), he, rfl⟩
            · have h5 : (x1 == x.s) = false := h5
              exact aw_skip ⟨wk_pick [0, 1, 2, 3, 4, 5] [0, 1, 6, 7] rfl, by rw [h5, Bool.and_false]⟩
          · have h4 : (x2 == 0) = false := h4
            refine aw_cond ?_
            exact aw_skip ⟨wk_pick [0, 1, 2, 3, 4, 5] [0, 1, 6, 7] rfl, by rw [h4, Bool.false_and]⟩
        intro h5
        rw [h5] at he; simp only at he
        refine aw_seq (aw_region hT ?_)
        refine ⟨Int.natCast_nonneg _, optI hxp ?_⟩
        refine callP (af_in [0, 1, 2, 3, 4, 5] w2 rfl rfl rfl) ?_
        refine aw_seq (aw_seq (aw_region hT ?_))
        refine aw_cond (boolI (fun h1 => ?_) (fun h1 => ?_))
        · have h1 : (e != 0) = true := h1
          rw [h1] at he; simp only at he
          refine aw_seq (aw_region hT ?_)
          refine aw_ret ?_
          rw [he]
          exact retPick [0, 6, 7, 8, 9, 10] ⟨rfl, rfl⟩ rfl
        · have h1 : (e != 0) = false := h1
          rw [h1] at he; simp only at he
          refine aw_skip ?_
          refine aw_region hT ?_
          exact ⟨_, wk_pick [0, 6, 7, 8, 9, 10] [0, 1, 6, 7] rfl, E2, _, by rw [show b + 4 * (i + 1) = b + 4 * i + 4 by omega]; exact ok2, he, rfl⟩
      · rintro _ ⟨F, q, ok, he, rfl⟩
        refine aw_region hT ?_
        refine ⟨n - 1, by omega, _, wk_pick [0, 1, 2, 3, 4, 5] [0, 1, 6, 7] rfl, i + 1, IntKind.i64.wrap ((i : Int) + 1), F, q, by omega, ?_, ok, he, rfl⟩
        rw [wrap64 _ (by omega) (by omega)]; rfl
    · have hi : ¬ (i : Int) < ((px l).length : Int) := of_decide_eq_false h
      rw [px_len] at hi
      have hil : i = l.length := by omega
      subst hil
      rw [List.drop_length] at he
      refine aw_exit ?_
      exact ⟨_, wk_pick [0, 1, 2, 3, 4, 5] [6] rfl, E, k, he, rfl⟩
  · rintro _ ⟨E, n, e, rfl⟩
    refine aw_seq (aw_region hT ?_)
    refine aw_ret ?_
    rw [e]
    exact retPick [0, 1, 2, 3, 4, 5] ⟨rfl, rfl⟩ rfl

/-- Reads of the first sectors. -/
def Dev.scan0 (D : Dev) : Nat → Dev
  | 0 => D
  | k + 1 => ((D.scan0 k).read (k : Int)).2
theorem scan0_ok {D : Dev} {b : Nat} (h : D.Ok b) (k : Nat) : (D.scan0 k).Ok b := by
  induction k with
  | zero => exact h
  | succ k ih => exact ih.read _
theorem al_scan0 {D R : Dev} (h : Al D R) (k : Nat) : Al (D.scan0 k) (R.scan0 k) := by
  induction k with
  | zero => exact h
  | succ k ih => exact (al_read ih _).2

set_option maxRecDepth 8000 in
theorem law09_alike (D R : Dev) (b : Nat) (hD : D.Ok b) (hb : b ≤ 1000000) (hA : Al D R) : AFm Try.prog 9 f_law09_alike [.ref 0 0, .ref 3 0] (drH D R) (Pure (bl true) (drH (D.scan0 8) (R.scan0 8))) := by
  refine af_bodyM 9 hT F_law09_alike rfl rfl N_law09_alike rfl rfl ?_
  refine aw_seq (aw_region hT ?_)
  have eC : R.ops = D.ops := by obtain ⟨l, rfl, _⟩ := hA; rfl
  have eD : R.dead = D.dead := by obtain ⟨l, rfl, _⟩ := hA; rfl
  refine aw_cut ⟨⟨53, [(0, .ref 0 0), (1, .ref 3 0)]⟩, drH D R⟩ True (aw_seq ?_) (fun _ => ?_)
  · refine aw_draw [] [] hT follows_mixed (by rfl) ?_
    refine ⟨_, af_in [0, 1, 2] (disk_Dead D) rfl rfl rfl, ?_⟩
    refine boolI (fun h => ?_) (fun h => ?_)
    · have h : (D.dead != R.dead) = true := h
      rw [eD, bne_self_eq_false] at h; cases h
    refine ⟨_, af_in [0, 1, 2] (disk_Ops D) rfl rfl rfl, ?_⟩
    refine aw_cond (boolI (fun h2 => ?_) (fun h2 => ?_))
    · have h2 : (D.ops != R.ops) = true := h2
      rw [eC, bne_self_int] at h2; cases h2
    exact aw_skip ⟨wk_pick [0, 1, 2, 3, 4, 5, 6, 7, 8] [0, 1] rfl, trivial⟩
  refine aw_cut ⟨⟨53, [(0, .ref 0 0), (1, .ref 3 0)]⟩, drH (D.scan0 8) (R.scan0 8)⟩ True (aw_seq (aw_region hT ?_)) (fun _ => ?_)
  · refine aw_block ?_
    refine aw_loopW (fun n s => ∃ (i : Nat) (j : Int) (E S : Dev), n + i = 8 ∧ j = (i : Int) ∧ E = D.scan0 i ∧ S = R.scan0 i ∧ s = ⟨⟨53, [(0, .ref 0 0), (1, .ref 3 0), (5, i64 j)]⟩, drH E S⟩) 8 ⟨⟨53, _⟩, [_, _, _, _, _, _, _, _, _]⟩ (wk_pick [0, 1, 2, 3, 4, 5, 6, 7, 8] [0, 1, 5] rfl) ⟨0, 0, D, R, rfl, rfl, rfl, rfl, rfl⟩ ?_
    rintro n s ⟨i, j, E, S, hni, rfl, hE, hS, rfl⟩
    have hEo : E.Ok b := by rw [hE]; exact scan0_ok hD i
    have hAl : Al E S := by rw [hE, hS]; exact al_scan0 hA i
    have hSo := hAl.ok hEo
    have bigE := hEo.big hb
    have bigS := hSo.big hb
    refine aw_seq (aw_seq (aw_region hT ?_))
    refine aw_cond (boolI (fun h => ?_) (fun h => ?_))
    · have h := of_decide_eq_true (show decide ((i : Int) < 8) = true from h)
      have rD := disk_Read E i bigE.2.1 bigE.2.2.1 bigE.2.2.2
      have rR := ref_Read S i bigS.2.1
      have al := al_read hAl i
      rw [al.1] at rR
      have eE : D.scan0 (i + 1) = (E.read i).2 := by rw [hE]; rfl
      have eS : R.scan0 (i + 1) = (S.read i).2 := by rw [hS]; rfl
      have xl := read_len hEo i
      generalize (E.read i).2 = E2 at rD eE
      generalize (S.read i).2 = S2 at rR eS
      generalize (E.read i).1 = x at rD rR xl
      obtain ⟨x1, x2⟩ := x
      refine aw_skip ?_
      refine aw_cut ⟨⟨53, [(0, .ref 0 0), (1, .ref 3 0), (5, i64 i)]⟩, drH E2 S2⟩ True (aw_block (aw_seq (aw_region hT ?_))) (fun _ => ?_)
      · refine callP (af_in [0, 1, 2] rD rfl rfl rfl) ?_
        refine aw_cut ⟨⟨53, [(0, .ref 0 0), (1, .ref 3 0), (5, i64 i), (6, bA x1), (7, i64 x2), (8, bA x1), (9, i64 x2)]⟩, drH E2 S2⟩ True (aw_region hT ?_) (fun _ => ?_)
        · refine callP (af_in [3, 4, 5, 6, 7, 8] rR rfl rfl rfl) ?_
          exact ⟨wk_pick [0, 1, 2, 3, 4, 5, 6, 7, 8] [0, 1, 5, 6, 7, 8, 9] rfl, trivial⟩
        have sx := ref04_Same x1 x1 (by have xl : x1.length ≤ 256 := xl; omega)
        rw [beq_self_eq_true] at sx
        refine aw_seq (aw_region hT ?_)
        refine callP (af_at sx _ rfl rfl) ?_
        refine aw_seq (aw_region hT ?_)
        refine aw_cond (boolI (fun h2 => ?_) (fun h2 => ?_))
        · have h2 : (x2 != x2) = true := h2
          rw [bne_self_int] at h2; cases h2
        refine aw_skip ?_
        exact ⟨wk_pick [0, 1, 2, 3, 4, 5, 6, 7, 8] [0, 1, 5] rfl, trivial⟩
      · refine aw_region hT ?_
        refine ⟨n - 1, by omega, _, wk_pick [0, 1, 2, 3, 4, 5, 6, 7, 8] [0, 1, 5] rfl, i + 1, IntKind.i64.wrap ((i : Int) + 1), E2, S2, by omega, ?_, eE.symm, eS.symm, rfl⟩
        rw [wrap64 _ (by omega) (by omega)]; rfl
    · have h := of_decide_eq_false (show decide ((i : Int) < 8) = false from h)
      have hi : i = 8 := by omega
      refine aw_exit ?_
      subst hi
      rw [← hE, ← hS]
      exact ⟨wk_pick [0, 1, 2, 3, 4, 5, 6, 7, 8] [0, 1] rfl, trivial⟩
  · generalize D.scan0 8 = E
    generalize R.scan0 8 = S
    refine aw_seq (aw_region hT ?_)
    refine aw_ret ?_
    exact retPick [0, 1, 2, 3, 4, 5, 6, 7, 8] ⟨rfl, rfl⟩ rfl
end Go.Proofs.Ytolefphdldmlkaa.AL

/- The law KeepDoes, walked. -/
namespace Go.Proofs.Ytolefphdldmlkaa.AL
open Go Go.Proofs

theorem put9_len (l : List Want) : ∀ x ∈ l.map Want.put, x.s.length ≤ 1000 := fun x hx => by
  obtain ⟨y, _, rfl⟩ := List.mem_map.1 hx
  unfold Want.put
  simp only
  split
  · rw [List.length_drop, sect_len]; omega
  · rw [sect_len]; omega

set_option maxRecDepth 8000 in
set_option maxHeartbeats 1000000 in
theorem keep_does (f : List Flt) (die : Int) (l mend : List Want) : AF Try.prog f_law09_KeepDoes [.p (.sl 9 (fx f)), i64 die, .p (.sl 2 (wnx l)), .p (.sl 2 (wnx mend))] [] (Pure (bl true) []) := by
  refine af_body hT F_law09_KeepDoes rfl rfl N_law09_KeepDoes rfl ?_
  refine aw_seq (aw_region hT ?_)
  refine aw_seq (aw_region hT ?_)
  refine callP law09_awake ?_
  refine aw_cut ⟨⟨92, [(0, .p (.sl 9 (fx f))), (1, i64 die), (2, .p (.sl 2 (wnx l))), (3, .p (.sl 2 (wnx mend)))]⟩, []⟩ (f.length ≤ 30 ∧ l.length ≤ 10 ∧ mend.length ≤ 10) (aw_seq (aw_region hT ?_)) ?_
  · refine boolI (fun h => ?_) (fun h => ?_)
    · refine aw_cond ?_
      refine aw_seq (aw_region hT ?_)
      refine aw_ret ?_
      exact retPick [] ⟨rfl, rfl⟩ rfl
    refine boolI (fun h2 => ?_) (fun h2 => ?_)
    · refine aw_cond ?_
      refine aw_seq (aw_region hT ?_)
      refine aw_ret ?_
      exact retPick [] ⟨rfl, rfl⟩ rfl
    refine aw_cond (boolI (fun h3 => ?_) (fun h3 => ?_))
    · refine aw_seq (aw_region hT ?_)
      refine aw_ret ?_
      exact retPick [] ⟨rfl, rfl⟩ rfl
    · have h : decide (((fx f).length : Int) > 30) = false := h
      have h := of_decide_eq_false h
      rw [fx_len] at h
      have h2 : decide (((wnx l).length : Int) > 10) = false := h2
      have h2 := of_decide_eq_false h2
      rw [wnx_len] at h2
      have h3 : decide (((wnx mend).length : Int) > 10) = false := h3
      have h3 := of_decide_eq_false h3
      rw [wnx_len] at h3
      exact aw_skip ⟨wk_pick [] [0, 1, 2, 3] rfl, by omega, by omega, by omega⟩
  rintro ⟨hf, hl, hm⟩
  have sp := law09_spoilt f die (by omega)
  have ok0 : (((Dev.new 8).faults f).arm die).Ok 100 := ((faults_ok (ok_new 8 0) f).arm die).mono (by omega)
  generalize ((Dev.new 8).faults f).arm die = D0 at sp ok0
  have pl := law09_putsF l (by omega)
  have pm := law09_putsF mend (by omega)
  have sl := put9_len l
  have sm := put9_len mend
  have ll : (l.map Want.put).length ≤ 10 := by rw [List.length_map]; exact hl
  have lm : (mend.map Want.put).length ≤ 10 := by rw [List.length_map]; exact hm
  generalize l.map Want.put = P at pl sl ll
  generalize mend.map Want.put = M at pm sm lm
  have wA := keep_All D0 P 100 ok0 (by omega)
  have vA := ref_All D0 P 100 ok0 (by omega) sl
  obtain ⟨a1, a2⟩ := al_all P 0 (al_refl D0)
  have okA : (D0.all9 P).2.Ok 200 := (each_ok steps_one P (m := 0) ok0 (by omega)).mono (by omega)
  replace a1 : (D0.rall P).1 = (D0.all9 P).1 := a1
  replace a2 : Al (D0.all9 P).2 (D0.rall P).2 := a2
  rw [a1] at vA
  generalize D0.all9 P = Y at wA vA a2 okA
  obtain ⟨a, D1⟩ := Y
  generalize (D0.rall P).2 = R1 at vA a2
  replace okA : D1.Ok 200 := okA
  have k1 := law09_alike D1 R1 200 okA (by omega) a2
  have ok1 := scan0_ok okA 8
  have al1 := al_scan0 a2 8
  generalize D1.scan0 8 = D2 at k1 ok1 al1
  generalize R1.scan0 8 = R2 at k1 al1
  have wM := keep_Mend D2 M 200 ok1 (by omega)
  have vM := ref_Mend R2 M 200 (al1.ok ok1) (by omega) sm
  obtain ⟨b1, b2⟩ := al_mend M 0 al1
  have okM : (D2.mend9 M).2.Ok 300 := (each_ok steps_mend M (m := 0) ok1 (by omega)).mono (by omega)
  replace b1 : (R2.rmend M 0).1 = (D2.mend9 M).1 := b1
  replace b2 : Al (D2.mend9 M).2 (R2.rmend M 0).2 := b2
  rw [b1] at vM
  generalize D2.mend9 M = Y at wM vM b2 okM
  obtain ⟨⟨n, e⟩, D3⟩ := Y
  generalize (R2.rmend M 0).2 = R3 at vM b2
  replace okM : D3.Ok 300 := okM
  have k2 := law09_alike D3 R3 300 okM (by omega) b2
  generalize D3.scan0 8 = D4 at k2
  generalize R3.scan0 8 = R4 at k2
  refine aw_seq (aw_region hT ?_)
  refine callP sp ?_
  refine aw_cut ⟨⟨92, [(2, .p (.sl 2 (wnx l))), (3, .p (.sl 2 (wnx mend))), (10, .ref 0 0), (11, .ref 3 0), (12, i64 a)]⟩, drH D1 D0⟩ True (aw_region hT ?_) (fun _ => ?_)
  · refine callP (af_at pl _ rfl rfl) ?_
    refine callP (af_in [0, 1, 2] wA rfl rfl rfl) ?_
    exact ⟨wk_pick [0, 9, 10, 3, 4, 5, 6, 7, 8] [2, 3, 10, 11, 12] rfl, trivial⟩
  refine aw_cut ⟨⟨92, [(3, .p (.sl 2 (wnx mend))), (10, .ref 0 0), (11, .ref 3 0), (12, i64 a), (13, i64 a)]⟩, drH D1 R1⟩ True (aw_region hT ?_) (fun _ => ?_)
  · refine callP (af_at pl _ rfl rfl) ?_
    refine callP (af_in [3, 4, 5, 6, 7, 8] vA rfl rfl rfl) ?_
    exact ⟨wk_pick [0, 1, 2, 3, 9, 10, 11, 12, 13] [3, 10, 11, 12, 13] rfl, trivial⟩
  refine aw_cut ⟨⟨92, [(3, .p (.sl 2 (wnx mend))), (10, .ref 0 0), (11, .ref 3 0), (12, i64 a), (13, i64 a), (14, bl true)]⟩, drH D2 R2⟩ True (aw_region hT ?_) (fun _ => ?_)
  · refine callP (af_in [0, 1, 2, 3, 4, 5, 6, 7, 8] k1 rfl rfl rfl) ?_
    exact ⟨wk_pick [0, 1, 2, 3, 4, 5, 6, 7, 8] [3, 10, 11, 12, 13, 14] rfl, trivial⟩
  refine aw_cut ⟨⟨92, [(3, .p (.sl 2 (wnx mend))), (10, .ref 0 0), (11, .ref 3 0), (12, i64 a), (13, i64 a), (14, bl true), (15, i64 n), (16, i64 e)]⟩, drH D3 R2⟩ True (aw_region hT ?_) (fun _ => ?_)
  · refine callP (af_at pm _ rfl rfl) ?_
    refine callP (af_in [0, 1, 2] wM rfl rfl rfl) ?_
    exact ⟨wk_pick [0, 9, 10, 3, 4, 5, 6, 7, 8] [3, 10, 11, 12, 13, 14, 15, 16] rfl, trivial⟩
  refine aw_cut ⟨⟨92, [(10, .ref 0 0), (11, .ref 3 0), (12, i64 a), (13, i64 a), (14, bl true), (15, i64 n), (16, i64 e), (17, i64 n), (18, i64 e)]⟩, drH D3 R3⟩ True (aw_region hT ?_) (fun _ => ?_)
  · refine callP (af_at pm _ rfl rfl) ?_
    refine callP (af_in [3, 4, 5, 6, 7, 8] vM rfl rfl rfl) ?_
    exact ⟨wk_pick [0, 1, 2, 3, 9, 10, 11, 12, 13] [10, 11, 12, 13, 14, 15, 16, 17, 18] rfl, trivial⟩
  refine aw_cut ⟨⟨92, [(12, i64 a), (13, i64 a), (14, bl true), (15, i64 n), (16, i64 e), (17, i64 n), (18, i64 e), (19, bl true)]⟩, []⟩ True (aw_region hT ?_) (fun _ => ?_)
  · refine callP (af_in [0, 1, 2, 3, 4, 5, 6, 7, 8] k2 rfl rfl rfl) ?_
    exact ⟨wk_pick [] [12, 13, 14, 15, 16, 17, 18, 19] rfl, trivial⟩
  have eqs : ∀ z : Int, (z == z) = true := fun z => by simp
  refine aw_seq (aw_region hT ?_)
  refine boolI (fun h => ?_) (fun h => ?_)
  · refine boolI (fun h2 => ?_) (fun h2 => ?_)
    · refine boolI (fun h3 => ?_) (fun h3 => ?_)
      · refine aw_ret ?_
        exact retPick [] ⟨rfl, rfl⟩ rfl
      · have h3 : (e == e) = false := h3
        rw [eqs] at h3; cases h3
    · have h2 : (n == n) = false := h2
      rw [eqs] at h2; cases h2
  · have h : (a == a) = false := h
    rw [eqs] at h; cases h
end Go.Proofs.Ytolefphdldmlkaa.AL

/- The law DiskCrashes, walked. -/
namespace Go.Proofs.Ytolefphdldmlkaa.AL
open Go Go.Proofs

abbrev dev3 (A B C : Dev) : List ABlk := [devC A 1 2, .row t_disk_cell 4 (cx A.cells), .row t_disk_write 2 (wx A.waits), devC B 4 5, .row t_disk_cell 4 (cx B.cells), .row t_disk_write 2 (wx B.waits), devC C 7 8, .row t_disk_cell 4 (cx C.cells), .row t_disk_write 2 (wx C.waits)]
abbrev dev4 (A B C E : Dev) : List ABlk := [devC A 1 2, .row t_disk_cell 4 (cx A.cells), .row t_disk_write 2 (wx A.waits), devC B 4 5, .row t_disk_cell 4 (cx B.cells), .row t_disk_write 2 (wx B.waits), devC C 7 8, .row t_disk_cell 4 (cx C.cells), .row t_disk_write 2 (wx C.waits), devC E 10 11, .row t_disk_cell 4 (cx E.cells), .row t_disk_write 2 (wx E.waits)]

set_option maxRecDepth 8000 in
set_option maxHeartbeats 1000000 in
theorem disk_crashes (l : List Op06) (keep : List Bool) : AF Try.prog f_law06_DiskCrashes [.p (.sl 14 (opx l)), .p (.sl 1 (kx keep))] [] (Pure (bl true) []) := by
  refine af_body hT F_law06_DiskCrashes rfl rfl N_law06_DiskCrashes rfl ?_
  refine aw_seq (aw_region hT ?_)
  refine aw_seq (aw_region hT ?_)
  refine callP law06_awake ?_
  refine aw_cut ⟨⟨129, [(0, .p (.sl 14 (opx l))), (1, .p (.sl 1 (kx keep)))]⟩, []⟩ (l.length ≤ 40) (aw_seq (aw_region hT ?_)) ?_
  · refine boolI (fun h => ?_) (fun h => ?_)
    · refine aw_cond ?_
      refine aw_seq (aw_region hT ?_)
      refine aw_ret ?_
      exact retPick [] ⟨rfl, rfl⟩ rfl
    · refine aw_cond (boolI (fun h3 => ?_) (fun h3 => ?_))
      · refine aw_seq (aw_region hT ?_)
        refine aw_ret ?_
        exact retPick [] ⟨rfl, rfl⟩ rfl
      · have h : decide (((opx l).length : Int) > 40) = false := h
        have h := of_decide_eq_false h
        rw [opx_len] at h
        exact aw_skip ⟨wk_pick [] [0, 1] rfl, by omega⟩
  intro hn
  have n1 := disk_New 20 (by omega) (by omega)
  have q1 : Quiet (Dev.new 20) 0 := ⟨ok_new 20 0, List.length_replicate, rfl, rfl⟩
  generalize Dev.new 20 = D1 at n1 q1
  refine aw_seq (aw_region hT ?_)
  refine callP n1 ?_
  refine aw_cut2 (fun s1 => ∃ D, Quiet D 100 ∧ s1 = ⟨⟨129, [(1, .p (.sl 1 (kx keep))), (6, .ref 0 0)]⟩, devH D⟩) (aw_seq (aw_region hT ?_)) ?_
  · refine aw_block ?_
    refine aw_loopW (fun n s => ∃ (i : Nat) (j : Int) (D : Dev), n + i = l.length ∧ j = i ∧ Quiet D i ∧ s = ⟨⟨129, [(0, .p (.sl 14 (opx l))), (1, .p (.sl 1 (kx keep))), (6, .ref 0 0), (8, i64 j)]⟩, devH D⟩) l.length ⟨⟨129, _⟩, [_, _, _]⟩ (wk_pick [0, 1, 2] [0, 1, 6, 8] rfl) ⟨0, 0, D1, rfl, rfl, q1, rfl⟩ ?_
    rintro n s ⟨i, j, D, hni, rfl, hp, rfl⟩
    refine aw_seq (aw_seq (aw_region hT ?_))
    refine aw_cond (boolI (fun h => ?_) (fun h => ?_))
    · have hi : i < l.length := by
        have := of_decide_eq_true (show decide ((i : Int) < ((opx l).length : Int)) = true from h)
        rw [opx_len] at this; omega
      have hx := List.getElem?_eq_getElem hi
      generalize l[i] = x at hx
      have hx : (opx l)[((i : Nat) : Int).toNat]? = some x.pv := by rw [Int.toNat_natCast]; exact opx_get hx
      refine aw_skip ?_
      refine aw_cut2 (fun s1 => ∃ D, Quiet D (i + 1) ∧ s1 = ⟨⟨129, [(0, .p (.sl 14 (opx l))), (1, .p (.sl 1 (kx keep))), (6, .ref 0 0), (8, i64 i)]⟩, devH D⟩) (aw_block (aw_seq (aw_region hT ?_))) ?_
      · refine ⟨Int.natCast_nonneg _, optI hx ?_⟩
        refine aw_cond (boolI (fun h2 => ?_) (fun h2 => ?_))
        · have h2 : decide (x.kind < 3) = true := h2
          have w := law06_Does D x i hp.ok (by omega)
          have hp2 := hp.does x (of_decide_eq_true h2)
          generalize D.does x = R at w hp2
          refine aw_region hT ?_
          refine ⟨Int.natCast_nonneg _, optI hx ?_⟩
          refine callP (af_in [0, 1, 2] w rfl rfl rfl) ?_
          exact ⟨_, wk_pick [0, 3, 4] [0, 1, 6, 8] rfl, R.2, hp2, rfl⟩
        · refine aw_skip ?_
          exact ⟨_, wk_pick [0, 1, 2] [0, 1, 6, 8] rfl, D, hp.mono, rfl⟩
      · rintro _ ⟨D, hp, rfl⟩
        refine aw_region hT ?_
        refine ⟨n - 1, by omega, _, wk_pick [0, 1, 2] [0, 1, 6, 8] rfl, i + 1, IntKind.i64.wrap ((i : Int) + 1), D, by omega, ?_, hp, rfl⟩
        rw [wrap64 _ (by omega) (by omega)]; rfl
    · refine aw_exit ?_
      exact ⟨_, wk_pick [0, 1, 2] [1, 6] rfl, D, ⟨hp.ok.mono (by omega), hp.len, hp.dead, hp.armed⟩, rfl⟩
  · rintro _ ⟨D, hp, rfl⟩
    have big := hp.ok.big (show 100 ≤ 1000000 by omega)
    have cp := disk_Copy D (by rw [hp.len]; omega) big.2.1
    have wA := disk_Crash D [true] big.1 big.2.1
    have wB := disk_Flush D big.1 big.2.1
    have wC := disk_Crash D keep big.1 big.2.1
    have vA := hp.view [true]
    have vB := hp.viewF
    have vC := hp.view keep
    generalize D.crashed [true] = A at wA vA
    generalize D.flush.1 = fe at wB
    generalize D.flush.2 = B at wB vB
    generalize D.crashed keep = C at wC vC
    have bigC := vC.ok.big (show 100 ≤ 1000000 by omega)
    have cpC := disk_Copy C (by rw [vC.cells, crashC_len, hp.len]; omega) bigC.2.1
    have wE := disk_Crash C [true] bigC.1 bigC.2.1
    have vE := vC.again [true]
    generalize C.crashed [true] = E at wE vE
    generalize crashC D.waits [true] D.waits.length D.cells = X at vA vB
    generalize crashC D.waits keep D.waits.length D.cells = Y at vC vE
    refine aw_seq (aw_region hT ?_)
    refine callP (af_in [0, 1, 2] cp rfl rfl rfl) ?_
    refine aw_seq (aw_region hT ?_)
    refine callP (af_in [0, 1, 2] cp rfl rfl rfl) ?_
    refine aw_cut ⟨⟨129, [(1, .p (.sl 1 (kx keep))), (9, .ref 0 0), (10, .ref 3 0), (11, .ref 6 0)]⟩, dev3 D D D⟩ True (aw_region hT ?_) (fun _ => ?_)
    · refine callP (af_in [0, 1, 2] cp rfl rfl rfl) ?_
      exact ⟨wk_pick [3, 4, 5, 6, 7, 8, 9, 10, 11] [1, 9, 10, 11] rfl, trivial⟩
    refine aw_cut ⟨⟨129, [(1, .p (.sl 1 (kx keep))), (9, .ref 0 0), (10, .ref 3 0), (11, .ref 6 0)]⟩, dev3 A D D⟩ True (aw_regionF (fun k => Nat.beq 1 k) hT ?_) (fun _ => ?_)
    · refine ⟨⟨rfl, rfl⟩, ?_⟩
      refine callP (af_in [0, 1, 2] wA rfl rfl rfl) ?_
      exact ⟨wk_pick [0, 9, 10, 3, 4, 5, 6, 7, 8] [1, 9, 10, 11] rfl, trivial⟩
    refine aw_cut ⟨⟨129, [(1, .p (.sl 1 (kx keep))), (9, .ref 0 0), (10, .ref 3 0), (11, .ref 6 0)]⟩, dev3 A B D⟩ True (aw_region hT ?_) (fun _ => ?_)
    · refine callP (af_in [3, 4, 5] wB rfl rfl rfl) ?_
      exact ⟨wk_pick [0, 1, 2, 3, 9, 10, 6, 7, 8] [1, 9, 10, 11] rfl, trivial⟩
    refine aw_cut ⟨⟨129, [(9, .ref 0 0), (10, .ref 3 0), (11, .ref 6 0)]⟩, dev3 A B C⟩ True (aw_region hT ?_) (fun _ => ?_)
    · refine callP (af_in [6, 7, 8] wC rfl rfl rfl) ?_
      exact ⟨wk_pick [0, 1, 2, 3, 4, 5, 6, 9, 10] [9, 10, 11] rfl, trivial⟩
    refine aw_cut ⟨⟨129, [(9, .ref 0 0), (10, .ref 3 0), (11, .ref 6 0), (12, .ref 9 0)]⟩, dev4 A B C C⟩ True (aw_region hT ?_) (fun _ => ?_)
    · refine callP (af_in [6, 7, 8] cpC rfl rfl rfl) ?_
      exact ⟨wk_pick [0, 1, 2, 3, 4, 5, 6, 7, 8, 9, 10, 11] [9, 10, 11, 12] rfl, trivial⟩
    refine aw_cut ⟨⟨129, [(9, .ref 0 0), (10, .ref 3 0), (11, .ref 6 0), (12, .ref 9 0)]⟩, dev4 A B C E⟩ True (aw_regionF (fun k => Nat.beq 1 k) hT ?_) (fun _ => ?_)
    · refine ⟨⟨rfl, rfl⟩, ?_⟩
      refine callP (af_in [9, 10, 11] wE rfl rfl rfl) ?_
      exact ⟨wk_pick [0, 1, 2, 3, 4, 5, 6, 7, 8, 9, 12, 13] [9, 10, 11, 12] rfl, trivial⟩
    refine aw_seq (aw_seq (aw_region hT ?_))
    refine aw_block ?_
    refine aw_loopW (fun n s => ∃ (i : Nat) (j : Int) (A B C E : Dev), n + i = 20 ∧ j = i ∧ View A X 100 ∧ View B X 100 ∧ View C Y 100 ∧ View E Y 100 ∧ s = ⟨⟨129, [(9, .ref 0 0), (10, .ref 3 0), (11, .ref 6 0), (12, .ref 9 0), (13, i64 j)]⟩, dev4 A B C E⟩) 20 ⟨⟨129, _⟩, [_, _, _, _, _, _, _, _, _, _, _, _]⟩ (wk_pick [0, 1, 2, 3, 4, 5, 6, 7, 8, 9, 10, 11] [9, 10, 11, 12, 13] rfl) ⟨0, 0, A, B, C, E, rfl, rfl, vA, vB, vC, vE, rfl⟩ ?_
    rintro n s ⟨i, j, A, B, C, E, hni, rfl, vA, vB, vC, vE, rfl⟩
    refine aw_seq (aw_seq (aw_region hT ?_))
    refine aw_cond (boolI (fun h => ?_) (fun h => ?_))
    · have hi : i < 20 := by
        have := of_decide_eq_true (show decide ((i : Int) < 20) = true from h)
        omega
      have rd : ∀ {D : Dev} {Z : List Cell}, View D Z 100 → AFm Try.prog 3 f_disk_Disk_Read [.ref 0 0, i64 i] (devH D) (Pure (.tup [bA (D.read i).1.1, i64 (D.read i).1.2]) (devH (D.read i).2)) := fun {D Z} v =>
        disk_Read D i (v.ok.big (by omega)).2.1 (v.ok.big (by omega)).2.2.1 (v.ok.big (by omega)).2.2.2
      have sAB := vA.same vB i
      have sCE := vC.same vE i
      have rA := rd vA
      have rB := rd vB
      have rC := rd vC
      have rE := rd vE
      have xl := read_len vB.ok i
      have yl := read_len vE.ok i
      rw [sAB] at rA
      rw [sCE] at rC
      have vA := vA.read i
      have vB := vB.read i
      have vC := vC.read i
      have vE := vE.read i
      generalize (A.read i).2 = A2 at rA vA
      generalize (B.read i).1 = x at rA rB xl
      generalize (B.read i).2 = B2 at rB vB
      generalize (C.read i).2 = C2 at rC vC
      generalize (E.read i).1 = y at rC rE yl
      generalize (E.read i).2 = E2 at rE vE
      obtain ⟨x1, x2⟩ := x
      obtain ⟨y1, y2⟩ := y
      refine aw_skip ?_
      refine aw_cut ⟨⟨129, [(9, .ref 0 0), (10, .ref 3 0), (11, .ref 6 0), (12, .ref 9 0), (13, i64 i)]⟩, dev4 A2 B2 C2 E2⟩ True (aw_block (aw_seq (aw_region hT ?_))) (fun _ => ?_)
      · refine callP (af_in [0, 1, 2] rA rfl rfl rfl) ?_
        refine aw_seq (aw_region hT ?_)
        refine callP (af_in [3, 4, 5] rB rfl rfl rfl) ?_
        refine aw_seq (aw_region hT ?_)
        refine callP (af_in [6, 7, 8] rC rfl rfl rfl) ?_
        refine aw_cut ⟨⟨129, [(9, .ref 0 0), (10, .ref 3 0), (11, .ref 6 0), (12, .ref 9 0), (13, i64 i), (14, bA x1), (15, i64 x2), (16, bA x1), (17, i64 x2), (18, bA y1), (19, i64 y2), (20, bA y1), (21, i64 y2)]⟩, dev4 A2 B2 C2 E2⟩ True (aw_region hT ?_) (fun _ => ?_)
        · refine callP (af_in [9, 10, 11] rE rfl rfl rfl) ?_
          exact ⟨wk_pick [0, 1, 2, 3, 4, 5, 6, 7, 8, 9, 10, 11] [9, 10, 11, 12, 13, 14, 15, 16, 17, 18, 19, 20, 21] rfl, trivial⟩
        have sx := ref04_Same x1 x1 (by have xl : x1.length ≤ 256 := xl; omega)
        have sy := ref04_Same y1 y1 (by have yl : y1.length ≤ 256 := yl; omega)
        rw [beq_self_eq_true] at sx sy
        have ne : ∀ z : Int, (z != z) = false := fun z => by simp
        refine aw_seq (aw_region hT ?_)
        refine callP (af_at sx _ rfl rfl) ?_
        refine aw_seq (aw_region hT ?_)
        refine callP (af_at sy _ rfl rfl) ?_
        refine aw_seq (aw_region hT ?_)
        refine boolI (fun h1 => ?_) (fun h1 => ?_)
        · have h1 : (x2 != x2) = true := h1
          rw [ne] at h1; cases h1
        refine aw_cond (boolI (fun h2 => ?_) (fun h2 => ?_))
        · have h2 : (y2 != y2) = true := h2
          rw [ne] at h2; cases h2
        refine aw_skip ?_
        exact ⟨wk_pick [0, 1, 2, 3, 4, 5, 6, 7, 8, 9, 10, 11] [9, 10, 11, 12, 13] rfl, trivial⟩
      · refine aw_region hT ?_
        refine ⟨n - 1, by omega, _, wk_pick [0, 1, 2, 3, 4, 5, 6, 7, 8, 9, 10, 11] [9, 10, 11, 12, 13] rfl, i + 1, IntKind.i64.wrap ((i : Int) + 1), A2, B2, C2, E2, by omega, ?_, vA, vB, vC, vE, rfl⟩
        rw [wrap64 _ (by omega) (by omega)]; rfl
    · refine aw_exit ?_
      refine aw_seq (aw_region hT ?_)
      refine aw_ret ?_
      exact retPick [] ⟨rfl, rfl⟩ rfl
end Go.Proofs.Ytolefphdldmlkaa.AL

/- The law KeepEach, walked. -/
namespace Go.Proofs.Ytolefphdldmlkaa.AL
open Go Go.Proofs

def Dev.ones : List Put9 → Dev → Int × Dev
  | [], D => (0, D)
  | x :: r, D => match (D.one x.at_ x.s).1 != 0 with
    | true => D.one x.at_ x.s
    | false => Dev.ones r (D.one x.at_ x.s).2
theorem ones_cons (x : Put9) (r : List Put9) (D : Dev) : Dev.ones (x :: r) D = match (D.one x.at_ x.s).1 != 0 with
    | true => D.one x.at_ x.s
    | false => Dev.ones r (D.one x.at_ x.s).2 := rfl
theorem ones_eq : ∀ (l : List Put9) (D : Dev) (m : Int), Dev.ones l D = ((eachK oneG l D m).1, (eachK oneG l D m).2.1)
  | [], D, m => rfl
  | x :: r, D, m => by
    rw [ones_cons, eachK_cons]
    show _ = ((match (D.one x.at_ x.s).1 != 0 with | true => oneG D m x.at_ x.s | false => eachK oneG r (D.one x.at_ x.s).2 (more (D.one x.at_ x.s).1 m)).1, (match (D.one x.at_ x.s).1 != 0 with | true => oneG D m x.at_ x.s | false => eachK oneG r (D.one x.at_ x.s).2 (more (D.one x.at_ x.s).1 m)).2.1)
    cases (D.one x.at_ x.s).1 != 0 with
    | true => rfl
    | false => exact ones_eq r _ _
theorem ones_all (l : List Put9) (D : Dev) : D.ones l = D.all9 l := ones_eq l D 0

abbrev dev2 (A B : Dev) : List ABlk := [devC A 1 2, .row t_disk_cell 4 (cx A.cells), .row t_disk_write 2 (wx A.waits), devC B 4 5, .row t_disk_cell 4 (cx B.cells), .row t_disk_write 2 (wx B.waits)]

set_option maxRecDepth 8000 in
set_option maxHeartbeats 1000000 in
theorem keep_each_law (f : List Flt) (die : Int) (l : List Want) : AF Try.prog f_law09_KeepEach [.p (.sl 9 (fx f)), i64 die, .p (.sl 2 (wnx l))] [] (Pure (bl true) []) := by
  refine af_body hT F_law09_KeepEach rfl rfl N_law09_KeepEach rfl ?_
  refine aw_seq (aw_region hT ?_)
  refine aw_seq (aw_region hT ?_)
  refine callP law09_awake ?_
  refine aw_cut ⟨⟨93, [(0, .p (.sl 9 (fx f))), (1, i64 die), (2, .p (.sl 2 (wnx l)))]⟩, []⟩ (f.length ≤ 30 ∧ l.length ≤ 10) (aw_seq (aw_region hT ?_)) ?_
  · refine boolI (fun h => ?_) (fun h => ?_)
    · refine aw_cond ?_
      refine aw_seq (aw_region hT ?_)
      refine aw_ret ?_
      exact retPick [] ⟨rfl, rfl⟩ rfl
    refine aw_cond (boolI (fun h3 => ?_) (fun h3 => ?_))
    · refine aw_seq (aw_region hT ?_)
      refine aw_ret ?_
      exact retPick [] ⟨rfl, rfl⟩ rfl
    · have h : decide (((fx f).length : Int) > 30) = false := h
      have h := of_decide_eq_false h
      rw [fx_len] at h
      have h3 : decide (((wnx l).length : Int) > 10) = false := h3
      have h3 := of_decide_eq_false h3
      rw [wnx_len] at h3
      exact aw_skip ⟨wk_pick [] [0, 1, 2] rfl, by omega, by omega⟩
  rintro ⟨hf, hl⟩
  have sp := law09_spoilt f die (by omega)
  have ok0 : (((Dev.new 8).faults f).arm die).Ok 100 := ((faults_ok (ok_new 8 0) f).arm die).mono (by omega)
  have len0 : (((Dev.new 8).faults f).arm die).cells.length = 8 := by
    show ((Dev.new 8).faults f).cells.length = 8
    rw [faults_len]; exact List.length_replicate
  generalize ((Dev.new 8).faults f).arm die = D0 at sp ok0 len0
  have pl := law09_putsF l (by omega)
  have ll : (l.map Want.put).length ≤ 10 := by rw [List.length_map]; exact hl
  generalize l.map Want.put = P at pl ll
  have big := ok0.big (show 100 ≤ 1000000 by omega)
  have cp := disk_Copy D0 (by omega) big.2.1
  have wA := keep_All D0 P 100 ok0 (by omega)
  have okA : (D0.all9 P).2.Ok 200 := (each_ok steps_one P (m := 0) ok0 (by omega)).mono (by omega)
  have eO := ones_all P D0
  generalize D0.all9 P = Y at wA okA eO
  obtain ⟨a, D1⟩ := Y
  replace okA : D1.Ok 200 := okA
  refine aw_seq (aw_region hT ?_)
  refine callP sp ?_
  refine aw_cut ⟨⟨93, [(2, .p (.sl 2 (wnx l))), (8, .ref 0 0), (10, .ref 3 0)]⟩, dev2 D0 D0⟩ True (aw_region hT ?_) (fun _ => ?_)
  · refine callP (af_in [0, 1, 2] cp rfl rfl rfl) ?_
    exact ⟨wk_pick [0, 1, 2, 9, 10, 11] [2, 8, 10] rfl, trivial⟩
  refine aw_seq (aw_region hT ?_)
  refine callP (af_at pl _ rfl rfl) ?_
  refine aw_cut ⟨⟨93, [(8, .ref 0 0), (10, .ref 3 0), (11, .p (.sl 2 (px P))), (12, i64 a)]⟩, dev2 D1 D0⟩ True (aw_region hT ?_) (fun _ => ?_)
  · refine callP (af_in [0, 1, 2] wA rfl rfl rfl) ?_
    exact ⟨wk_pick [0, 6, 7, 3, 4, 5] [8, 10, 11, 12] rfl, trivial⟩
  refine aw_seq (aw_region hT ?_)
  refine aw_cut ⟨⟨93, [(8, .ref 0 0), (10, .ref 3 0), (12, i64 a), (13, i64 a)]⟩, dev2 D1 D1⟩ True (aw_seq (aw_region hT ?_)) (fun _ => ?_)
  · refine aw_block ?_
    refine aw_loopW (fun n s1 => ∃ (i : Nat) (j : Int) (E : Dev) (e : Int), n + i = P.length ∧ j = i ∧ E.Ok (100 + 4 * i) ∧ ((e = 0 ∧ D0.ones P = E.ones (P.drop i)) ∨ (e ≠ 0 ∧ D0.ones P = (e, E))) ∧ s1 = ⟨⟨93, [(8, .ref 0 0), (10, .ref 3 0), (11, .p (.sl 2 (px P))), (12, i64 a), (13, i64 e), (14, i64 j)]⟩, dev2 D1 E⟩) P.length ⟨⟨93, _⟩, [_, _, _, _, _, _]⟩ (wk_pick [0, 1, 2, 3, 4, 5] [8, 10, 11, 12, 13, 14] rfl) ⟨0, 0, D0, 0, rfl, rfl, ok0, .inl ⟨rfl, rfl⟩, rfl⟩ ?_
    rintro n s1 ⟨i, j, E, e, hni, rfl, hE, he, rfl⟩
    have out : D0.ones P = (e, E) → a = e ∧ D1 = E := fun h => by
      rw [eO] at h
      exact Prod.mk.inj h
    refine aw_seq (aw_seq (aw_region hT ?_))
    refine boolI (fun h => ?_) (fun h => ?_)
    · have hi : i < P.length := by
        have := of_decide_eq_true (show decide ((i : Int) < ((px P).length : Int)) = true from h)
        rw [px_len] at this; omega
      refine aw_cond (boolI (fun h1 => ?_) (fun h1 => ?_))
      · have h1 : (e == 0) = true := h1
        have h1 : e = 0 := by simpa using h1
        have he : D0.ones P = E.ones (P.drop i) := by
          rcases he with ⟨_, he⟩ | ⟨h2, _⟩
          · exact he
          · exact absurd h1 h2
        have hx := List.getElem?_eq_getElem hi
        have hdr : P.drop i = P[i] :: P.drop (i + 1) := List.drop_eq_getElem_cons hi
        generalize P[i] = x at hx hdr
        have hxp : (px P)[((i : Nat) : Int).toNat]? = some x.pv := by rw [Int.toNat_natCast]; exact px_get hx
        have w := keep_One E x.at_ x.s (100 + 4 * i) hE (by omega)
        have ok := one_ok2 hE x.at_ x.s
        rw [hdr, ones_cons] at he
        generalize E.one x.at_ x.s = Z at w ok he
        obtain ⟨z, F⟩ := Z
        replace ok : F.Ok (100 + 4 * i + 4) := ok
        simp only at he
        refine aw_skip ?_
        refine aw_cut ⟨⟨93, [(8, .ref 0 0), (10, .ref 3 0), (11, .p (.sl 2 (px P))), (12, i64 a), (13, i64 z), (14, i64 i)]⟩, dev2 D1 F⟩ True (aw_block (aw_region hT ?_)) (fun _ => ?_)
        · refine ⟨Int.natCast_nonneg _, optI hxp ?_⟩
          refine callP (af_in [3, 4, 5] w rfl rfl rfl) ?_
          exact ⟨wk_pick [0, 1, 2, 3, 6, 7] [8, 10, 11, 12, 13, 14] rfl, trivial⟩
        · refine aw_region hT ?_
          refine ⟨n - 1, by omega, _, wk_pick [0, 1, 2, 3, 4, 5] [8, 10, 11, 12, 13, 14] rfl, i + 1, IntKind.i64.wrap ((i : Int) + 1), F, z, by omega, ?_, by rw [show 100 + 4 * (i + 1) = 100 + 4 * i + 4 by omega]; exact ok, ?_, rfl⟩
          · rw [wrap64 _ (by omega) (by omega)]; rfl
          · cases hz : z != 0 with
            | true => rw [hz] at he; exact .inr ⟨by simpa using hz, he⟩
            | false => rw [hz] at he; exact .inl ⟨by simpa using hz, he⟩
      · have h1 : (e == 0) = false := h1
        have h1 : e ≠ 0 := by simpa using h1
        rcases he with ⟨h2, _⟩ | ⟨_, he⟩
        · exact absurd h2 h1
        refine aw_exit ?_
        obtain ⟨rfl, rfl⟩ := out he
        exact ⟨wk_pick [0, 1, 2, 3, 4, 5] [8, 10, 12, 13] rfl, trivial⟩
    · have hi : i = P.length := by
        have : ¬ (i : Int) < ((px P).length : Int) := of_decide_eq_false h
        rw [px_len] at this; omega
      have he : D0.ones P = (e, E) := by
        rcases he with ⟨h2, he⟩ | ⟨_, he⟩
        · rw [hi, List.drop_length] at he; rw [he, h2]; rfl
        · exact he
      refine aw_cond ?_
      refine aw_exit ?_
      obtain ⟨rfl, rfl⟩ := out he
      exact ⟨wk_pick [0, 1, 2, 3, 4, 5] [8, 10, 12, 13] rfl, trivial⟩
  refine aw_cut2 (fun s1 => s1 = ⟨⟨93, [(12, i64 a), (13, i64 a)]⟩, []⟩) (aw_seq (aw_region hT ?_)) ?_
  · refine aw_block ?_
    refine aw_loopW (fun n s => ∃ (i : Nat) (j : Int) (E : Dev), n + i = 8 ∧ j = (i : Int) ∧ E.Ok 200 ∧ s = ⟨⟨93, [(8, .ref 0 0), (10, .ref 3 0), (12, i64 a), (13, i64 a), (15, i64 j)]⟩, dev2 E E⟩) 8 ⟨⟨93, _⟩, [_, _, _, _, _, _]⟩ (wk_pick [0, 1, 2, 3, 4, 5] [8, 10, 12, 13, 15] rfl) ⟨0, 0, D1, rfl, rfl, okA, rfl⟩ ?_
    rintro n s ⟨i, j, E, hni, rfl, hE, rfl⟩
    have bigE := hE.big (show 200 ≤ 1000000 by omega)
    refine aw_seq (aw_seq (aw_region hT ?_))
    refine aw_cond (boolI (fun h => ?_) (fun h => ?_))
    · have h := of_decide_eq_true (show decide ((i : Int) < 8) = true from h)
      have rD := disk_Read E i bigE.2.1 bigE.2.2.1 bigE.2.2.2
      have xl := read_len hE i
      have ok := hE.read i
      generalize E.read i = X at rD xl ok
      obtain ⟨⟨x1, x2⟩, E2⟩ := X
      replace ok : E2.Ok 200 := ok
      refine aw_skip ?_
      refine aw_cut ⟨⟨93, [(8, .ref 0 0), (10, .ref 3 0), (12, i64 a), (13, i64 a), (15, i64 i)]⟩, dev2 E2 E2⟩ True (aw_block (aw_seq (aw_region hT ?_))) (fun _ => ?_)
      · refine callP (af_in [0, 1, 2] rD rfl rfl rfl) ?_
        refine aw_cut ⟨⟨93, [(8, .ref 0 0), (10, .ref 3 0), (12, i64 a), (13, i64 a), (15, i64 i), (16, bA x1), (17, i64 x2), (18, bA x1), (19, i64 x2)]⟩, dev2 E2 E2⟩ True (aw_region hT ?_) (fun _ => ?_)
        · refine callP (af_in [3, 4, 5] rD rfl rfl rfl) ?_
          exact ⟨wk_pick [0, 1, 2, 3, 4, 5] [8, 10, 12, 13, 15, 16, 17, 18, 19] rfl, trivial⟩
        have sx := ref04_Same x1 x1 (by have xl : x1.length ≤ 256 := xl; omega)
        rw [beq_self_eq_true] at sx
        refine aw_seq (aw_region hT ?_)
        refine callP (af_at sx _ rfl rfl) ?_
        refine aw_seq (aw_region hT ?_)
        refine aw_cond (boolI (fun h2 => ?_) (fun h2 => ?_))
        · have h2 : (x2 != x2) = true := h2
          rw [bne_self_int] at h2; cases h2
        refine aw_skip ?_
        exact ⟨wk_pick [0, 1, 2, 3, 4, 5] [8, 10, 12, 13, 15] rfl, trivial⟩
      · refine aw_region hT ?_
        refine ⟨n - 1, by omega, _, wk_pick [0, 1, 2, 3, 4, 5] [8, 10, 12, 13, 15] rfl, i + 1, IntKind.i64.wrap ((i : Int) + 1), E2, by omega, ?_, ok, rfl⟩
        rw [wrap64 _ (by omega) (by omega)]; rfl
    · refine aw_exit ?_
      exact ⟨_, wk_pick [] [12, 13] rfl, rfl⟩
  · rintro _ rfl
    refine aw_seq (aw_region hT ?_)
    refine aw_ret ?_
    refine retPick [] ⟨?_, rfl⟩ rfl
    show AV.p (.raw (.bool (a == a))) = _
    rw [beq_self_eq_true]
end Go.Proofs.Ytolefphdldmlkaa.AL

/- The law KeepPuts: what is dropped, and what is misled. -/
namespace Go.Proofs.Ytolefphdldmlkaa.AL
open Go Go.Proofs

/-- A device of 8, of which nothing waits; writes of one sector go wrong so and so often. -/
structure Wrong (D : Dev) (a : Int) (d : Int) (j b : Nat) : Prop where
  ok : D.Ok b
  dead : D.dead = false
  armed : D.armed = false
  waits : D.waits = []
  len : D.cells.length = 8
  cell : ∃ c, D.cells[a.toNat]? = some c ∧ c.drop = d ∧ c.miss.length ≤ j
structure Fine (D : Dev) (a : Int) (s : Bytes) (b : Nat) : Prop where
  ok : D.Ok b
  dead : D.dead = false
  waits : D.waits = []
  len : D.cells.length = 8
  cell : ∃ c, D.cells[a.toNat]? = some c ∧ c.s = s ∧ c.lost = false

theorem wrong_new {a : Int} (h0 : 0 ≤ a) (h1 : a ≤ 7) : Wrong (Dev.new 8) a 0 0 0 := by
  refine ⟨ok_new 8 0, rfl, rfl, rfl, List.length_replicate, cell1, ?_, rfl, Nat.le_refl _⟩
  show (List.replicate 8 cell1)[a.toNat]? = _
  rw [List.getElem?_replicate, if_pos (by omega)]
theorem has8 {D : Dev} (h : D.cells.length = 8) {a : Int} (h0 : 0 ≤ a) (h1 : a ≤ 7) : D.has a = true := by
  unfold Dev.has; rw [h, decide_eq_true (show a ≥ 0 from h0), decide_eq_true (show a < ((8 : Nat) : Int) by omega)]; rfl

theorem wrong_drop {D : Dev} {a : Int} {b : Nat} (h : Wrong D a 0 0 b) (h0 : 0 ≤ a) (h1 : a ≤ 7) {n : Int} (hn : 0 < n) (hn3 : n ≤ 3) : Wrong (D.fault ⟨4, a, 0, n, 0, 0, 0, 0, 0⟩).2 a n 0 (b + 1) := by
  have hk := h.ok.fault ⟨4, a, 0, n, 0, 0, 0, 0, 0⟩
  obtain ⟨c, hc, hd, hm⟩ := h.cell
  have hmay : D.may ⟨4, a, 0, n, 0, 0, 0, 0, 0⟩ = 0 := by
    rw [may_kind (has8 h.len h0 h1)]
    rw [if_neg (by simp), if_neg (by simp), if_neg (by simp only; omega), if_neg (by simp)]
  rw [fault_yes hmay] at hk ⊢
  have e : D.hurt ⟨4, a, 0, n, 0, 0, 0, 0, 0⟩ = { D with cells := D.cells.set a.toNat { c with drop := IntKind.i64.wrap (c.drop + n) } } := by
    unfold Dev.hurt
    rw [if_neg (by simp), if_neg (by simp), if_neg (by simp), if_pos rfl, upd_set _ hc]
  rw [e] at hk ⊢
  refine ⟨hk, h.dead, h.armed, h.waits, by show (D.cells.set _ _).length = 8; rw [List.length_set]; exact h.len, _, List.getElem?_set_self (List.getElem?_eq_some_iff.1 hc).1, ?_, hm⟩
  show IntKind.i64.wrap (c.drop + n) = n
  rw [hd, wrap64 _ (by omega) (by omega)]; omega

theorem Wrong.more {D : Dev} {a d : Int} {j b : Nat} (h : Wrong D a d j b) : Wrong D a d (j + 1) (b + 1) :=
  ⟨h.ok.mono (by omega), h.dead, h.armed, h.waits, h.len, let ⟨c, h1, h2, h3⟩ := h.cell; ⟨c, h1, h2, by omega⟩⟩
theorem wrong_miss {D : Dev} {a d : Int} {j b : Nat} (h : Wrong D a d j b) (h0 : 0 ≤ a) (h1 : a ≤ 7) (t : Int) : Wrong (D.fault ⟨5, a, 0, 0, t, 0, 0, 0, 0⟩).2 a d (j + 1) (b + 1) := by
  have hk := h.ok.fault ⟨5, a, 0, 0, t, 0, 0, 0, 0⟩
  obtain ⟨c, hc, hd, hm⟩ := h.cell
  have hmk := may_kind (f := ⟨5, a, 0, 0, t, 0, 0, 0, 0⟩) (has8 h.len h0 h1)
  rw [if_neg (by simp), if_neg (by simp), if_neg (by simp)] at hmk
  cases ht : D.has t with
  | false =>
    rw [if_pos ⟨rfl, ht⟩] at hmk
    rw [fault_no hmk (by omega)]
    exact h.more
  | true =>
    rw [if_neg (by simp [ht])] at hmk
    rw [fault_yes hmk] at hk ⊢
    have e : D.hurt ⟨5, a, 0, 0, t, 0, 0, 0, 0⟩ = { D with cells := D.cells.set a.toNat { c with miss := c.miss ++ [t] } } := by
      unfold Dev.hurt
      rw [if_neg (by simp), if_neg (by simp), if_neg (by simp), if_neg (by simp), upd_set _ hc]
    rw [e] at hk ⊢
    refine ⟨hk, h.dead, h.armed, h.waits, by show (D.cells.set _ _).length = 8; rw [List.length_set]; exact h.len, _, List.getElem?_set_self (List.getElem?_eq_some_iff.1 hc).1, hd, ?_⟩
    show (c.miss ++ [t]).length ≤ _
    rw [List.length_append]; simp; omega

/-- At most k writes of a sector go wrong. -/
structure Few (D : Dev) (a : Int) (k b : Nat) : Prop where
  ok : D.Ok b
  dead : D.dead = false
  armed : D.armed = false
  waits : D.waits = []
  len : D.cells.length = 8
  cell : ∃ c, D.cells[a.toNat]? = some c ∧ 0 ≤ c.drop ∧ c.drop ≤ 1000 ∧ c.drop.toNat + c.miss.length ≤ k

theorem lives_dead {E : Dev} (h1 : E.dead = false) (h2 : E.armed = false) : E.lives.dead = false := by
  show (E.dead || (E.armed && E.left == 0)) = false
  rw [h1, h2]; rfl

/-- What a write and a flush leave. -/
theorem few_put {D : Dev} {a : Int} {k b : Nat} (h : Few D a k b) (h0 : 0 ≤ a) (h1 : a ≤ 7) {s : Bytes} (hs : s.length = 256) :
    (D.write a s).1 = 0 ∧ (D.write a s).2.flush.1 = 0 ∧ (D.write a s).2.flush.2.Ok (b + 1) ∧ (D.write a s).2.flush.2.dead = false ∧ (D.write a s).2.flush.2.armed = false ∧ (D.write a s).2.flush.2.waits = [] ∧ (D.write a s).2.flush.2.cells.length = 8 ∧
    ∃ c, (D.write a s).2.flush.2.cells[a.toNat]? = some c ∧ ((c.s = s ∧ c.lost = false) ∨ (0 ≤ c.drop ∧ c.drop ≤ 1000 ∧ c.drop.toNat + c.miss.length + 1 ≤ k)) := by
  obtain ⟨c, hc, d0, d1, hk⟩ := h.cell
  have ok := (h.ok.write a s).flush
  have hl : D.lives.dead = false := lives_dead h.dead h.armed
  have e : D.write a s = (0, D.lives.count.put a s) := by
    unfold Dev.write
    rw [h.dead, has8 h.len h0 h1, show ((s.length : Int) != 256) = false by rw [hs]; rfl, hl]
  rw [e] at ok ⊢
  simp only at ok ⊢
  have hp := put_len D.lives.count a s
  have hd2 : (D.lives.count.put a s).dead = false := hp.2.1.trans hl
  have ha2 : (D.lives.count.put a s).armed = false := hp.2.2.trans h.armed
  have hl2 : (D.lives.count.put a s).lives.dead = false := lives_dead hd2 ha2
  have ef : (D.lives.count.put a s).flush = (0, (D.lives.count.put a s).lives.drain [true]) := by unfold Dev.flush; rw [hd2, hl2]
  rw [ef] at ok ⊢
  simp only at ok ⊢
  refine ⟨by first | rfl | trivial, by first | rfl | trivial, ok, hl2, ha2, rfl, ?_, ?_⟩
  · exact (crashC_len _ _ _ _).trans (hp.1.trans h.len)
  -- the cell
  show ∃ c, (crashC (D.lives.count.put a s).waits [true] (D.lives.count.put a s).waits.length (D.lives.count.put a s).cells)[a.toNat]? = some c ∧ _
  have hlt := (List.getElem?_eq_some_iff.1 hc).1
  unfold Dev.put
  have hc' : D.lives.count.cells[a.toNat]? = some c := hc
  rw [hc']
  simp only
  cases hd : decide (c.drop > 0) with
  | true =>
    have hd := of_decide_eq_true hd
    show ∃ c1, (crashC D.waits [true] D.waits.length (D.cells.set a.toNat { c with drop := IntKind.i64.wrap (c.drop - 1) }))[a.toNat]? = some c1 ∧ _
    rw [h.waits]
    refine ⟨_, List.getElem?_set_self hlt, .inr ?_⟩
    have hw : IntKind.i64.wrap (c.drop - 1) = c.drop - 1 := wrap64 _ (by omega) (by omega)
    show 0 ≤ IntKind.i64.wrap (c.drop - 1) ∧ IntKind.i64.wrap (c.drop - 1) ≤ 1000 ∧ (IntKind.i64.wrap (c.drop - 1)).toNat + c.miss.length + 1 ≤ k
    rw [hw]; omega
  | false =>
    have hd := of_decide_eq_false hd
    cases hm : c.miss with
    | nil =>
      show ∃ c1, (crashC (D.waits ++ [(⟨a, s⟩ : Wr)]) [true] (D.waits ++ [(⟨a, s⟩ : Wr)]).length D.cells)[a.toNat]? = some c1 ∧ _
      rw [h.waits]
      show ∃ c1, (doneL D.cells ⟨a, s⟩)[a.toNat]? = some c1 ∧ _
      rw [doneL_some (x := ⟨a, s⟩) hc]
      exact ⟨_, List.getElem?_set_self hlt, .inl ⟨rfl, rfl⟩⟩
    | cons t r =>
      show ∃ c1, (crashC (D.waits ++ [(⟨t, s⟩ : Wr)]) [true] (D.waits ++ [(⟨t, s⟩ : Wr)]).length (D.cells.set a.toNat { c with miss := r }))[a.toNat]? = some c1 ∧ _
      rw [h.waits]
      show ∃ c1, (doneL (D.cells.set a.toNat { c with miss := r }) ⟨t, s⟩)[a.toNat]? = some c1 ∧ _
      have hin := h.ok.mt c (List.mem_of_getElem? hc) t (by rw [hm]; simp)
      obtain ⟨c2, hc2⟩ : ∃ c2, (D.cells.set a.toNat { c with miss := r })[t.toNat]? = some c2 := ⟨_, List.getElem?_eq_getElem (by rw [List.length_set]; omega)⟩
      rw [doneL_some (x := ⟨t, s⟩) hc2]
      by_cases e : t.toNat = a.toNat
      · refine ⟨{ c2 with s := s, lost := false }, ?_, .inl ⟨rfl, rfl⟩⟩
        show ((D.cells.set a.toNat { c with miss := r }).set t.toNat { c2 with s := s, lost := false })[a.toNat]? = _
        rw [e]; exact List.getElem?_set_self (by rw [List.length_set]; exact hlt)
      · refine ⟨{ c with miss := r }, ?_, .inr ⟨d0, d1, ?_⟩⟩
        · show ((D.cells.set a.toNat { c with miss := r }).set t.toNat { c2 with s := s, lost := false })[a.toNat]? = _
          rw [List.getElem?_set_ne e]; exact List.getElem?_set_self hlt
        · show c.drop.toNat + r.length + 1 ≤ k
          rw [hm, List.length_cons] at hk; omega

theorem hhas_at {E : Dev} {a : Int} {s : Bytes} (hd : E.dead = false) (hw : E.waits = []) (hh : E.has a = true) {c : Cell} (hc : E.cells[a.toNat]? = some c) : E.hhas a s = ((!c.lost && (c.s == s), 0), E.count) := by
  have hr : E.readAt a = match c.lost with | true => (20, []) | false => (0, c.s) := by
    rw [readAt_eq]; unfold readIn; rw [hw, hc]; rfl
  have e : E.read a = (((E.readAt a).2, (E.readAt a).1), E.count) := by unfold Dev.read; rw [hd, hh]
  unfold Dev.hhas
  rw [e, hr]
  cases c.lost with
  | true => rfl
  | false => rfl

theorem few_once {D : Dev} {a : Int} {k b : Nat} (h : Few D a k b) (h0 : 0 ≤ a) (h1 : a ≤ 7) {s : Bytes} (hs : s.length = 256) :
    (D.once a s).1.2 = 0 ∧ (((D.once a s).1.1 = true ∧ Fine (D.once a s).2 a s (b + 1)) ∨ ((D.once a s).1.1 = false ∧ ∃ k', k = k' + 1 ∧ Few (D.once a s).2 a k' (b + 1))) := by
  obtain ⟨g1, g2, ok, dead, armed, waits, len, c, hc, hcase⟩ := few_put h h0 h1 hs
  have e : D.once a s = (D.write a s).2.flush.2.hhas a s := by unfold Dev.once; rw [g1, g2]; rfl
  rw [e]
  generalize (D.write a s).2.flush.2 = E at ok dead armed waits len hc
  rw [hhas_at dead waits (has8 len h0 h1) hc]
  refine ⟨rfl, ?_⟩
  show ((!c.lost && (c.s == s)) = true ∧ _) ∨ ((!c.lost && (c.s == s)) = false ∧ _)
  cases hb : (!c.lost && (c.s == s)) with
  | true =>
    rw [Bool.and_eq_true] at hb
    exact .inl ⟨rfl, ok.count, dead, waits, len, c, hc, by simpa using hb.2, by simpa using hb.1⟩
  | false =>
    refine .inr ⟨rfl, ?_⟩
    rcases hcase with ⟨e1, e2⟩ | ⟨e1, e2, e3⟩
    · rw [e1, e2] at hb; simp at hb
    · exact ⟨k - 1, by omega, ok.count, dead, armed, waits, len, c, hc, e1, e2, by omega⟩

theorem few_tryK {a : Int} (h0 : 0 ≤ a) (h1 : a ≤ 7) {s : Bytes} (hs : s.length = 256) : ∀ (n : Nat) {D : Dev} {k b : Nat}, Few D a k b → k < n → (Dev.tryK n D a s).1 = 0 ∧ ∃ b', b' ≤ b + n ∧ Fine (Dev.tryK n D a s).2 a s b'
  | 0, D, k, b, h, hk => by omega
  | n + 1, D, k, b, h, hk => by
    obtain ⟨g1, g2⟩ := few_once h h0 h1 hs
    unfold Dev.tryK
    rw [g1]
    rcases g2 with ⟨g2, g3⟩ | ⟨g2, k', rfl, g3⟩
    · rw [g2]; exact ⟨rfl, b + 1, by omega, g3⟩
    · rw [g2]
      obtain ⟨f1, b', f2, f3⟩ := few_tryK h0 h1 hs n g3 (by omega)
      exact ⟨f1, b', by omega, f3⟩
end Go.Proofs.Ytolefphdldmlkaa.AL

/- The law KeepPuts, walked. -/
namespace Go.Proofs.Ytolefphdldmlkaa.AL
open Go Go.Proofs

theorem ix_get {l : List Int} {i : Nat} {c : Int} (h : l[i]? = some c) : (ix l)[i]? = some [.raw (.int .i64 c)] := by rw [ix, List.getElem?_map, h]; rfl
theorem ix_len2 (l : List Int) : (ix l).length = l.length := by simp [ix]

set_option maxRecDepth 8000 in
set_option maxHeartbeats 1000000 in
theorem keep_puts (a : Int) (v : UInt8) (drop : Int) (miss : List Int) : AF Try.prog f_law09_KeepPuts [i64 a, .p (u8 v), i64 drop, .p (.sl 1 (ix miss))] [] (Pure (bl true) []) := by
  refine af_body hT F_law09_KeepPuts rfl rfl N_law09_KeepPuts rfl ?_
  refine aw_seq (aw_region hT ?_)
  refine aw_seq (aw_region hT ?_)
  refine callP law09_awake ?_
  refine aw_cut ⟨⟨97, [(0, i64 a), (1, .p (u8 v)), (2, i64 drop), (3, .p (.sl 1 (ix miss)))]⟩, []⟩ (0 ≤ a ∧ a ≤ 7 ∧ 0 ≤ drop ∧ miss.length ≤ 3 ∧ drop + (miss.length : Int) ≤ 3) (aw_seq (aw_region hT ?_)) ?_
  · refine boolI (fun h => ?_) (fun h => ?_)
    · refine aw_cond ?_
      refine aw_seq (aw_region hT ?_)
      refine aw_ret ?_
      exact retPick [] ⟨rfl, rfl⟩ rfl
    refine boolI (fun h2 => ?_) (fun h2 => ?_)
    · refine aw_cond ?_
      refine aw_seq (aw_region hT ?_)
      refine aw_ret ?_
      exact retPick [] ⟨rfl, rfl⟩ rfl
    refine boolI (fun h3 => ?_) (fun h3 => ?_)
    · refine aw_cond ?_
      refine aw_seq (aw_region hT ?_)
      refine aw_ret ?_
      exact retPick [] ⟨rfl, rfl⟩ rfl
    refine boolI (fun h4 => ?_) (fun h4 => ?_)
    · refine aw_cond ?_
      refine aw_seq (aw_region hT ?_)
      refine aw_ret ?_
      exact retPick [] ⟨rfl, rfl⟩ rfl
    refine aw_cond (boolI (fun h5 => ?_) (fun h5 => ?_))
    · refine aw_seq (aw_region hT ?_)
      refine aw_ret ?_
      exact retPick [] ⟨rfl, rfl⟩ rfl
    · have h := of_decide_eq_false (show decide (a < 0) = false from h)
      have h2 := of_decide_eq_false (show decide (a > 7) = false from h2)
      have h3 := of_decide_eq_false (show decide (drop < 0) = false from h3)
      have h4 := of_decide_eq_false (show decide (((ix miss).length : Int) > 3) = false from h4)
      rw [ix_len2] at h4
      have h5 : decide (drop > IntKind.i64.wrap (3 - ((ix miss).length : Int))) = false := h5
      have h5 := of_decide_eq_false h5
      rw [ix_len2, wrap64 _ (by omega) (by omega)] at h5
      exact aw_skip ⟨wk_pick [] [0, 1, 2, 3] rfl, by omega, by omega, by omega, by omega, by omega⟩
  rintro ⟨a0, a1, d0, m3, dm⟩
  have n1 := disk_New 8 (by omega) (by omega)
  have q1 := wrong_new a0 a1
  generalize Dev.new 8 = D0 at n1 q1
  refine aw_seq (aw_region hT ?_)
  refine callP n1 ?_
  refine aw_cut2 (fun s1 => ∃ D, Wrong D a drop 0 1 ∧ s1 = ⟨⟨97, [(0, i64 a), (1, .p (u8 v)), (3, .p (.sl 1 (ix miss))), (10, .ref 0 0)]⟩, devH D⟩) (aw_seq (aw_region hT ?_)) ?_
  · refine aw_cond (boolI (fun h => ?_) (fun h => ?_))
    · have h := of_decide_eq_true (show decide (drop > 0) = true from h)
      have w := disk_Fault D0 ⟨4, a, 0, drop, 0, 0, 0, 0, 0⟩ 0 q1.ok (by omega)
      have q2 := wrong_drop q1 a0 a1 h (by omega)
      refine aw_region hT ?_
      refine callP (af_in [0, 1, 2] w rfl rfl rfl) ?_
      exact ⟨_, wk_pick [0, 1, 2] [0, 1, 3, 10] rfl, _, q2, rfl⟩
    · have h := of_decide_eq_false (show decide (drop > 0) = false from h)
      have hz : drop = 0 := by omega
      refine aw_skip ?_
      refine ⟨_, wk_pick [0, 1, 2] [0, 1, 3, 10] rfl, D0, ?_, rfl⟩
      rw [hz]
      exact ⟨q1.ok.mono (by omega), q1.dead, q1.armed, q1.waits, q1.len, q1.cell⟩
  rintro _ ⟨D1, q2, rfl⟩
  refine aw_cut2 (fun s1 => ∃ D, Wrong D a drop miss.length 10 ∧ s1 = ⟨⟨97, [(0, i64 a), (1, .p (u8 v)), (10, .ref 0 0)]⟩, devH D⟩) (aw_seq (aw_region hT ?_)) ?_
  · refine aw_block ?_
    refine aw_loopW (fun n s => ∃ (i : Nat) (j : Int) (D : Dev), n + i = miss.length ∧ j = i ∧ Wrong D a drop i (1 + i) ∧ s = ⟨⟨97, [(0, i64 a), (1, .p (u8 v)), (3, .p (.sl 1 (ix miss))), (10, .ref 0 0), (12, i64 j)]⟩, devH D⟩) miss.length ⟨⟨97, _⟩, [_, _, _]⟩ (wk_pick [0, 1, 2] [0, 1, 3, 10, 12] rfl) ⟨0, 0, D1, rfl, rfl, q2, rfl⟩ ?_
    rintro n s ⟨i, j, D, hni, rfl, hD, rfl⟩
    refine aw_seq (aw_seq (aw_region hT ?_))
    refine aw_cond (boolI (fun h => ?_) (fun h => ?_))
    · have hi : i < miss.length := by
        have := of_decide_eq_true (show decide ((i : Int) < ((ix miss).length : Int)) = true from h)
        rw [ix_len2] at this; omega
      have hx := List.getElem?_eq_getElem hi
      generalize miss[i] = t at hx
      have hxp : (ix miss)[((i : Nat) : Int).toNat]? = some [.raw (.int .i64 t)] := by rw [Int.toNat_natCast]; exact ix_get hx
      have w := disk_Fault D ⟨5, a, 0, 0, t, 0, 0, 0, 0⟩ (1 + i) hD.ok (by omega)
      have q := wrong_miss hD a0 a1 t
      generalize D.fault ⟨5, a, 0, 0, t, 0, 0, 0, 0⟩ = Y at w q
      obtain ⟨y, E⟩ := Y
      refine aw_skip ?_
      refine aw_cut ⟨⟨97, [(0, i64 a), (1, .p (u8 v)), (3, .p (.sl 1 (ix miss))), (10, .ref 0 0), (12, i64 i)]⟩, devH E⟩ True (aw_block (aw_region hT ?_)) (fun _ => ?_)
      · refine ⟨Int.natCast_nonneg _, optI hxp ?_⟩
        refine callP (af_in [0, 1, 2] w rfl rfl rfl) ?_
        exact ⟨wk_pick [0, 1, 2] [0, 1, 3, 10, 12] rfl, trivial⟩
      · refine aw_region hT ?_
        refine ⟨n - 1, by omega, _, wk_pick [0, 1, 2] [0, 1, 3, 10, 12] rfl, i + 1, IntKind.i64.wrap ((i : Int) + 1), E, by omega, ?_, q, rfl⟩
        rw [wrap64 _ (by omega) (by omega)]; rfl
    · have hi : i = miss.length := by
        have : ¬ (i : Int) < ((ix miss).length : Int) := of_decide_eq_false h
        rw [ix_len2] at this; omega
      refine aw_exit ?_
      subst hi
      exact ⟨_, wk_pick [0, 1, 2] [0, 1, 10] rfl, D, ⟨hD.ok.mono (by omega), hD.dead, hD.armed, hD.waits, hD.len, hD.cell⟩, rfl⟩
  rintro _ ⟨D, q3, rfl⟩
  have few : Few D a 3 10 := ⟨q3.ok, q3.dead, q3.armed, q3.waits, q3.len, let ⟨c, h1, h2, h3⟩ := q3.cell; ⟨c, h1, by omega, by omega, by omega⟩⟩
  have w := keep_One D a (sect v) 10 few.ok (by omega)
  obtain ⟨g1, b', g2, g3⟩ := few_tryK a0 a1 (sect_len v) 4 few (by omega)
  replace g1 : (D.one a (sect v)).1 = 0 := g1
  replace g3 : Fine (D.one a (sect v)).2 a (sect v) b' := g3
  have sv := law06_Sector v
  have hsv := sect_len v
  generalize sect v = s at w g1 g3 sv hsv
  rw [g1] at w
  generalize (D.one a s).2 = E at w g3
  have bigE := g3.ok.big (show b' ≤ 1000000 by omega)
  have wc := disk_Crash E [] bigE.1 bigE.2.1
  have hcells : (E.crashed []).cells = E.cells := by
    show crashC E.waits [] E.waits.length E.cells = E.cells
    rw [g3.waits]; rfl
  have okC := g3.ok.crashed []
  obtain ⟨c, hc, cs, cl⟩ := g3.cell
  have hh : (E.crashed []).has a = true := by unfold Dev.has; rw [hcells]; exact has8 g3.len a0 a1
  have hr : (E.crashed []).readAt a = (0, s) := by
    rw [readAt_eq]; unfold readIn; rw [hcells, hc]
    show (match c.lost with | true => (20, []) | false => (0, c.s)) = ((0 : Int), s)
    rw [cl, cs]
  have er : (E.crashed []).read a = ((s, 0), (E.crashed []).count) := by
    unfold Dev.read; rw [hh, hr]; rfl
  generalize E.crashed [] = F at wc okC er
  have bigF := okC.big (show b' ≤ 1000000 by omega)
  have rd := disk_Read F a bigF.2.1 bigF.2.2.1 bigF.2.2.2
  rw [er] at rd
  generalize F.count = G at rd
  refine aw_cut ⟨⟨97, [(0, i64 a), (1, .p (u8 v)), (10, .ref 0 0), (13, i64 0)]⟩, devH E⟩ True (aw_region hT ?_) (fun _ => ?_)
  · refine callP (af_at sv _ rfl rfl) ?_
    refine callP (af_in [0, 1, 2] w rfl rfl rfl) ?_
    exact ⟨wk_pick [0, 3, 4] [0, 1, 10, 13] rfl, trivial⟩
  refine aw_cut ⟨⟨97, [(0, i64 a), (1, .p (u8 v)), (10, .ref 0 0), (13, i64 0)]⟩, devH F⟩ True (aw_region hT ?_) (fun _ => ?_)
  · refine callP (af_args (af_in (args := [.ref 0 0, .p (.sl 1 (kx []))]) [0, 1, 2] wc rfl rfl rfl) ⟨.inl rfl, .inr ⟨rfl, 1, rfl⟩, trivial⟩) ?_
    exact ⟨wk_pick [0, 3, 4] [0, 1, 10, 13] rfl, trivial⟩
  refine aw_cut ⟨⟨97, [(1, .p (u8 v)), (13, i64 0), (14, bA s), (15, i64 0)]⟩, []⟩ True (aw_region hT ?_) (fun _ => ?_)
  · refine callP (af_in [0, 1, 2] rd rfl rfl rfl) ?_
    exact ⟨wk_pick [] [1, 13, 14, 15] rfl, trivial⟩
  have sm := ref04_Same s s (by omega)
  rw [beq_self_eq_true] at sm
  refine aw_seq (aw_region hT ?_)
  refine callP (af_at sv _ rfl rfl) ?_
  refine callP (af_at sm _ rfl rfl) ?_
  refine aw_seq (aw_region hT ?_)
  refine aw_ret ?_
  exact retPick [] ⟨rfl, rfl⟩ rfl
end Go.Proofs.Ytolefphdldmlkaa.AL
