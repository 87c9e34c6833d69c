/- The law of layer 06: its examples hold. -/
import Derived.Test.YtolefphdldmlkaaBDp
namespace Go.Proofs.Ytolefphdldmlkaa.AL
open Go Go.Proofs

def aw1 : Dev := Dev.new 2
def aw2 : Dev := (aw1.write 0 (sect 1)).2
def aw3 : Dev := (aw2.read 0).2
def aw4 : Dev := aw3.crashed []
def aw5 : Dev := (aw4.read 0).2
def aw6 : Dev := (aw5.fault ⟨4, 0, 0, 1, 0, 0, 0, 0, 0⟩).2
def aw7 : Dev := (aw6.write 0 (sect 2)).2
def aw8 : Dev := (aw7.read 0).2
def aw9 : Dev := (aw8.write 0 (sect 2)).2
theorem aw_f : (aw1.write 0 (sect 1)).1 = 0 := by decide +kernel
theorem aw_a : aw2.holds 0 1 = true := by decide +kernel
theorem aw_b : aw4.holds 0 0 = true := by decide +kernel
theorem aw_g : (aw5.fault ⟨4, 0, 0, 1, 0, 0, 0, 0, 0⟩).1 = 0 := by decide +kernel
theorem aw_c : aw7.holds 0 0 = true := by decide +kernel
theorem aw_d : aw9.holds 0 2 = true := by decide +kernel
theorem aw_n : (aw9.read 0).2.cells.length = 2 := by decide +kernel

set_option maxRecDepth 8000 in
theorem awake_of (D1 D2 D3 D4 D5 D6 D7 D8 D9 D10 : Dev) (s1 s2 : Bytes) (e1 : Dev.new 2 = D1) (q1 : sect 1 = s1) (q2 : sect 2 = s2)
    (e2 : (D1.write 0 s1).2 = D2) (e3 : (D2.read 0).2 = D3) (e4 : D3.crashed [] = D4) (e5 : (D4.read 0).2 = D5) (e6 : (D5.fault ⟨4, 0, 0, 1, 0, 0, 0, 0, 0⟩).2 = D6) (e7 : (D6.write 0 s2).2 = D7)
    (e8 : (D7.read 0).2 = D8) (e9 : (D8.write 0 s2).2 = D9) (e10 : (D9.read 0).2 = D10)
    (f : (D1.write 0 s1).1 = 0) (a : D2.holds 0 1 = true) (b : D4.holds 0 0 = true) (g : (D5.fault ⟨4, 0, 0, 1, 0, 0, 0, 0, 0⟩).1 = 0) (c : D7.holds 0 0 = true) (d : D9.holds 0 2 = true) (l : D10.cells.length = 2) :
    AF Try.prog f_law06_awake [] [] (Pure (bl true) []) := by
  have o1 : D1.Ok 1 := e1 ▸ ok_new 2 1
  have o2 : D2.Ok 2 := e2 ▸ o1.write 0 _
  have o3 : D3.Ok 2 := e3 ▸ o2.read 0
  have o4 : D4.Ok 2 := e4 ▸ o3.crashed []
  have o5 : D5.Ok 2 := e5 ▸ o4.read 0
  have o6 : D6.Ok 3 := e6 ▸ o5.fault _
  have o7 : D7.Ok 4 := e7 ▸ o6.write 0 _
  have o8 : D8.Ok 4 := e8 ▸ o7.read 0
  have o9 : D9.Ok 5 := e9 ▸ o8.write 0 _
  have y1 := law06_Sector 1
  have y2 := law06_Sector 2
  have n1 := disk_New 2 (by omega) (by omega)
  rw [q1] at y1
  rw [q2] at y2
  rw [e1] at n1
  refine af_body hT F_law06_awake rfl rfl N_law06_awake rfl ?_
  refine aw_seq (aw_region hT ?_)
  refine aw_cut ⟨⟨60, [(1, .ref 0 0), (2, i64 0)]⟩, devH D1⟩ True (aw_region hT ?_) (fun _ => ?_)
  · refine callP n1 ?_
    exact ⟨wk_pick [0, 1, 2] [1, 2] rfl, trivial⟩
  refine aw_cut ⟨⟨60, [(1, .ref 0 0), (2, i64 0), (3, i64 0)]⟩, devH D2⟩ True (aw_region hT ?_) (fun _ => ?_)
  · refine callP (af_at y1 _ rfl rfl) ?_
    have w := disk_Write D1 0 s1 (by have := o1.wl; omega)
    rw [f, e2] at w
    refine callP (af_in [0, 1, 2] w rfl rfl rfl) ?_
    exact ⟨wk_pick [0, 3, 4] [1, 2, 3] rfl, trivial⟩
  refine aw_cut ⟨⟨60, [(1, .ref 0 0), (2, i64 0), (3, i64 0), (4, bl true)]⟩, devH D3⟩ True (aw_region hT ?_) (fun _ => ?_)
  · have w := law06_has D2 0 1 _ o2 (by omega)
    rw [a, e3] at w
    refine callP (af_in [0, 1, 2] w rfl rfl rfl) ?_
    exact ⟨wk_pick [0, 1, 2] [1, 2, 3, 4] rfl, trivial⟩
  refine aw_cut ⟨⟨60, [(1, .ref 0 0), (2, i64 0), (3, i64 0), (4, bl true)]⟩, devH D4⟩ True (aw_region hT ?_) (fun _ => ?_)
  · have w := disk_Crash D3 [] (o3.big (by omega)).1 (o3.big (by omega)).2.1
    rw [e4] at w
    refine callP (af_args (af_in (args := [.ref 0 0, .p (.sl 1 (kx []))]) [0, 1, 2] w rfl rfl rfl) ⟨.inl rfl, .inr ⟨rfl, 1, rfl⟩, trivial⟩) ?_
    exact ⟨wk_pick [0, 3, 4] [1, 2, 3, 4] rfl, trivial⟩
  refine aw_cut ⟨⟨60, [(1, .ref 0 0), (2, i64 0), (3, i64 0), (4, bl true), (5, bl true)]⟩, devH D5⟩ True (aw_region hT ?_) (fun _ => ?_)
  · have w := law06_has D4 0 0 _ o4 (by omega)
    rw [b, e5] at w
    refine callP (af_in [0, 1, 2] w rfl rfl rfl) ?_
    exact ⟨wk_pick [0, 1, 2] [1, 2, 3, 4, 5] rfl, trivial⟩
  refine aw_cut ⟨⟨60, [(1, .ref 0 0), (2, i64 0), (3, i64 0), (4, bl true), (5, bl true), (6, i64 0)]⟩, devH D6⟩ True (aw_region hT ?_) (fun _ => ?_)
  · have w := disk_Fault D5 ⟨4, 0, 0, 1, 0, 0, 0, 0, 0⟩ _ o5 (by omega)
    rw [g, e6] at w
    refine callP (af_in [0, 1, 2] w rfl rfl rfl) ?_
    exact ⟨wk_pick [0, 1, 2] [1, 2, 3, 4, 5, 6] rfl, trivial⟩
  refine aw_cut ⟨⟨60, [(1, .ref 0 0), (2, i64 0), (3, i64 0), (4, bl true), (5, bl true), (6, i64 0)]⟩, devH D7⟩ True (aw_region hT ?_) (fun _ => ?_)
  · refine callP (af_at y2 _ rfl rfl) ?_
    have w := disk_Write D6 0 s2 (o6.big (by omega)).2.1
    rw [e7] at w
    refine callP (af_in [0, 1, 2] w rfl rfl rfl) ?_
    exact ⟨wk_pick [0, 3, 4] [1, 2, 3, 4, 5, 6] rfl, trivial⟩
  refine aw_cut ⟨⟨60, [(1, .ref 0 0), (2, i64 0), (3, i64 0), (4, bl true), (5, bl true), (6, i64 0), (7, bl true)]⟩, devH D8⟩ True (aw_region hT ?_) (fun _ => ?_)
  · have w := law06_has D7 0 0 _ o7 (by omega)
    rw [c, e8] at w
    refine callP (af_in [0, 1, 2] w rfl rfl rfl) ?_
    exact ⟨wk_pick [0, 1, 2] [1, 2, 3, 4, 5, 6, 7] rfl, trivial⟩
  refine aw_cut ⟨⟨60, [(1, .ref 0 0), (2, i64 0), (3, i64 0), (4, bl true), (5, bl true), (6, i64 0), (7, bl true)]⟩, devH D9⟩ True (aw_region hT ?_) (fun _ => ?_)
  · refine callP (af_at y2 _ rfl rfl) ?_
    have w := disk_Write D8 0 s2 (o8.big (by omega)).2.1
    rw [e9] at w
    refine callP (af_in [0, 1, 2] w rfl rfl rfl) ?_
    exact ⟨wk_pick [0, 3, 4] [1, 2, 3, 4, 5, 6, 7] rfl, trivial⟩
  refine aw_seq (aw_region hT ?_)
  have w := law06_has D9 0 2 _ o9 (by omega)
  rw [d, e10] at w
  refine callP (af_in [0, 1, 2] w rfl rfl rfl) ?_
  have w := disk_Len D10
  rw [l] at w
  refine callP (af_in [0, 1, 2] w rfl rfl rfl) ?_
  refine aw_ret ?_
  exact retPick [] ⟨rfl, rfl⟩ rfl

theorem law06_awake : AF Try.prog f_law06_awake [] [] (Pure (bl true) []) :=
  awake_of aw1 aw2 aw3 aw4 aw5 aw6 aw7 aw8 aw9 (aw9.read 0).2 (sect 1) (sect 2) rfl rfl rfl rfl rfl rfl rfl rfl rfl rfl rfl rfl aw_f aw_a aw_b aw_g aw_c aw_d aw_n
end Go.Proofs.Ytolefphdldmlkaa.AL
