/- The layer 08 (geo), its functions, first part. -/
import Derived.Test.YtdncagppilehgaaALTab
import Derived.Test.YtdncagppilehgaaALs
import Derived.Test.YtdncagppilehgaaALw
namespace Go.Proofs.Ytdncagppilehgaa.AL
open Go Go.Proofs

structure G where
  wal : Int
  st : Int
  k : Int
  m : Int
  deriving DecidableEq

abbrev G.av (g : G) : AV := .agg [i64 g.wal, i64 g.st, i64 g.k, i64 g.m]
def inR (a b c : Int) : Bool := decide (a ≥ b) && decide (a ≤ c)
def gOk (g : G) : Bool := ((inR g.wal 8 512 && inR g.st 1 32) && inR g.k 1 16) && inR g.m 1 8
def logd (g : G) : Int := 4 + 2 * g.wal
def wid (g : G) : Int := g.k + g.m
def sec (g : G) : Int := logd g + 2 * g.st * wid g
def gMay (g : G) : Bool := gOk g && decide (sec g ≤ 4096)

structure GB (g : G) : Prop where
  w1 : 8 ≤ g.wal
  w2 : g.wal ≤ 512
  s1 : 1 ≤ g.st
  s2 : g.st ≤ 32
  k1 : 1 ≤ g.k
  k2 : g.k ≤ 16
  m1 : 1 ≤ g.m
  m2 : g.m ≤ 8

theorem gOk_iff {g : G} : gOk g = true ↔ GB g := by
  simp only [gOk, inR, Bool.and_eq_true, decide_eq_true_eq]
  constructor
  · rintro ⟨⟨⟨⟨a, b⟩, c, d⟩, e, f⟩, h, i⟩; exact ⟨a, b, c, d, e, f, h, i⟩
  · rintro ⟨a, b, c, d, e, f, h, i⟩; exact ⟨⟨⟨⟨a, b⟩, c, d⟩, e, f⟩, h, i⟩

theorem gMay_iff {g : G} : gMay g = true ↔ GB g ∧ sec g ≤ 4096 := by rw [gMay, Bool.and_eq_true, gOk_iff, decide_eq_true_eq]

theorem wrap64 (n : Int) (h0 : -9223372036854775808 ≤ n) (h : n ≤ 9223372036854775807) : IntKind.i64.wrap n = n := by
  rw [IntKind.wrap_i64]; omega

theorem prod_bd {a b x y : Int} (ha : 0 ≤ a) (hb : 0 ≤ b) (hx : a ≤ x) (hy : b ≤ y) : 0 ≤ a * b ∧ a * b ≤ x * y :=
  ⟨Int.mul_nonneg ha hb, Int.mul_le_mul hx hy hb (by omega)⟩

theorem geo_in (a b c : Int) : AF Try.prog 40 [i64 a, i64 b, i64 c] [] (Pure (bl (inR a b c)) []) := by
  refine af_body hT Try.func40 rfl rfl Try.ntmps40 rfl ?_
  refine aw_seq (aw_region hT ?_)
  refine aw_seq (aw_region hT ?_)
  refine boolI (fun h => ?_) (fun h => ?_)
  · refine aw_ret ?_
    refine retPick [] ⟨?_, rfl⟩ rfl
    rw [inR, h]; rfl
  · refine aw_ret ?_
    refine retPick [] ⟨?_, rfl⟩ rfl
    rw [inR, h]; rfl

theorem geo_logged {g : G} (h : GB g) : AF Try.prog 47 [g.av] [] (Pure (i64 (logd g)) []) := by
  obtain ⟨w1, w2, s1, s2, k1, k2, m1, m2⟩ := h
  refine af_body hT Try.func47 rfl rfl Try.ntmps47 rfl ?_
  refine aw_seq (aw_region hT ?_)
  refine aw_seq (aw_region hT ?_)
  refine aw_ret ?_
  refine retPick [] ⟨?_, rfl⟩ rfl
  show i64 (IntKind.i64.wrap (4 + IntKind.i64.wrap (2 * g.wal))) = _
  rw [wrap64 (2 * g.wal) (by omega) (by omega), wrap64 _ (by omega) (by omega)]; rfl

theorem geo_wide {g : G} (h : GB g) : AF Try.prog 48 [g.av] [] (Pure (i64 (wid g)) []) := by
  obtain ⟨w1, w2, s1, s2, k1, k2, m1, m2⟩ := h
  refine af_body hT Try.func48 rfl rfl Try.ntmps48 rfl ?_
  refine aw_seq (aw_region hT ?_)
  refine aw_seq (aw_region hT ?_)
  refine aw_ret ?_
  refine retPick [] ⟨?_, rfl⟩ rfl
  show i64 (IntKind.i64.wrap (g.k + g.m)) = _
  rw [wrap64 _ (by omega) (by omega)]; rfl

theorem wid_bd {g : G} (h : GB g) : 2 ≤ wid g ∧ wid g ≤ 24 := by
  obtain ⟨w1, w2, s1, s2, k1, k2, m1, m2⟩ := h
  unfold wid; omega

theorem stw_bd {g : G} (h : GB g) : 0 ≤ 2 * g.st * wid g ∧ 2 * g.st * wid g ≤ 64 * 24 := by
  have := wid_bd h
  obtain ⟨w1, w2, s1, s2, k1, k2, m1, m2⟩ := h
  exact prod_bd (by omega) (by omega) (by omega) (by omega)

theorem geo_sectors {g : G} (h : GB g) : AF Try.prog 41 [g.av] [] (Pure (i64 (sec g)) []) := by
  have hw := wid_bd h
  have hs := stw_bd h
  have hc := geo_logged h
  have hc2 := geo_wide h
  obtain ⟨w1, w2, s1, s2, k1, k2, m1, m2⟩ := h
  refine af_body hT Try.func41 rfl rfl Try.ntmps41 rfl ?_
  refine aw_seq (aw_region hT ?_)
  refine aw_seq (aw_quiet hT follows_mixed (by rfl) ?_)
  refine ⟨_, af_at hc _ rfl rfl, ?_⟩
  refine ⟨_, af_at hc2 _ rfl rfl, ?_⟩
  refine aw_ret ?_
  refine retPick [] ⟨?_, rfl⟩ rfl
  show i64 (IntKind.i64.wrap (logd g + IntKind.i64.wrap (IntKind.i64.wrap (2 * g.st) * wid g))) = _
  rw [wrap64 (2 * g.st) (by omega) (by omega), wrap64 (2 * g.st * wid g) (by omega) (by omega), wrap64 _ (by unfold logd; omega) (by unfold logd; omega)]; rfl

theorem geo_may (g : G) : AF Try.prog 21 [g.av] [] (Pure (bl (gMay g)) []) := by
  refine af_body hT Try.func21 rfl rfl Try.ntmps21 rfl ?_
  refine aw_seq (aw_region hT ?_)
  refine aw_cut ⟨⟨28, [(1, .ref 0 0), (3, bl (gOk g))]⟩, [.cells 38 [i64 g.wal, i64 g.st, i64 g.k, i64 g.m]]⟩ True (aw_region hT ?_) (fun _ => ?_)
  · refine callP (af_at (geo_in _ _ _) _ rfl rfl) ?_
    refine boolI (fun h1 => ?_) (fun h1 => ?_)
    · refine callP (af_at (geo_in _ _ _) _ rfl rfl) ?_
      refine boolI (fun h2 => ?_) (fun h2 => ?_)
      · have h2 : inR g.st 1 32 = true := h2
        refine callP (af_at (geo_in _ _ _) _ rfl rfl) ?_
        refine boolI (fun h3 => ?_) (fun h3 => ?_)
        · have h3 : inR g.k 1 16 = true := h3
          refine callP (af_at (geo_in _ _ _) _ rfl rfl) ?_
          have e : gOk g = inR g.m 1 8 := by rw [gOk, h1, h2, h3]; rfl
          rw [e]
          exact ⟨wk_pick [0] [1, 3] rfl, trivial⟩
        · have h3 : inR g.k 1 16 = false := h3
          have e : gOk g = false := by rw [gOk, h3]; simp
          rw [e]
          exact ⟨wk_pick [0] [1, 3] rfl, trivial⟩
      · have h2 : inR g.st 1 32 = false := h2
        have e : gOk g = false := by rw [gOk, h2]; simp
        rw [e]
        exact ⟨wk_pick [0] [1, 3] rfl, trivial⟩
    · have e : gOk g = false := by rw [gOk, h1]; rfl
      rw [e]
      exact ⟨wk_pick [0] [1, 3] rfl, trivial⟩
  · refine aw_seq (aw_region hT ?_)
    refine boolI (fun h1 => ?_) (fun h1 => ?_)
    · refine callP (af_at (geo_sectors (gOk_iff.1 h1)) _ rfl rfl) ?_
      refine aw_ret ?_
      refine retPick [] ⟨?_, rfl⟩ rfl
      rw [gMay, h1]; rfl
    · refine aw_ret ?_
      refine retPick [] ⟨?_, rfl⟩ rfl
      rw [gMay, h1]; rfl

def orZ (b : Bool) (n : Int) : Int := match b with | true => n | false => 0

theorem geo_of (g : G) (fn : Nat) (v : Int) (h : gMay g = true → AF Try.prog fn [g.av] [] (Pure (i64 v) [])) : AF Try.prog 42 [g.av, .clo (.func fn) []] [] (Pure (i64 (orZ (gMay g) v)) []) := by
  refine af_body hT Try.func42 rfl rfl Try.ntmps42 rfl ?_
  refine aw_seq (aw_region hT ?_)
  refine aw_seq (aw_seq (aw_region hT ?_))
  refine callP (af_at (geo_may g) _ rfl rfl) ?_
  refine aw_cond (boolI (fun h1 => ?_) (fun h1 => ?_))
  · refine aw_seq (aw_region hT ?_)
    refine aw_ret ?_
    refine retPick [] ⟨?_, rfl⟩ rfl
    have h1 : gMay g = false := by simpa using h1
    rw [h1]; rfl
  · have h1 : gMay g = true := by simpa using h1
    refine aw_skip ?_
    refine aw_seq (aw_region hT ?_)
    refine callP (af_at (h h1) _ rfl rfl) ?_
    refine aw_ret ?_
    refine retPick [] ⟨?_, rfl⟩ rfl
    rw [h1]; rfl

def grp (g : G) : Int := 1 + g.wal + 2 * g.st
def room (g : G) : Int := g.st * g.k * 228

theorem geo_Sectors (g : G) : AF Try.prog 22 [g.av] [] (Pure (i64 (orZ (gMay g) (sec g))) []) := by
  refine af_body hT Try.func22 rfl rfl Try.ntmps22 rfl ?_
  refine aw_seq (aw_region hT ?_)
  refine aw_seq (aw_region hT ?_)
  refine callP (af_at (geo_of g 41 (sec g) (fun h => geo_sectors (gMay_iff.1 h).1)) _ rfl rfl) ?_
  refine aw_ret ?_
  exact retPick [] ⟨rfl, rfl⟩ rfl

theorem geo_groups1 {g : G} (h : GB g) : AF Try.prog 43 [g.av] [] (Pure (i64 (grp g)) []) := by
  obtain ⟨w1, w2, s1, s2, k1, k2, m1, m2⟩ := h
  refine af_body hT Try.func43 rfl rfl Try.ntmps43 rfl ?_
  refine aw_seq (aw_region hT ?_)
  refine aw_seq (aw_region hT ?_)
  refine aw_ret ?_
  refine retPick [] ⟨?_, rfl⟩ rfl
  show i64 (IntKind.i64.wrap (IntKind.i64.wrap (1 + g.wal) + IntKind.i64.wrap (2 * g.st))) = _
  rw [wrap64 (1 + g.wal) (by omega) (by omega), wrap64 (2 * g.st) (by omega) (by omega), wrap64 _ (by omega) (by omega)]; rfl

theorem geo_Groups (g : G) : AF Try.prog 23 [g.av] [] (Pure (i64 (orZ (gMay g) (grp g))) []) := by
  refine af_body hT Try.func23 rfl rfl Try.ntmps23 rfl ?_
  refine aw_seq (aw_region hT ?_)
  refine aw_seq (aw_region hT ?_)
  refine callP (af_at (geo_of g 43 (grp g) (fun h => geo_groups1 (gMay_iff.1 h).1)) _ rfl rfl) ?_
  refine aw_ret ?_
  exact retPick [] ⟨rfl, rfl⟩ rfl

theorem geo_room1 {g : G} (h : GB g) : AF Try.prog 50 [g.av] [] (Pure (i64 (room g)) []) := by
  obtain ⟨w1, w2, s1, s2, k1, k2, m1, m2⟩ := h
  have hb := prod_bd (a := g.st) (b := g.k) (by omega) (by omega) s2 k2
  refine af_body hT Try.func50 rfl rfl Try.ntmps50 rfl ?_
  refine aw_seq (aw_region hT ?_)
  refine aw_seq (aw_region hT ?_)
  refine aw_ret ?_
  refine retPick [] ⟨?_, rfl⟩ rfl
  show i64 (IntKind.i64.wrap (IntKind.i64.wrap (g.st * g.k) * 228)) = _
  rw [wrap64 (g.st * g.k) (by omega) (by omega), wrap64 _ (by omega) (by omega)]; rfl

theorem geo_Room (g : G) : AF Try.prog 32 [g.av] [] (Pure (i64 (orZ (gMay g) (room g))) []) := by
  refine af_body hT Try.func32 rfl rfl Try.ntmps32 rfl ?_
  refine aw_seq (aw_region hT ?_)
  refine aw_seq (aw_region hT ?_)
  refine callP (af_at (geo_of g 50 (room g) (fun h => geo_room1 (gMay_iff.1 h).1)) _ rfl rfl) ?_
  refine aw_ret ?_
  exact retPick [] ⟨rfl, rfl⟩ rfl
end Go.Proofs.Ytdncagppilehgaa.AL
