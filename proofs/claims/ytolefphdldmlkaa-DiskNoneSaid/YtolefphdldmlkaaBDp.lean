/- The law of layer 06: has; its examples. -/
import Derived.Test.YtolefphdldmlkaaBDo
namespace Go.Proofs.Ytolefphdldmlkaa.AL
open Go Go.Proofs

def Dev.holds (D : Dev) (a : Int) (b : UInt8) : Bool := match (D.read a).1.2 == 0 with | true => (D.read a).1.1 == sect b | false => false

theorem read_len {D : Dev} {b : Nat} (h : D.Ok b) (a : Int) : (D.read a).1.1.length ≤ 256 := by
  unfold Dev.read
  split
  · exact Nat.zero_le _
  split
  · exact Nat.zero_le _
  show (D.readAt a).2.length ≤ 256
  unfold Dev.readAt
  split
  · rename_i x hx
    have : ∀ (l : List Wr), lastW (hitA a) l = some x → x ∈ l := by
      intro l
      induction l with
      | nil => intro h; cases h
      | cons y r ih =>
        intro h
        unfold lastW at h
        split at h
        · rename_i z hz
          obtain rfl := Option.some.inj h
          exact List.mem_cons_of_mem _ (ih hz)
        · split at h
          · obtain rfl := Option.some.inj h; simp
          · cases h
    rw [show (0, x.s).2 = x.s from rfl, h.ws x (this _ hx)]
    exact Nat.le_refl _
  · split
    · rename_i c hc
      split
      · exact Nat.zero_le _
      · show c.s.length ≤ 256
        rw [h.cs c (List.mem_of_getElem? hc)]
        exact Nat.le_refl _
    · exact Nat.zero_le _

theorem Dev.Ok.big {D : Dev} {b : Nat} (h : D.Ok b) (hb : b ≤ 1000000) : D.waitsIn ∧ D.waits.length ≤ 1000000 ∧ (∀ x ∈ D.waits, x.s.length ≤ 1000000) ∧ (∀ c ∈ D.cells, c.s.length ≤ 1000000) :=
  ⟨h.at_, Nat.le_trans h.wl hb, fun x hx => by rw [h.ws x hx]; omega, fun c hc => by rw [h.cs c hc]; omega⟩

theorem law06_has (D : Dev) (a : Int) (v : UInt8) (b : Nat) (hD : D.Ok b) (hb : b ≤ 1000000) : AFm Try.prog 3 f_law06_has [.ref 0 0, i64 a, .p (u8 v)] (devH D) (Pure (bl (D.holds a v)) (devH (D.read a).2)) := by
  have big := hD.big hb
  refine af_bodyM 3 hT F_law06_has rfl rfl N_law06_has rfl rfl ?_
  refine aw_seq (aw_region hT ?_)
  refine aw_seq (aw_region hT ?_)
  refine callP (af_in [0, 1, 2] (disk_Read D a big.2.1 big.2.2.1 big.2.2.2) rfl rfl rfl) ?_
  refine aw_seq (aw_region hT ?_)
  refine callP (af_at (law06_Sector v) _ rfl rfl) ?_
  refine callP (af_at (ref04_Same (D.read a).1.1 (sect v) (by have := read_len hD a; omega)) _ rfl rfl) ?_
  refine aw_seq (aw_region hT ?_)
  unfold Dev.holds
  refine boolI (fun h => ?_) (fun h => ?_)
  · have h : ((D.read a).1.2 == 0) = true := h
    refine aw_ret ?_
    rw [h]
    exact retPick [0, 1, 2] ⟨rfl, rfl⟩ rfl
  · have h : ((D.read a).1.2 == 0) = false := h
    refine aw_ret ?_
    rw [h]
    exact retPick [0, 1, 2] ⟨rfl, rfl⟩ rfl
end Go.Proofs.Ytolefphdldmlkaa.AL
