/- The layer 08 (geo), the document's members and places: the plain law. -/
import Derived.Test.YtdncagppilehgaaALGr
namespace Go.Proofs.Ytdncagppilehgaa.AL
open Go Go.Proofs

theorem sorted_eq : ∀ {a b : List Int}, a.Pairwise (· < ·) → b.Pairwise (· < ·) → (∀ x, x ∈ a ↔ x ∈ b) → a = b
  | [], [], _, _, _ => rfl
  | [], y :: b, _, _, h => absurd ((h y).2 (by simp)) (by simp)
  | x :: a, [], _, _, h => absurd ((h x).1 (by simp)) (by simp)
  | x :: a, y :: b, ha, hb, h => by
    rw [List.pairwise_cons] at ha hb
    have hxy : x = y := by
      have h1 := (h x).1 (by simp)
      have h2 := (h y).2 (by simp)
      rw [List.mem_cons] at h1 h2
      rcases h1 with h1 | h1
      · exact h1
      · rcases h2 with h2 | h2
        · exact h2.symm
        · have := hb.1 x h1; have := ha.1 y h2; omega
    subst hxy
    congr 1
    refine sorted_eq ha.2 hb.2 fun z => ?_
    have hz := h z
    rw [List.mem_cons, List.mem_cons] at hz
    constructor
    · intro hm
      rcases hz.1 (.inr hm) with e | e
      · have := ha.1 z hm; omega
      · exact e
    · intro hm
      rcases hz.2 (.inr hm) with e | e
      · have := hb.1 z hm; omega
      · exact e

theorem members_sorted (g : G) (i : Int) : (members g i).Pairwise (· < ·) := by
  have key : ∀ (n : Nat) (f : Nat → Int), (∀ a b, a < b → b < n → f a < f b) → ((List.range n).map f).Pairwise (· < ·) := fun n f hf => by
    rw [List.pairwise_map, List.pairwise_iff_getElem]
    intro a b ha hb hab
    simp at ha hb
    simpa using hf a b hab hb
  cases h : outG g i with
  | true => rw [members, h]; exact List.Pairwise.nil
  | false =>
    obtain ⟨hm, h0, hlt⟩ := outG_may h
    have hB := (gMay_iff.1 hm).1
    have hw := hB.w1
    rw [members, h]
    cases h2 : i == 0 with
    | true => exact key 4 _ (fun a b h1 _ => by omega)
    | false =>
      cases h3 : decide (i ≤ g.wal) with
      | true =>
        refine key 2 _ (fun a b h1 h2 => ?_)
        have : a = 0 ∧ b = 1 := by omega
        obtain ⟨rfl, rfl⟩ := this
        simp; omega
      | false => exact key _ _ (fun a b h1 _ => by omega)

def fil (g : G) (i : Int) (n : Nat) : List Int := ((List.range n).filter fun a => owner g a == i).map fun a : Nat => (a : Int)

theorem fil_sorted (g : G) (i : Int) (n : Nat) : (fil g i n).Pairwise (· < ·) := by
  rw [fil, List.pairwise_map]
  refine (List.Pairwise.filter _ List.pairwise_lt_range).imp fun h => by omega

theorem fil_mem {g : G} {i : Int} {n : Nat} {x : Int} : x ∈ fil g i n ↔ ∃ a : Nat, x = a ∧ a < n ∧ owner g a = i := by
  rw [fil, List.mem_map]
  constructor
  · rintro ⟨a, h, rfl⟩
    rw [List.mem_filter, List.mem_range] at h
    exact ⟨a, rfl, h.1, by simpa using h.2⟩
  · rintro ⟨a, rfl, h1, h2⟩
    exact ⟨a, by rw [List.mem_filter, List.mem_range]; exact ⟨h1, by simpa using h2⟩, rfl⟩

theorem fil_succ (g : G) (i : Int) (n : Nat) : fil g i (n + 1) = fil g i n ++ (match owner g n == i with | true => [(n : Int)] | false => []) := by
  rw [fil, fil, List.range_succ, List.filter_append, List.map_append]
  congr 1
  cases h : owner g n == i <;> simp [h]

theorem members_fil {g : G} (hm : gMay g = true) (i : Int) : members g i = fil g i (sec g).toNat := by
  have hsg : 0 ≤ sec g := by
    have hB := (gMay_iff.1 hm).1
    have := stw_bd hB
    have := hB.w1
    unfold sec logd; omega
  refine sorted_eq (members_sorted g i) (fil_sorted g i _) fun x => ?_
  rw [fil_mem]
  constructor
  · intro hx
    obtain ⟨k, hk⟩ := List.getElem?_of_mem hx
    cases ho : outG g i with
    | true => rw [members, ho] at hk; simp at hk
    | false =>
      obtain ⟨h0, h1, h2⟩ := where_of_member hm ho hk
      refine ⟨x.toNat, by omega, by omega, ?_⟩
      rw [owner, Int.toNat_of_nonneg h0, h2]
  · rintro ⟨a, rfl, h1, h2⟩
    obtain ⟨j, k, g1, g2, g3⟩ := member_of_where hm (a := (a : Int)) (by omega) (by omega)
    rw [owner, g1] at h2
    subst h2
    exact List.mem_of_getElem? g3

theorem sorted_index {l : List Int} (h : l.Pairwise (· < ·)) {i j : Nat} {x : Int} (hi : l[i]? = some x) (hj : l[j]? = some x) : i = j := by
  rw [List.pairwise_iff_getElem] at h
  obtain ⟨a1, a2⟩ := List.getElem?_eq_some_iff.1 hi
  obtain ⟨b1, b2⟩ := List.getElem?_eq_some_iff.1 hj
  rcases Nat.lt_trichotomy i j with h1 | h1 | h1
  · have := h i j a1 b1 h1; omega
  · exact h1
  · have := h j i b1 a1 h1; omega

theorem fil_prefix (g : G) (i : Int) : ∀ (d n : Nat), ∃ t, fil g i (n + d) = fil g i n ++ t
  | 0, n => ⟨[], by simp⟩
  | d + 1, n => by
    obtain ⟨t, ht⟩ := fil_prefix g i d n
    exact ⟨t ++ _, by rw [← Nat.add_assoc, fil_succ, ht, List.append_assoc]⟩

/-- So many of the same group stand ahead of a sector. -/
theorem where_count {g : G} (hm : gMay g = true) {a : Nat} (h : (a : Int) < sec g) : gWhere g a = (owner g a, ((fil g (owner g a) a).length : Int), 0) := by
  obtain ⟨j, k, g1, g2, g3⟩ := member_of_where hm (a := (a : Int)) (by omega) h
  have ho : owner g a = j := by rw [owner, g1]
  rw [g1, ho]
  rw [members_fil hm] at g3
  obtain ⟨t, ht⟩ := fil_prefix g j ((sec g).toNat - (a + 1)) (a + 1)
  rw [show a + 1 + ((sec g).toNat - (a + 1)) = (sec g).toNat by omega, fil_succ, ho] at ht
  simp only [beq_self_eq_true] at ht
  have h2 : (fil g j (sec g).toNat)[(fil g j a).length]? = some (a : Int) := by
    rw [ht, List.append_assoc, List.getElem?_append_right (Nat.le_refl _)]; simp
  have := sorted_index (fil_sorted g j _) g3 h2
  rw [this]
end Go.Proofs.Ytdncagppilehgaa.AL
